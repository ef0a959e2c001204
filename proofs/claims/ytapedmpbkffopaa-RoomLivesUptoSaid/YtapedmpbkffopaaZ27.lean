/-
  The walk of the reference's ruled, kind by kind: 18 (take), 19 (put); The walk of the reference's Right; The walk of the reference's ruled (whole) and Dims. Conditions: where the theorems name them.
-/
import Derived.Test.YtapedmpbkffopaaZ02
import Derived.Test.YtapedmpbkffopaaZ23
import Derived.Test.YtapedmpbkffopaaZ24
import Derived.Test.YtapedmpbkffopaaZ26
section
namespace Go.Proofs.Ytapedmpbkffopaa
set_option linter.unusedVariables false
open Go.RowKit Adj
set_option maxRecDepth 100000 in
set_option maxHeartbeats 8000000 in
theorem Ar.ruled_take (val : Value) (op : AdjD.Op) (A : Option Addr) (cap : Nat) (d f : List Int) (B : Nat) (w : World) (hB : B ≤ w.heap.size) (hsh : Ar.Short op) (hcap : 2 ≤ cap) (hcap2 : cap ≤ 9223372036854775807) (hz : ∀ x ∈ [d, f], (AdjV.size x).2 = 0) (hop : Ar.OpAt w B val op) (hargs : Ar.ListsAt w B A [d, f]) (hk : op.kind = 18) :
    Calls Try.prog 24 #[val, .slice A 2 cap] w fun e w' => Ar.RefOut w w' (AdjD.ruled op [d, f]) e := by
 have HRU0 := Lib.hid (show AdjD.ruled op [d, f] = if d.length = 0 then ([], 6) else (f ++ d.drop 1, 0) by unfold AdjD.ruled; simp [hk])
 have hargs2 := hargs
 obtain ⟨b, off, rfl, hbB, hc⟩ := hargs2 (by simp)
 obtain ⟨v0, cv0, A0, c0, rfl, i0, l0, m0⟩ := hc 0 (by simp)
 obtain ⟨v1', cv1, A1, c1, rfl, i1', l1, m1⟩ := hc 1 (by simp)
 rw [Nat.add_zero] at cv0
 simp only [List.getElem_cons_zero, List.getElem_cons_succ] at cv0 i0 l0 cv1 i1' l1
 have HI0 := Lib.hid i0
 have HI1 := Lib.hid i1'
 have hbw : b < w.heap.size := by omega
 clear hc i0 i1'
 have HOP := Lib.hid (fun W (hb : Below w.heap.size w W) => (hop.below (hb.mono hB)).up (Nat.le_trans hB hb.size))
 have HAR := Lib.hid (fun W (hb : Below w.heap.size w W) => (hargs.below (hb.mono hB)).up (Nat.le_trans hB hb.size))
 obtain ⟨v1, v2, v3, v4, v5, rfl, ⟨D, cD, rfl, iD, lD, mD⟩, ⟨T, ct, rfl, it, lt, mt⟩, ⟨O, co, rfl, io, lo, mo⟩, ⟨I, ci, rfl, ii, li, mi⟩, ⟨S, cs, rfl, is, ls, ms⟩⟩ := hop
 have HL := Lib.hid (fun W (hb : Below w.heap.size w W) => And.intro ((iD.below (hb.mono hB)).up (Nat.le_trans hB hb.size)) ((it.below (hb.mono hB)).up (Nat.le_trans hB hb.size)))
 have HX := Lib.hid (Blk.new w 37 #[.int .i64 op.kind, .slice D op.dims.length cD, .slice T op.at_.length ct, .slice O op.lo.length co, .slice I op.hi.length ci, .slice S op.step.length cs, .int .i64 op.value])
 have HB := Lib.hid ((Below.refl w.heap.size w).alloc (Nat.le_refl _) (.cells #[.int .i64 op.kind, .slice D op.dims.length cD, .slice T op.at_.length ct, .slice O op.lo.length co, .slice I op.hi.length ci, .slice S op.step.length cs, .int .i64 op.value] 37))
 obtain ⟨w0, hw0⟩ : ∃ w0, w.alloc (.cells #[.int .i64 op.kind, .slice D op.dims.length cD, .slice T op.at_.length ct, .slice O op.lo.length co, .slice I op.hi.length ci, .slice S op.step.length cs, .int .i64 op.value] 37) = w0 := ⟨_, rfl⟩
 rw [hw0] at HX HB
 have hws : w.heap.size < w0.heap.size := HX.out.lt
 have HM := Lib.hid (show (op.dims.length ≤ cD ∧ op.at_.length ≤ ct ∧ op.lo.length ≤ co ∧ op.hi.length ≤ ci ∧ op.step.length ≤ cs) ∧ cD ≤ 9223372036854775807 ∧ ct ≤ 9223372036854775807 from ⟨⟨lD, lt, lo, li, ls⟩, mD, mt⟩)
 have HZ := Lib.hid hz
 clear iD it io ii is lD lt lo li ls mD mt mo mi ms hargs hz
 skip
 have HKK := Lib.hid hk
 rw [hk] at HX HOP hw0 ⊢
 have x0 : w0.cell? ⟨w.heap.size, 0, none⟩ = some (.int .i64 18) := HX.out.cell 0
 have x1 : w0.cell? ⟨w.heap.size, 1, none⟩ = some (.slice D op.dims.length cD) := HX.out.cell 1
 have x2 : w0.cell? ⟨w.heap.size, 2, none⟩ = some (.slice T op.at_.length ct) := HX.out.cell 2
 have x3 : w0.cell? ⟨w.heap.size, 3, none⟩ = some (.slice O op.lo.length co) := HX.out.cell 3
 have x4 : w0.cell? ⟨w.heap.size, 4, none⟩ = some (.slice I op.hi.length ci) := HX.out.cell 4
 have x5 : w0.cell? ⟨w.heap.size, 5, none⟩ = some (.slice S op.step.length cs) := HX.out.cell 5
 have x6 : w0.cell? ⟨w.heap.size, 6, none⟩ = some (.int .i64 op.value) := HX.out.cell 6
 clear hk
 have hz := HZ.out d (by simp)
 have hzf := HZ.out f (by simp)
 obtain ⟨hd6, hdp, _⟩ := AdjV.size_fine hz
 obtain ⟨hf6, hfp, _⟩ := AdjV.size_fine hzf
 have HDP := Lib.hid (And.intro hdp hfp)
 have ca0 := (HB.out.cell (p := ⟨b, off, none⟩) (by show b < w.heap.size; omega)).trans cv0
 have ca1 := (HB.out.cell (p := ⟨b, off + 1, none⟩) (by show b < w.heap.size; omega)).trans cv1
 have i1 : (0 : Int) < 2 := by omega
 have i2 : (1 : Int) < 2 := by omega
 clear cv0 cv1 hz hzf hdp hfp
 by_cases hd0 : d.length = 0
 ·have HV := Lib.hid (show AdjD.ruled op [d, f] = ([], 6) by rw [HRU0.out, if_pos hd0])
  rw [hd0] at ca0
  clear hd0
  go_enter Try.func24, Try.ntmps24
  go_wp2_with fail
  go_ret2
  rw [HV.out]
  exact ⟨_, rfl, Ar.SlAt.nil _ _, HB.out⟩
 ·have q0 : ((d.length : Int) == 0) = false := by rw [beq_eq_false_iff_ne]; omega
  have HRU := Lib.hid (show AdjD.ruled op [d, f] = (f ++ d.drop 1, 0) by rw [HRU0.out, if_neg hd0])
  obtain ⟨b0, o0, rfl, hb0, _⟩ := HI0.out (by omega)
  have hl1 : (1 : Int) ≤ (d.length : Int) := by omega
  by_cases hc1 : c0 = 1
  ·have hd1 : d.length = 1 := by omega
   subst hc1
   have hdd : d.drop 1 = [] := List.drop_eq_nil_of_le (by omega)
   rw [hd1] at ca0
   have HD1 := Lib.hid (And.intro hd1 hdd)
   clear hd0 hdd hd1 q0 l0 hl1 hd6 m0
   go_enter Try.func24, Try.ntmps24
   go_wp2_with fail
   refine wp_region_T (fun w' => w'.cell? ⟨b, off, none⟩ = some (.slice (some ⟨b0, o0, none⟩) 1 1) ∧ w'.cell? ⟨b, off + 1, none⟩ = some (.slice A1 f.length c1)) 7 (fun _ => True) 7 10 rfl (by kernel_rfl) ⟨⟨ca0, ca1⟩, trivial⟩ (fun hHeld => ?_)
   simp only [List.replicate_succ, List.replicate_zero]
   refine tk (v := ?_) [1, 2] 0 119 hHeld ?_ ?_; rotate_left; (intro w h; (try dsimp only at h); go_simp; try with_reducible rfl); try simp only [Act.put, zA, zB, zC]
   refine tk (v := ?_) [2] 1 120 hHeld ?_ ?_; rotate_left; (intro w h; (try dsimp only at h); go_simp; try with_reducible rfl); try simp only [Act.put, zA, zB, zC]
   refine tk (v := ?_) [] 2 121 hHeld ?_ ?_; rotate_left; (intro w h; (try dsimp only at h); go_simp; try with_reducible rfl); try simp only [Act.put, zA, zB, zC]
   refine tk (v := ?_) [4, 5, 6] 3 122 hHeld ?_ ?_; rotate_left; (intro w h; (try dsimp only at h); go_simp; try with_reducible rfl); try simp only [Act.put, zA, zB, zC]
   refine tk (v := ?_) [5, 6] 4 123 hHeld ?_ ?_; rotate_left; (intro w h; (try dsimp only at h); go_simp; try with_reducible rfl); try simp only [Act.put, zA, zB, zC]
   refine tk (v := ?_) [6] 5 124 hHeld ?_ ?_; rotate_left; (intro w h; (try dsimp only at h); go_simp; try with_reducible rfl); try simp only [Act.put, zA, zB, zC]
   refine tk (v := ?_) [] 6 125 hHeld ?_ ?_; rotate_left; (intro w h; (try dsimp only at h); go_simp; try with_reducible rfl); try simp only [Act.put, zA, zB, zC]
   have HBq := Lib.hid (show Below w.heap.size w w0.drew from HB.out.drew)
   clear hHeld x0 x1 x2 x3 x4 x5 x6 ca0 ca1
   generalize w0.drew = wq at HBq ⊢
   have hI0 := (HI0.out.below (HBq.out.mono hB)).up (Nat.le_trans hB HBq.out.size)
   have HC := Lib.hid (by have h := Ar.both2_any A1 (some ⟨b0, o0, none⟩) c1 0 f (d.drop 1) wq.heap.size wq (Nat.le_refl _) (by omega) (by rw [HD1.out.2]; simp) ((HI1.out.below (HBq.out.mono hB)).up (Nat.le_trans hB HBq.out.size)) (fun h => by rw [HD1.out.2] at h; simp at h); rwa [show (d.drop 1).length = 0 by rw [HD1.out.2]; rfl] at h)
   obtain ⟨L, hL⟩ : ∃ L, f ++ d.drop 1 = L := ⟨_, rfl⟩
   rw [hL] at HC HRU
   clear hI0 hL
   refine wpT_tail [_, _, _] 7 [8, 9] rfl (by kernel_rfl) ?_
   go_wp2_with fail
   ((with_reducible refine HC.out.mono ?_); rintro e w2 ⟨v, rfl, ho, hb⟩)
   have HB2 := Lib.hid (HBq.out.trans (hb.mono HBq.out.size))
   have HSL := Lib.hid (Ar.sl_own ho)
   clear ho hb
   go_wp2_with fail
   go_ret2
   rw [HRU.out]
   exact ⟨_, rfl, HSL.out, HB2.out⟩
  ·have hc2 : 2 ≤ c0 := by omega
   clear hd0 hc1
   go_enter Try.func24, Try.ntmps24
   go_wp2_with fail
   refine wp_region_T (fun w' => w'.cell? ⟨b, off, none⟩ = some (.slice (some ⟨b0, o0, none⟩) d.length c0) ∧ w'.cell? ⟨b, off + 1, none⟩ = some (.slice A1 f.length c1)) 7 (fun _ => True) 7 10 rfl (by kernel_rfl) ⟨⟨ca0, ca1⟩, trivial⟩ (fun hHeld => ?_)
   simp only [List.replicate_succ, List.replicate_zero]
   refine tk (v := ?_) [1, 2] 0 119 hHeld ?_ ?_; rotate_left; (intro w h; (try dsimp only at h); go_simp; try with_reducible rfl); try simp only [Act.put, zA, zB, zC]
   refine tk (v := ?_) [2] 1 120 hHeld ?_ ?_; rotate_left; (intro w h; (try dsimp only at h); go_simp; try with_reducible rfl); try simp only [Act.put, zA, zB, zC]
   refine tk (v := ?_) [] 2 121 hHeld ?_ ?_; rotate_left; (intro w h; (try dsimp only at h); go_simp; try with_reducible rfl); try simp only [Act.put, zA, zB, zC]
   refine tk (v := ?_) [4, 5, 6] 3 122 hHeld ?_ ?_; rotate_left; (intro w h; (try dsimp only at h); go_simp; try with_reducible rfl); try simp only [Act.put, zA, zB, zC]
   refine tk (v := ?_) [5, 6] 4 123 hHeld ?_ ?_; rotate_left; (intro w h; (try dsimp only at h); go_simp; try with_reducible rfl); try simp only [Act.put, zA, zB, zC]
   refine tk (v := ?_) [6] 5 124 hHeld ?_ ?_; rotate_left; (intro w h; (try dsimp only at h); go_simp; try with_reducible rfl); try simp only [Act.put, zA, zB, zC]
   refine tk (v := ?_) [] 6 125 hHeld ?_ ?_; rotate_left; (intro w h; (try dsimp only at h); go_simp; try with_reducible rfl); try simp only [Act.put, zA, zB, zC]
   have HBq := Lib.hid (show Below w.heap.size w w0.drew from HB.out.drew)
   clear hHeld x0 x1 x2 x3 x4 x5 x6 ca0 ca1
   generalize w0.drew = wq at HBq ⊢
   have hI0 := (HI0.out.below (HBq.out.mono hB)).up (Nat.le_trans hB HBq.out.size)
   have HC := Lib.hid (by have h := Ar.both2_any A1 (some ⟨b0, o0 + 1, none⟩) c1 (c0 - 1) f (d.drop 1) wq.heap.size wq (Nat.le_refl _) (by omega) (by rw [List.length_drop]; omega) ((HI1.out.below (HBq.out.mono hB)).up (Nat.le_trans hB HBq.out.size)) (Ar.ints_drop hI0 1); rwa [show (d.drop 1).length = d.length - 1 by rw [List.length_drop]] at h)
   obtain ⟨L, hL⟩ : ∃ L, f ++ d.drop 1 = L := ⟨_, rfl⟩
   rw [hL] at HC HRU
   clear hI0 hL
   refine wpT_tail [_, _, _] 7 [8, 9] rfl (by kernel_rfl) ?_
   go_wp2_with fail
   ((with_reducible refine HC.out.mono ?_); rintro e w2 ⟨v, rfl, ho, hb⟩)
   have HB2 := Lib.hid (HBq.out.trans (hb.mono HBq.out.size))
   have HSL := Lib.hid (Ar.sl_own ho)
   clear ho hb
   go_wp2_with fail
   go_ret2
   rw [HRU.out]
   exact ⟨_, rfl, HSL.out, HB2.out⟩
set_option maxRecDepth 100000 in
set_option maxHeartbeats 8000000 in
theorem Ar.ruled_put (val : Value) (op : AdjD.Op) (A : Option Addr) (cap : Nat) (d f : List Int) (B : Nat) (w : World) (hB : B ≤ w.heap.size) (hsh : Ar.Short op) (hcap : 2 ≤ cap) (hcap2 : cap ≤ 9223372036854775807) (hz : ∀ x ∈ [d, f], (AdjV.size x).2 = 0) (hop : Ar.OpAt w B val op) (hargs : Ar.ListsAt w B A [d, f]) (hk : op.kind = 19) :
    Calls Try.prog 24 #[val, .slice A 2 cap] w fun e w' => Ar.RefOut w w' (AdjD.ruled op [d, f]) e := by
 have HRU0 := Lib.hid (show AdjD.ruled op [d, f] = if op.dims.length ≠ 1 ∨ d.length < f.length ∨ d.take f.length ≠ f then ([], 6) else (op.dims ++ d.drop f.length, 0) by unfold AdjD.ruled; simp [hk])
 have hargs2 := hargs
 obtain ⟨b, off, rfl, hbB, hc⟩ := hargs2 (by simp)
 obtain ⟨v0, cv0, A0, c0, rfl, i0, l0, m0⟩ := hc 0 (by simp)
 obtain ⟨v1', cv1, A1, c1, rfl, i1', l1, m1⟩ := hc 1 (by simp)
 rw [Nat.add_zero] at cv0
 simp only [List.getElem_cons_zero, List.getElem_cons_succ] at cv0 i0 l0 cv1 i1' l1
 have HI0 := Lib.hid i0
 have HI1 := Lib.hid i1'
 have hbw : b < w.heap.size := by omega
 clear hc i0 i1'
 have HOP := Lib.hid (fun W (hb : Below w.heap.size w W) => (hop.below (hb.mono hB)).up (Nat.le_trans hB hb.size))
 have HAR := Lib.hid (fun W (hb : Below w.heap.size w W) => (hargs.below (hb.mono hB)).up (Nat.le_trans hB hb.size))
 obtain ⟨v1, v2, v3, v4, v5, rfl, ⟨D, cD, rfl, iD, lD, mD⟩, ⟨T, ct, rfl, it, lt, mt⟩, ⟨O, co, rfl, io, lo, mo⟩, ⟨I, ci, rfl, ii, li, mi⟩, ⟨S, cs, rfl, is, ls, ms⟩⟩ := hop
 have HL := Lib.hid (fun W (hb : Below w.heap.size w W) => And.intro ((iD.below (hb.mono hB)).up (Nat.le_trans hB hb.size)) ((it.below (hb.mono hB)).up (Nat.le_trans hB hb.size)))
 have HX := Lib.hid (Blk.new w 37 #[.int .i64 op.kind, .slice D op.dims.length cD, .slice T op.at_.length ct, .slice O op.lo.length co, .slice I op.hi.length ci, .slice S op.step.length cs, .int .i64 op.value])
 have HB := Lib.hid ((Below.refl w.heap.size w).alloc (Nat.le_refl _) (.cells #[.int .i64 op.kind, .slice D op.dims.length cD, .slice T op.at_.length ct, .slice O op.lo.length co, .slice I op.hi.length ci, .slice S op.step.length cs, .int .i64 op.value] 37))
 obtain ⟨w0, hw0⟩ : ∃ w0, w.alloc (.cells #[.int .i64 op.kind, .slice D op.dims.length cD, .slice T op.at_.length ct, .slice O op.lo.length co, .slice I op.hi.length ci, .slice S op.step.length cs, .int .i64 op.value] 37) = w0 := ⟨_, rfl⟩
 rw [hw0] at HX HB
 have hws : w.heap.size < w0.heap.size := HX.out.lt
 have HM := Lib.hid (show (op.dims.length ≤ cD ∧ op.at_.length ≤ ct ∧ op.lo.length ≤ co ∧ op.hi.length ≤ ci ∧ op.step.length ≤ cs) ∧ cD ≤ 9223372036854775807 ∧ ct ≤ 9223372036854775807 from ⟨⟨lD, lt, lo, li, ls⟩, mD, mt⟩)
 have HZ := Lib.hid hz
 clear iD it io ii is lD lt lo li ls mD mt mo mi ms hargs hz
 skip
 have HKK := Lib.hid hk
 rw [hk] at HX HOP hw0 ⊢
 have x0 : w0.cell? ⟨w.heap.size, 0, none⟩ = some (.int .i64 19) := HX.out.cell 0
 have x1 : w0.cell? ⟨w.heap.size, 1, none⟩ = some (.slice D op.dims.length cD) := HX.out.cell 1
 have x2 : w0.cell? ⟨w.heap.size, 2, none⟩ = some (.slice T op.at_.length ct) := HX.out.cell 2
 have x3 : w0.cell? ⟨w.heap.size, 3, none⟩ = some (.slice O op.lo.length co) := HX.out.cell 3
 have x4 : w0.cell? ⟨w.heap.size, 4, none⟩ = some (.slice I op.hi.length ci) := HX.out.cell 4
 have x5 : w0.cell? ⟨w.heap.size, 5, none⟩ = some (.slice S op.step.length cs) := HX.out.cell 5
 have x6 : w0.cell? ⟨w.heap.size, 6, none⟩ = some (.int .i64 op.value) := HX.out.cell 6
 clear hk
 have hz := HZ.out d (by simp)
 have hzf := HZ.out f (by simp)
 obtain ⟨hd6, hdp, _⟩ := AdjV.size_fine hz
 obtain ⟨hf6, hfp, _⟩ := AdjV.size_fine hzf
 have HDP := Lib.hid (And.intro hdp hfp)
 have ca0 := (HB.out.cell (p := ⟨b, off, none⟩) (by show b < w.heap.size; omega)).trans cv0
 have ca1 := (HB.out.cell (p := ⟨b, off + 1, none⟩) (by show b < w.heap.size; omega)).trans cv1
 have i1 : (0 : Int) < 2 := by omega
 have i2 : (1 : Int) < 2 := by omega
 clear cv0 cv1 hz hzf hdp hfp
 have HBAD := Lib.hid (show (op.dims.length ≠ 1 ∨ d.length < f.length ∨ d.take f.length ≠ f) → AdjD.ruled op [d, f] = ([], 6) from fun h => by rw [HRU0.out, if_pos h])
 by_cases a1 : op.dims.length = 1
 ·have HA1 := Lib.hid a1
  rw [a1] at x1 hw0 HX ⊢
  clear a1
  by_cases a2 : d.length < f.length
  ·have HV := Lib.hid (HBAD.out (.inr (.inl a2)))
   go_enter Try.func24, Try.ntmps24
   go_wp2_with fail
   go_quiet (fail)
   have HBz := Lib.hid (below_drewN HB.out nq)
   clear x0 x1 x2 x3 x4 x5 x6 ca0 ca1
   generalize w0.drewN nq = wz at HBz ⊢
   go_wp2_with fail
   go_ret2
   rw [HV.out]
   exact ⟨_, rfl, Ar.SlAt.nil _ _, HBz.out⟩
  ·have q2 : decide ((d.length : Int) < (f.length : Int)) = false := by simpa using a2
   have hEQ : ∀ n, Calls Try.prog 26 #[.slice A0 f.length c0, .slice A1 f.length c1] (w0.drewN n) fun e w' => e = .returned (.bool (decide (d.take f.length = f))) ∧ ∃ m, w' = (w0.drewN n).drewN m := fun n => by
    have hb := below_drewN HB.out n
    have h := Ar.same2_any A0 A1 c0 c1 (d.take f.length) f B B (w0.drewN n) (by rw [List.length_take]; omega) (by omega) (Ar.ints_take (HI0.out.below (hb.mono hB)) f.length) (HI1.out.below (hb.mono hB))
    rwa [show (d.take f.length).length = f.length by rw [List.length_take]; omega] at h
   by_cases a3 : d.take f.length = f
   ·rw [decide_eq_true a3] at hEQ
    have HRU := Lib.hid (show AdjD.ruled op [d, f] = (op.dims ++ d.drop f.length, 0) by
     rw [HRU0.out, if_neg (fun h => h.elim (fun h => h HA1.out) (fun h => h.elim a2 (fun h => h a3)))])
    clear a3
    go_enter Try.func24, Try.ntmps24
    go_wp2_with fail
    go_quiet (exact Calls.quiet_of (hEQ _))
    have HBz := Lib.hid (below_drewN HB.out nq)
    have y0 : (w0.drewN nq).cell? ⟨b, off, none⟩ = some (.slice A0 d.length c0) := ca0
    have y2 : (w0.drewN nq).cell? ⟨b, off + 1, none⟩ = some (.slice A1 f.length c1) := ca1
    have y1 : (w0.drewN nq).cell? ⟨w.heap.size, 1, none⟩ = some (.slice D 1 cD) := x1
    clear x0 x1 x2 x3 x4 x5 x6 ca0 ca1 hEQ
    generalize w0.drewN nq = wz at HBz y0 y1 y2 ⊢
    have HD6 := Lib.hid hd6
    have ha2 : f.length ≤ d.length := by omega
    have ha3 : (f.length : Int) ≤ (d.length : Int) := by omega
    have ha4 : (0 : Int) ≤ (f.length : Int) := by omega
    by_cases hd0 : d.length = 0
    ·have hf0 : f.length = 0 := by omega
     rw [hd0] at y0
     rw [hf0] at y2 ⊢
     have HD0 := Lib.hid (And.intro hd0 hf0)
     have HDN := Lib.hid (show d.drop f.length = [] by rw [hf0]; exact List.length_eq_zero_iff.1 hd0)
     clear hd0 l0 l1 hd6 hf6 q2 a2 ha2 ha3 ha4 m0
     cases A0 with
     | none =>
      go_wp2_with fail
      refine wp_region_T (fun w' => w'.cell? ⟨b, off, none⟩ = some (.slice none 0 c0) ∧ w'.cell? ⟨b, off + 1, none⟩ = some (.slice A1 0 c1) ∧ w'.cell? ⟨w.heap.size, 1, none⟩ = some (.slice D 1 cD)) 10 (fun _ => True) 10 13 rfl (by kernel_rfl) ⟨⟨y0, y2, y1⟩, trivial⟩ (fun hHeld => ?_)
      simp only [List.replicate_succ, List.replicate_zero]
      refine tk (v := ?_) [1] 0 159 hHeld ?_ ?_; rotate_left; (intro w h; (try dsimp only at h); go_simp; try with_reducible rfl); try simp only [Act.put, zA, zB, zC]
      refine tk (v := ?_) [] 1 160 hHeld ?_ ?_; rotate_left; (intro w h; (try dsimp only at h); go_simp; try with_reducible rfl); try simp only [Act.put, zA, zB, zC]
      refine tk (v := ?_) [3, 4, 9] 2 161 hHeld ?_ ?_; rotate_left; (intro w h; (try dsimp only at h); go_simp; try with_reducible rfl); try simp only [Act.put, zA, zB, zC]
      refine tk (v := ?_) [4, 9] 3 162 hHeld ?_ ?_; rotate_left; (intro w h; (try dsimp only at h); go_simp; try with_reducible rfl); try simp only [Act.put, zA, zB, zC]
      refine tk (v := ?_) [9] 4 163 hHeld ?_ ?_; rotate_left; (intro w h; (try dsimp only at h); go_simp; try with_reducible rfl); try simp only [Act.put, zA, zB, zC]
      refine tk (v := ?_) [6, 7, 8, 9] 5 164 hHeld ?_ ?_; rotate_left; (intro w h; (try dsimp only at h); go_simp; try with_reducible rfl); try simp only [Act.put, zA, zB, zC]
      refine tk (v := ?_) [7, 8, 9] 6 165 hHeld ?_ ?_; rotate_left; (intro w h; (try dsimp only at h); go_simp; try with_reducible rfl); try simp only [Act.put, zA, zB, zC]
      refine tk (v := ?_) [8, 9] 7 166 hHeld ?_ ?_; rotate_left; (intro w h; (try dsimp only at h); go_simp; try with_reducible rfl); try simp only [Act.put, zA, zB, zC]
      refine tk (v := ?_) [9] 8 167 hHeld ?_ ?_; rotate_left; (intro w h; (try dsimp only at h); go_simp; try with_reducible rfl); try simp only [Act.put, zA, zB, zC]
      refine tk (v := ?_) [] 9 168 hHeld ?_ ?_; rotate_left; (intro w h; (try dsimp only at h); go_simp; try with_reducible rfl); try simp only [Act.put, zA, zB, zC]
      clear hHeld y0 y1 y2
      have HBq := Lib.hid (show Below w.heap.size w wz.drew from HBz.out.drew)
      generalize wz.drew = wq at HBq ⊢
      have hI0 := (HI0.out.below (HBq.out.mono hB)).up (Nat.le_trans hB HBq.out.size)
      have HC := Lib.hid (by
       have h := Ar.both2_any D none cD c0 op.dims (d.drop f.length) wq.heap.size wq (Nat.le_refl _) (by rw [HA1.out]; omega) (by rw [List.length_drop]; have := HD6.out; omega) (HL.out wq HBq.out).1 (fun h => by rw [HDN.out] at h; simp at h)
       rwa [HA1.out, (show (d.drop f.length).length = 0 by rw [HDN.out]; rfl)] at h)
      obtain ⟨L, hL⟩ : ∃ L, op.dims ++ d.drop f.length = L := ⟨_, rfl⟩
      rw [hL] at HC HRU
      clear hI0 hL
      refine wpT_tail [_, _, _] 10 [11, 12] rfl (by kernel_rfl) ?_
      go_wp2_with fail
      ((with_reducible refine HC.out.mono ?_); rintro e w2 ⟨v, rfl, ho, hb⟩)
      have HB2 := Lib.hid (HBq.out.trans (hb.mono HBq.out.size))
      have HSL := Lib.hid (Ar.sl_own ho)
      clear ho hb
      go_wp2_with fail
      go_ret2
      rw [HRU.out]
      exact ⟨_, rfl, HSL.out, HB2.out⟩
     | some a0 =>
      go_wp2_with fail
      refine wp_region_T (fun w' => w'.cell? ⟨b, off, none⟩ = some (.slice (some a0) 0 c0) ∧ w'.cell? ⟨b, off + 1, none⟩ = some (.slice A1 0 c1) ∧ w'.cell? ⟨w.heap.size, 1, none⟩ = some (.slice D 1 cD)) 10 (fun _ => True) 10 13 rfl (by kernel_rfl) ⟨⟨y0, y2, y1⟩, trivial⟩ (fun hHeld => ?_)
      simp only [List.replicate_succ, List.replicate_zero]
      refine tk (v := ?_) [1] 0 159 hHeld ?_ ?_; rotate_left; (intro w h; (try dsimp only at h); go_simp; try with_reducible rfl); try simp only [Act.put, zA, zB, zC]
      refine tk (v := ?_) [] 1 160 hHeld ?_ ?_; rotate_left; (intro w h; (try dsimp only at h); go_simp; try with_reducible rfl); try simp only [Act.put, zA, zB, zC]
      refine tk (v := ?_) [3, 4, 9] 2 161 hHeld ?_ ?_; rotate_left; (intro w h; (try dsimp only at h); go_simp; try with_reducible rfl); try simp only [Act.put, zA, zB, zC]
      refine tk (v := ?_) [4, 9] 3 162 hHeld ?_ ?_; rotate_left; (intro w h; (try dsimp only at h); go_simp; try with_reducible rfl); try simp only [Act.put, zA, zB, zC]
      refine tk (v := ?_) [9] 4 163 hHeld ?_ ?_; rotate_left; (intro w h; (try dsimp only at h); go_simp; try with_reducible rfl); try simp only [Act.put, zA, zB, zC]
      refine tk (v := ?_) [6, 7, 8, 9] 5 164 hHeld ?_ ?_; rotate_left; (intro w h; (try dsimp only at h); go_simp; try with_reducible rfl); try simp only [Act.put, zA, zB, zC]
      refine tk (v := ?_) [7, 8, 9] 6 165 hHeld ?_ ?_; rotate_left; (intro w h; (try dsimp only at h); go_simp; try with_reducible rfl); try simp only [Act.put, zA, zB, zC]
      refine tk (v := ?_) [8, 9] 7 166 hHeld ?_ ?_; rotate_left; (intro w h; (try dsimp only at h); go_simp; try with_reducible rfl); try simp only [Act.put, zA, zB, zC]
      refine tk (v := ?_) [9] 8 167 hHeld ?_ ?_; rotate_left; (intro w h; (try dsimp only at h); go_simp; try with_reducible rfl); try simp only [Act.put, zA, zB, zC]
      refine tk (v := ?_) [] 9 168 hHeld ?_ ?_; rotate_left; (intro w h; (try dsimp only at h); go_simp; try with_reducible rfl); try simp only [Act.put, zA, zB, zC]
      clear hHeld y0 y1 y2
      have HBq := Lib.hid (show Below w.heap.size w wz.drew from HBz.out.drew)
      generalize wz.drew = wq at HBq ⊢
      have hI0 := (HI0.out.below (HBq.out.mono hB)).up (Nat.le_trans hB HBq.out.size)
      have HC := Lib.hid (by
       have h := Ar.both2_any D (some a0) cD c0 op.dims (d.drop f.length) wq.heap.size wq (Nat.le_refl _) (by rw [HA1.out]; omega) (by rw [List.length_drop]; have := HD6.out; omega) (HL.out wq HBq.out).1 (fun h => by rw [HDN.out] at h; simp at h)
       rwa [HA1.out, (show (d.drop f.length).length = 0 by rw [HDN.out]; rfl)] at h)
      obtain ⟨L, hL⟩ : ∃ L, op.dims ++ d.drop f.length = L := ⟨_, rfl⟩
      rw [hL] at HC HRU
      clear hI0 hL
      refine wpT_tail [_, _, _] 10 [11, 12] rfl (by kernel_rfl) ?_
      go_wp2_with fail
      ((with_reducible refine HC.out.mono ?_); rintro e w2 ⟨v, rfl, ho, hb⟩)
      have HB2 := Lib.hid (HBq.out.trans (hb.mono HBq.out.size))
      have HSL := Lib.hid (Ar.sl_own ho)
      clear ho hb
      go_wp2_with fail
      go_ret2
      rw [HRU.out]
      exact ⟨_, rfl, HSL.out, HB2.out⟩
    ·obtain ⟨b0, o0, rfl, hb0, _⟩ := HI0.out (by omega)
     by_cases hc1 : c0 = f.length
     ·subst hc1
      have hdl : d.length = f.length := by omega
      rw [hdl] at y0
      have HDN := Lib.hid (show d.drop f.length = [] by rw [← hdl]; simp)
      clear hd0 hdl l0 ha2 ha3 a2 q2 hd6 m0 hb0
      go_wp2_with fail
      refine wp_region_T (fun w' => w'.cell? ⟨b, off, none⟩ = some (.slice (some ⟨b0, o0, none⟩) f.length f.length) ∧ w'.cell? ⟨b, off + 1, none⟩ = some (.slice A1 f.length c1) ∧ w'.cell? ⟨w.heap.size, 1, none⟩ = some (.slice D 1 cD)) 10 (fun _ => True) 10 13 rfl (by kernel_rfl) ⟨⟨y0, y2, y1⟩, trivial⟩ (fun hHeld => ?_)
      simp only [List.replicate_succ, List.replicate_zero]
      refine tk (v := ?_) [1] 0 159 hHeld ?_ ?_; rotate_left; (intro w h; (try dsimp only at h); go_simp; try with_reducible rfl); try simp only [Act.put, zA, zB, zC]
      refine tk (v := ?_) [] 1 160 hHeld ?_ ?_; rotate_left; (intro w h; (try dsimp only at h); go_simp; try with_reducible rfl); try simp only [Act.put, zA, zB, zC]
      refine tk (v := ?_) [3, 4, 9] 2 161 hHeld ?_ ?_; rotate_left; (intro w h; (try dsimp only at h); go_simp; try with_reducible rfl); try simp only [Act.put, zA, zB, zC]
      refine tk (v := ?_) [4, 9] 3 162 hHeld ?_ ?_; rotate_left; (intro w h; (try dsimp only at h); go_simp; try with_reducible rfl); try simp only [Act.put, zA, zB, zC]
      refine tk (v := ?_) [9] 4 163 hHeld ?_ ?_; rotate_left; (intro w h; (try dsimp only at h); go_simp; try with_reducible rfl); try simp only [Act.put, zA, zB, zC]
      refine tk (v := ?_) [6, 7, 8, 9] 5 164 hHeld ?_ ?_; rotate_left; (intro w h; (try dsimp only at h); go_simp; try with_reducible rfl); try simp only [Act.put, zA, zB, zC]
      refine tk (v := ?_) [7, 8, 9] 6 165 hHeld ?_ ?_; rotate_left; (intro w h; (try dsimp only at h); go_simp; try with_reducible rfl); try simp only [Act.put, zA, zB, zC]
      refine tk (v := ?_) [8, 9] 7 166 hHeld ?_ ?_; rotate_left; (intro w h; (try dsimp only at h); go_simp; try with_reducible rfl); try simp only [Act.put, zA, zB, zC]
      refine tk (v := ?_) [9] 8 167 hHeld ?_ ?_; rotate_left; (intro w h; (try dsimp only at h); go_simp; try with_reducible rfl); try simp only [Act.put, zA, zB, zC]
      refine tk (v := ?_) [] 9 168 hHeld ?_ ?_; rotate_left; (intro w h; (try dsimp only at h); go_simp; try with_reducible rfl); try simp only [Act.put, zA, zB, zC]
      clear hHeld y0 y1 y2
      have HBq := Lib.hid (show Below w.heap.size w wz.drew from HBz.out.drew)
      generalize wz.drew = wq at HBq ⊢
      have hI0 := (HI0.out.below (HBq.out.mono hB)).up (Nat.le_trans hB HBq.out.size)
      have HC := Lib.hid (by
       have h := Ar.both2_any D (some ⟨b0, o0, none⟩) cD 0 op.dims (d.drop f.length) wq.heap.size wq (Nat.le_refl _) (by rw [HA1.out]; omega) (by rw [List.length_drop]; have := HD6.out; omega) (HL.out wq HBq.out).1 (fun h => by rw [HDN.out] at h; simp at h)
       rwa [HA1.out, (show (d.drop f.length).length = 0 by rw [HDN.out]; rfl)] at h)
      obtain ⟨L, hL⟩ : ∃ L, op.dims ++ d.drop f.length = L := ⟨_, rfl⟩
      rw [hL] at HC HRU
      clear hI0 hL
      refine wpT_tail [_, _, _] 10 [11, 12] rfl (by kernel_rfl) ?_
      go_wp2_with fail
      ((with_reducible refine HC.out.mono ?_); rintro e w2 ⟨v, rfl, ho, hb⟩)
      have HB2 := Lib.hid (HBq.out.trans (hb.mono HBq.out.size))
      have HSL := Lib.hid (Ar.sl_own ho)
      clear ho hb
      go_wp2_with fail
      go_ret2
      rw [HRU.out]
      exact ⟨_, rfl, HSL.out, HB2.out⟩
     ·have hc2 : f.length < c0 := by omega
      clear hd0 hc1 a2
      go_wp2_with fail
      refine wp_region_T (fun w' => w'.cell? ⟨b, off, none⟩ = some (.slice (some ⟨b0, o0, none⟩) d.length c0) ∧ w'.cell? ⟨b, off + 1, none⟩ = some (.slice A1 f.length c1) ∧ w'.cell? ⟨w.heap.size, 1, none⟩ = some (.slice D 1 cD)) 10 (fun _ => True) 10 13 rfl (by kernel_rfl) ⟨⟨y0, y2, y1⟩, trivial⟩ (fun hHeld => ?_)
      simp only [List.replicate_succ, List.replicate_zero]
      refine tk (v := ?_) [1] 0 159 hHeld ?_ ?_; rotate_left; (intro w h; (try dsimp only at h); go_simp; try with_reducible rfl); try simp only [Act.put, zA, zB, zC]
      refine tk (v := ?_) [] 1 160 hHeld ?_ ?_; rotate_left; (intro w h; (try dsimp only at h); go_simp; try with_reducible rfl); try simp only [Act.put, zA, zB, zC]
      refine tk (v := ?_) [3, 4, 9] 2 161 hHeld ?_ ?_; rotate_left; (intro w h; (try dsimp only at h); go_simp; try with_reducible rfl); try simp only [Act.put, zA, zB, zC]
      refine tk (v := ?_) [4, 9] 3 162 hHeld ?_ ?_; rotate_left; (intro w h; (try dsimp only at h); go_simp; try with_reducible rfl); try simp only [Act.put, zA, zB, zC]
      refine tk (v := ?_) [9] 4 163 hHeld ?_ ?_; rotate_left; (intro w h; (try dsimp only at h); go_simp; try with_reducible rfl); try simp only [Act.put, zA, zB, zC]
      refine tk (v := ?_) [6, 7, 8, 9] 5 164 hHeld ?_ ?_; rotate_left; (intro w h; (try dsimp only at h); go_simp; try with_reducible rfl); try simp only [Act.put, zA, zB, zC]
      refine tk (v := ?_) [7, 8, 9] 6 165 hHeld ?_ ?_; rotate_left; (intro w h; (try dsimp only at h); go_simp; try with_reducible rfl); try simp only [Act.put, zA, zB, zC]
      refine tk (v := ?_) [8, 9] 7 166 hHeld ?_ ?_; rotate_left; (intro w h; (try dsimp only at h); go_simp; try with_reducible rfl); try simp only [Act.put, zA, zB, zC]
      refine tk (v := ?_) [9] 8 167 hHeld ?_ ?_; rotate_left; (intro w h; (try dsimp only at h); go_simp; try with_reducible rfl); try simp only [Act.put, zA, zB, zC]
      refine tk (v := ?_) [] 9 168 hHeld ?_ ?_; rotate_left; (intro w h; (try dsimp only at h); go_simp; try with_reducible rfl); try simp only [Act.put, zA, zB, zC]
      clear hHeld y0 y1 y2
      have HBq := Lib.hid (show Below w.heap.size w wz.drew from HBz.out.drew)
      generalize wz.drew = wq at HBq ⊢
      have hI0 := (HI0.out.below (HBq.out.mono hB)).up (Nat.le_trans hB HBq.out.size)
      have HC := Lib.hid (by
       have h := Ar.both2_any D (some ⟨b0, o0 + f.length, none⟩) cD (c0 - f.length) op.dims (d.drop f.length) wq.heap.size wq (Nat.le_refl _) (by rw [HA1.out]; omega) (by rw [List.length_drop]; have := HD6.out; omega) (HL.out wq HBq.out).1 (Ar.ints_drop hI0 f.length)
       rwa [HA1.out, show (d.drop f.length).length = d.length - f.length by rw [List.length_drop]] at h)
      obtain ⟨L, hL⟩ : ∃ L, op.dims ++ d.drop f.length = L := ⟨_, rfl⟩
      rw [hL] at HC HRU
      clear hI0 hL
      refine wpT_tail [_, _, _] 10 [11, 12] rfl (by kernel_rfl) ?_
      go_wp2_with fail
      ((with_reducible refine HC.out.mono ?_); rintro e w2 ⟨v, rfl, ho, hb⟩)
      have HB2 := Lib.hid (HBq.out.trans (hb.mono HBq.out.size))
      have HSL := Lib.hid (Ar.sl_own ho)
      clear ho hb
      go_wp2_with fail
      go_ret2
      rw [HRU.out]
      exact ⟨_, rfl, HSL.out, HB2.out⟩
   ·have HV := Lib.hid (HBAD.out (.inr (.inr a3)))
    rw [decide_eq_false a3] at hEQ
    clear a3
    go_enter Try.func24, Try.ntmps24
    go_wp2_with fail
    go_quiet (exact Calls.quiet_of (hEQ _))
    have HBz := Lib.hid (below_drewN HB.out nq)
    clear x0 x1 x2 x3 x4 x5 x6 ca0 ca1
    generalize w0.drewN nq = wz at HBz ⊢
    go_wp2_with fail
    go_ret2
    rw [HV.out]
    exact ⟨_, rfl, Ar.SlAt.nil _ _, HBz.out⟩
 ·have HV := Lib.hid (HBAD.out (.inl a1))
  have q1 : ((op.dims.length : Int) != 1) = true := by rw [bne_iff_ne]; omega
  clear a1
  go_enter Try.func24, Try.ntmps24
  go_wp2_with fail
  go_quiet (fail)
  have HBz := Lib.hid (below_drewN HB.out nq)
  clear x0 x1 x2 x3 x4 x5 x6 ca0 ca1
  generalize w0.drewN nq = wz at HBz ⊢
  go_wp2_with fail
  go_ret2
  rw [HV.out]
  exact ⟨_, rfl, Ar.SlAt.nil _ _, HBz.out⟩
end Go.Proofs.Ytapedmpbkffopaa
end
section
namespace Go.Proofs.Ytapedmpbkffopaa
set_option linter.unusedVariables false
open Go.RowKit Adj
set_option maxRecDepth 100000 in
set_option maxHeartbeats 4000000 in
theorem Ar.right2_any (K : Int) (v1 v2 v3 v4 v5 vv : Value) (n : Nat) (w : World) :
    Calls Try.prog 23 #[.agg #[.int .i64 K, v1, v2, v3, v4, v5, vv], .int .i64 (n : Int)] w fun e w' => e = .returned (.int .i64 (AdjD.right K n)) ∧ Below w.heap.size w w' := by
 have HB := Lib.hid (fun o => (Below.refl w.heap.size w).alloc (Nat.le_refl _) o)
 obtain ⟨R, hR⟩ : ∃ R, AdjD.right K n = R := ⟨_, rfl⟩
 have HR := Lib.hid hR
 rw [hR]
 clear hR
 have n0 : ((n : Int) = 0) = (n = 0) := by simp
 have n1 : ((n : Int) = 1) = (n = 1) := by rw [eq_iff_iff]; omega
 have n2 : ((n : Int) = 2) = (n = 2) := by rw [eq_iff_iff]; omega
 have n3 : ((n : Int) = 3) = (n = 3) := by rw [eq_iff_iff]; omega
 have HNN := Lib.hid (And.intro n0 (And.intro n1 (And.intro n2 n3)))
 clear n0 n1 n2 n3
 go_enter Try.func23, Try.ntmps23
 go_wp2_with fail
 all_goals (go_ret; refine ⟨?_, HB.out _⟩; rw [← HR.out]; obtain ⟨n0, n1, n2, n3⟩ := HNN.out; unfold AdjD.right; simp_all)
end Go.Proofs.Ytapedmpbkffopaa
end
section
namespace Go.Proofs.Ytapedmpbkffopaa
set_option linter.unusedVariables false
open Go.RowKit Adj
theorem Ar.ruled_any (val : Value) (op : AdjD.Op) (A : Option Addr) (cap : Nat) (args : List (List Int)) (B : Nat) (w : World) (hB : B ≤ w.heap.size) (hsh : Ar.Short op) (hn1 : args.length ≤ 8388608) (hcap : args.length ≤ cap) (hcap2 : cap ≤ 9223372036854775807) (h1 : AdjD.right op.kind args.length = 0) (hz : ∀ d ∈ args, (AdjV.size d).2 = 0) (hop : Ar.OpAt w B val op) (hargs : Ar.ListsAt w B A args) :
    Calls Try.prog 24 #[val, .slice A args.length cap] w fun e w' => Ar.RefOut w w' (AdjD.ruled op args) e := by
 unfold AdjD.right at h1
 by_cases k2 : op.kind = 2
 ·exact Ar.ruled_fill val op A cap args B w hB hsh hz hop hargs k2
 rw [if_neg k2] at h1
 by_cases k3 : op.kind = 3 ∨ op.kind = 4 ∨ op.kind = 5 ∨ op.kind = 6 ∨ op.kind = 7 ∨ op.kind = 16 ∨ op.kind = 18 ∨ op.kind = 19
 ·rw [if_pos k3] at h1
  have hn : args.length = 2 := by by_cases e : args.length = 2; exact e; rw [if_neg e] at h1; cases h1
  have h2 : 2 ≤ args.length := by omega
  obtain ⟨d, f, rfl⟩ : ∃ d f, args = [d, f] := by
   match args, hn with
   | [d, f], _ => exact ⟨d, f, rfl⟩
  rcases k3 with k | k | k | k | k | k | k | k
  ·exact Ar.ruled_same val op A cap [d, f] B w hB hsh h2 hcap hcap2 hz hop hargs 3 (by simp) k
  ·exact Ar.ruled_same val op A cap [d, f] B w hB hsh h2 hcap hcap2 hz hop hargs 4 (by simp) k
  ·exact Ar.ruled_same val op A cap [d, f] B w hB hsh h2 hcap hcap2 hz hop hargs 5 (by simp) k
  ·exact Ar.ruled_same val op A cap [d, f] B w hB hsh h2 hcap hcap2 hz hop hargs 6 (by simp) k
  ·exact Ar.ruled_same val op A cap [d, f] B w hB hsh h2 hcap hcap2 hz hop hargs 7 (by simp) k
  ·exact Ar.ruled_dot val op A cap d f B w hB hsh hcap hcap2 hz hop hargs k
  ·exact Ar.ruled_take val op A cap d f B w hB hsh hcap hcap2 hz hop hargs k
  ·exact Ar.ruled_put val op A cap d f B w hB hsh hcap hcap2 hz hop hargs k
 rw [if_neg k3] at h1
 by_cases k8 : op.kind = 8
 ·rw [if_pos k8] at h1
  have hn : args.length = 3 := by by_cases e : args.length = 3; exact e; rw [if_neg e] at h1; cases h1
  exact Ar.ruled_same val op A cap args B w hB hsh (by omega) hcap hcap2 hz hop hargs 8 (by simp) k8
 rw [if_neg k8] at h1
 by_cases k9 : op.kind = 9 ∨ op.kind = 10 ∨ op.kind = 11 ∨ op.kind = 12 ∨ op.kind = 13 ∨ op.kind = 14 ∨ op.kind = 15
 ·rw [if_pos k9] at h1
  have hn : args.length = 1 := by by_cases e : args.length = 1; exact e; rw [if_neg e] at h1; cases h1
  obtain ⟨d, rfl⟩ := List.length_eq_one_iff.1 hn
  rcases k9 with k | k | k | k | k | k | k
  ·exact Ar.ruled_look val op A cap d B w hB hsh hcap hcap2 hz hop hargs 9 (by simp) k
  ·exact Ar.ruled_sum val op A cap d B w hB hsh hcap hcap2 hz hop hargs k
  ·exact Ar.ruled_look val op A cap d B w hB hsh hcap hcap2 hz hop hargs 11 (by simp) k
  ·exact Ar.ruled_reform val op A cap d B w hB hsh hcap hcap2 hz hop hargs k
  ·exact Ar.ruled_look val op A cap d B w hB hsh hcap hcap2 hz hop hargs 13 (by simp) k
  ·exact Ar.ruled_pad val op A cap d B w hB hsh hcap hcap2 hz hop hargs k
  ·exact Ar.ruled_look val op A cap d B w hB hsh hcap hcap2 hz hop hargs 15 (by simp) k
 rw [if_neg k9] at h1
 by_cases k17 : op.kind = 17
 ·rw [if_pos k17] at h1
  have hn : 0 < args.length := by by_cases e : args.length = 0; rw [if_pos e] at h1; cases h1; omega
  exact Ar.ruled_join val op A cap args B w hB hsh hn hn1 hcap hcap2 hz hop hargs k17
 ·rw [if_neg k17] at h1; cases h1
set_option maxRecDepth 100000 in
set_option maxHeartbeats 8000000 in
theorem Ar.dims2_any (val : Value) (op : AdjD.Op) (A : Option Addr) (cap : Nat) (args : List (List Int)) (B : Nat) (w : World) (hB : B ≤ w.heap.size) (hsh : Ar.Short op) (hn1 : args.length ≤ 8388608) (hcap : args.length ≤ cap) (hcap2 : cap ≤ 9223372036854775807) (hop : Ar.OpAt w B val op) (hargs : Ar.ListsAt w B A args) :
    Calls Try.prog 19 #[val, .slice A args.length cap] w fun e w' => Ar.RefOut w w' (AdjD.dims op args) e := by
 have HOP := Lib.hid (fun W (hb : Below w.heap.size w W) => (hop.below (hb.mono hB)).up (Nat.le_trans hB hb.size))
 have HAR := Lib.hid (fun W (hb : Below w.heap.size w W) => (hargs.below (hb.mono hB)).up (Nat.le_trans hB hb.size))
 have HSH := Lib.hid hsh
 obtain ⟨v1, v2, v3, v4, v5, rfl, _⟩ := hop
 have HX := Lib.hid (Blk.new w 37 #[.int .i64 op.kind, v1, v2, v3, v4, v5, .int .i64 op.value])
 have HB := Lib.hid ((Below.refl w.heap.size w).alloc (Nat.le_refl _) (.cells #[.int .i64 op.kind, v1, v2, v3, v4, v5, .int .i64 op.value] 37))
 obtain ⟨w0, hw0⟩ : ∃ w0, w.alloc (.cells #[.int .i64 op.kind, v1, v2, v3, v4, v5, .int .i64 op.value] 37) = w0 := ⟨_, rfl⟩
 rw [hw0] at HX HB
 have hws : w.heap.size < w0.heap.size := HX.out.lt
 have HRI := Lib.hid (Ar.right2_any op.kind v1 v2 v3 v4 v5 (.int .i64 op.value) args.length w0)
 have HFT := Lib.hid (AdjD'.dims_fit (op := op) (args := args))
 have HDT := Lib.hid (fun h => AdjD'.dims_tail (op := op) (args := args) h)
 have HRU := Lib.hid (fun W (hb : Below w.heap.size w W) (h1 : AdjD.right op.kind args.length = 0) (hz : ∀ d ∈ args, (AdjV.size d).2 = 0) => Ar.ruled_any _ op A cap args W.heap.size W (Nat.le_refl _) HSH.out hn1 hcap hcap2 h1 hz (HOP.out W hb) (HAR.out W hb))
 have x0 : w0.cell? ⟨w.heap.size, 0, none⟩ = some (.int .i64 op.kind) := HX.out.cell 0
 have x1 : w0.cell? ⟨w.heap.size, 1, none⟩ = some v1 := HX.out.cell 1
 have x2 : w0.cell? ⟨w.heap.size, 2, none⟩ = some v2 := HX.out.cell 2
 have x3 : w0.cell? ⟨w.heap.size, 3, none⟩ = some v3 := HX.out.cell 3
 have x4 : w0.cell? ⟨w.heap.size, 4, none⟩ = some v4 := HX.out.cell 4
 have x5 : w0.cell? ⟨w.heap.size, 5, none⟩ = some v5 := HX.out.cell 5
 have x6 : w0.cell? ⟨w.heap.size, 6, none⟩ = some (.int .i64 op.value) := HX.out.cell 6
 have HFE := Lib.hid (show AdjD'.fitE op args = if AdjD.right op.kind args.length ≠ 0 then AdjD.right op.kind args.length else AdjD.sizes args from rfl)
 obtain ⟨n, hnn⟩ : ∃ n, args.length = n := ⟨_, rfl⟩
 have HN := Lib.hid hnn
 rw [hnn] at hn1 hcap HRI HFE HRU ⊢
 obtain ⟨rr, hrr⟩ : ∃ r, AdjD.right op.kind n = r := ⟨_, rfl⟩
 rw [hrr] at HRI HFE HRU
 clear hnn hargs hsh hrr
 go_enter Try.func19, Try.ntmps19
 go_wp2_with fail
 ((with_reducible refine HRI.out.mono ?_); rintro e w1 ⟨rfl, hb1⟩)
 have HB1 := Lib.hid (HB.out.trans (hb1.mono HB.out.size))
 have HX1 := Lib.hid (HX.out.below hb1 HX.out.lt)
 clear hb1 x0 x1 x2 x3 x4 x5 x6
 by_cases hr : rr = 0
 ·subst hr
  have HFS := Lib.hid (show AdjD'.fitE op args = AdjD.sizes args by rw [HFE.out, if_neg (by simp)])
  obtain ⟨wo, hwo⟩ : ∃ wo : World, wo = w1 := ⟨_, rfl⟩
  subst hwo
  go_wp2_with fail
  go_loopw [24] (fun kv wr => ∃ k : Nat, kv = .int .i64 (k : Int) ∧ k ≤ n ∧ AdjD.sizes args = AdjD.sizes (args.drop k) ∧ wr = wo) (fun kv _ => n - (intOf kv).toNat)
  case atStart => exact ⟨0, rfl, by omega, rfl, rfl⟩
  case round =>
   obtain ⟨k, rfl, hk, hs, hwr⟩ := hrel
   subst hwr
   have HS := Lib.hid hs
   clear hs
   by_cases hkn : k < n
   ·have hkl : k < args.length := by have := HN.out; omega
    obtain ⟨b, off, hAe, hbb, hc⟩ := HAR.out wr HB1.out (by omega)
    obtain ⟨v, cv, Ai, ci, rfl, hi, hl1, hl2⟩ := hc k hkl
    have HSZ := Lib.hid (refSize_any Ai ci args[k] wr.heap.size wr (by omega) hi)
    have HD := Lib.hid (show AdjD.sizes args = if (AdjV.size args[k]).2 ≠ 0 then (AdjV.size args[k]).2 else AdjD.sizes (args.drop (k + 1)) by rw [HS.out, List.drop_eq_getElem_cons hkl]; rfl)
    have i1 : (0 : Int) ≤ (k : Int) := by omega
    have i2 : (k : Int) < (n : Int) := by omega
    subst hAe
    clear hc hi
    generalize args[k] = d at cv HSZ HD hl1
    unfold Vw.sizeR at HSZ
    by_cases he : (AdjV.size d).2 = 0
    ·rw [he] at HD HSZ
     have HX := Lib.hid (show AdjD.sizes args = AdjD.sizes (args.drop (k + 1)) by rw [HD.out]; rfl)
     clear he
     go_wp2_with fail
     ((with_reducible refine HSZ.out.mono ?_); rintro e w3 ⟨rfl, hw3⟩)
     subst hw3
     go_wp2_with fail
     go_roundw
     case rel => exact ⟨k + 1, by go_num, by omega, HX.out, by trivial⟩
     case measure => simp [intOf]; omega
    ·have e2 : ((AdjV.size d).2 != 0) = true := by simpa using he
     have HV := Lib.hid (show AdjD.dims op args = ([], (AdjV.size d).2) by
      have h : AdjD'.fitE op args = (AdjV.size d).2 := by rw [HFS.out, HD.out, if_pos he]
      rw [HFT.out (by rw [h]; exact he), h])
     generalize (AdjV.size d).2 = er at e2 HV HSZ he
     generalize (AdjV.size d).1 = sz at HSZ
     clear he
     go_wp2_with fail
     ((with_reducible refine HSZ.out.mono ?_); rintro e w3 ⟨rfl, hw3⟩)
     subst hw3
     go_wp2_with fail
     go_ret2
     rw [HV.out]
     exact ⟨_, rfl, Ar.SlAt.nil _ _, HB1.out⟩
   ·obtain rfl : k = n := by omega
    have HFZ := Lib.hid (show AdjD'.fitE op args = 0 by rw [HFS.out, HS.out, List.drop_eq_nil_of_le (by have := HN.out; omega)]; rfl)
    have HT := Lib.hid (HDT.out HFZ.out)
    have HRC := Lib.hid (HRU.out wr HB1.out (by trivial) (AdjD'.fit_sizes HFZ.out))
    obtain ⟨⟨l, x⟩, hR⟩ : ∃ R, AdjD.ruled op args = R := ⟨_, rfl⟩
    rw [hR] at HRC HT
    have x0 : wr.cell? ⟨w.heap.size, 0, none⟩ = some (.int .i64 op.kind) := HX1.out.cell 0
    have x1 : wr.cell? ⟨w.heap.size, 1, none⟩ = some v1 := HX1.out.cell 1
    have x2 : wr.cell? ⟨w.heap.size, 2, none⟩ = some v2 := HX1.out.cell 2
    have x3 : wr.cell? ⟨w.heap.size, 3, none⟩ = some v3 := HX1.out.cell 3
    have x4 : wr.cell? ⟨w.heap.size, 4, none⟩ = some v4 := HX1.out.cell 4
    have x5 : wr.cell? ⟨w.heap.size, 5, none⟩ = some v5 := HX1.out.cell 5
    have x6 : wr.cell? ⟨w.heap.size, 6, none⟩ = some (.int .i64 op.value) := HX1.out.cell 6
    clear hR
    go_wp2_with fail
    ((with_reducible refine HRC.out.mono ?_); rintro e w2 ⟨v, rfl, hsl, hb2⟩)
    dsimp only at hsl ⊢
    have HB2 := Lib.hid (HB1.out.trans (hb2.mono HB1.out.size))
    have HSL := Lib.hid hsl
    clear hb2 x0 x1 x2 x3 x4 x5 x6
    obtain ⟨A2, c2, rfl, i2, l2, m2⟩ := hsl
    by_cases hx : x = 0
    ·subst hx
     have HSZ := Lib.hid (refSize_any A2 c2 l w2.heap.size w2 (by omega) i2)
     unfold Vw.sizeR at HSZ
     clear i2
     by_cases he : (AdjV.size l).2 = 0
     ·have HV := Lib.hid (show AdjD.dims op args = (l, 0) by rw [HT.out]; exact AdjD'.tail_ok he)
      rw [he] at HSZ
      generalize (AdjV.size l).1 = sz at HSZ
      clear he
      go_wp2_with fail
      ((with_reducible refine HSZ.out.mono ?_); rintro e w3 ⟨rfl, hw3⟩)
      subst hw3
      go_wp2_with fail
      go_ret2
      rw [HV.out]
      exact ⟨_, rfl, HSL.out, HB2.out⟩
     ·have e2 : ((AdjV.size l).2 != 0) = true := by simpa using he
      have HV := Lib.hid (show AdjD.dims op args = ([], (AdjV.size l).2) by rw [HT.out]; exact AdjD'.tail_size he)
      generalize (AdjV.size l).2 = er at e2 HV HSZ he
      generalize (AdjV.size l).1 = sz at HSZ
      clear he
      go_wp2_with fail
      ((with_reducible refine HSZ.out.mono ?_); rintro e w3 ⟨rfl, hw3⟩)
      subst hw3
      go_wp2_with fail
      go_ret2
      rw [HV.out]
      exact ⟨_, rfl, Ar.SlAt.nil _ _, HB2.out⟩
    ·have e2 : (x != 0) = true := by simpa using hx
     have HV := Lib.hid (show AdjD.dims op args = ([], x) by rw [HT.out]; exact AdjD'.tail_err hx)
     clear hx i2
     go_wp2_with fail
     go_ret2
     rw [HV.out]
     exact ⟨_, rfl, Ar.SlAt.nil _ _, HB2.out⟩
 ·have e2 : (rr != 0) = true := by simpa using hr
  have HV := Lib.hid (show AdjD.dims op args = ([], rr) by
   have h : AdjD'.fitE op args = rr := by rw [HFE.out, if_pos hr]
   rw [HFT.out (by rw [h]; exact hr), h])
  clear hr
  go_wp2_with fail
  go_ret2
  rw [HV.out]
  exact ⟨_, rfl, Ar.SlAt.nil _ _, HB1.out⟩
end Go.Proofs.Ytapedmpbkffopaa
end
