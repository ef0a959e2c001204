/-
  The walk of array.Dims, kind by kind: kind 19 (put); The walk of array.Dims, kind by kind: kinds 17 (join), 9, 11, 12, 13, 15 (what only looks in another way). Conditions: where the theorems name them.
-/
import Derived.Test.YtapedmpbkffopaaZ02
import Derived.Test.YtapedmpbkffopaaZ17
section
namespace Go.Proofs.Ytapedmpbkffopaa
set_option linter.unusedVariables false
open Go.RowKit Adj
set_option maxRecDepth 100000 in
set_option maxHeartbeats 8000000 in
theorem Ar.dims_put (val : Value) (op : AdjD.Op) (A : Option Addr) (cap : Nat) (d f : List Int) (B : Nat) (w : World) (hB : B ≤ w.heap.size) (hsh : Ar.Short op) (hcap : 2 ≤ cap) (hcap2 : cap ≤ 9223372036854775807) (hop : Ar.OpAt w B val op) (hargs : Ar.ListsAt w B A [d, f]) (hk : op.kind = 19) :
    Calls Try.prog 25 #[val, .slice A 2 cap] w fun e w' => Ar.DimsOut w w' (AdjD.dims op [d, f]) e := by
 have hargs2 := hargs
 obtain ⟨b, off, rfl, hbB, hc⟩ := hargs2 (by simp)
 obtain ⟨v0, cv0, A0, c0, rfl, i0, l0, m0⟩ := hc 0 (by simp)
 obtain ⟨v1', cv1, A1, c1, rfl, i1', l1, m1⟩ := hc 1 (by simp)
 rw [Nat.add_zero] at cv0
 simp only [List.getElem_cons_zero, List.getElem_cons_succ] at cv0 i0 l0 cv1 i1' l1
 have HI0 := Lib.hid i0
 have HI1 := Lib.hid i1'
 have hbw : b < w.heap.size := by omega
 clear hc i0 i1'
 have HOP := Lib.hid (fun W (hb : Below w.heap.size w W) => (hop.below (hb.mono hB)).up (Nat.le_trans hB hb.size))
 have HAR := Lib.hid (fun W (hb : Below w.heap.size w W) => (hargs.below (hb.mono hB)).up (Nat.le_trans hB hb.size))
 obtain ⟨v1, v2, v3, v4, v5, rfl, ⟨D, cD, rfl, iD, lD, mD⟩, ⟨T, ct, rfl, it, lt, mt⟩, ⟨O, co, rfl, io, lo, mo⟩, ⟨I, ci, rfl, ii, li, mi⟩, ⟨S, cs, rfl, is, ls, ms⟩⟩ := hop
 have HL := Lib.hid (fun W (hb : Below w.heap.size w W) => And.intro ((iD.below (hb.mono hB)).up (Nat.le_trans hB hb.size)) (And.intro ((it.below (hb.mono hB)).up (Nat.le_trans hB hb.size)) (And.intro ((io.below (hb.mono hB)).up (Nat.le_trans hB hb.size)) (And.intro ((ii.below (hb.mono hB)).up (Nat.le_trans hB hb.size)) ((is.below (hb.mono hB)).up (Nat.le_trans hB hb.size))))))
 have HX := Lib.hid (Blk.new w 37 #[.int .i64 op.kind, .slice D op.dims.length cD, .slice T op.at_.length ct, .slice O op.lo.length co, .slice I op.hi.length ci, .slice S op.step.length cs, .int .i64 op.value])
 have HB := Lib.hid ((Below.refl w.heap.size w).alloc (Nat.le_refl _) (.cells #[.int .i64 op.kind, .slice D op.dims.length cD, .slice T op.at_.length ct, .slice O op.lo.length co, .slice I op.hi.length ci, .slice S op.step.length cs, .int .i64 op.value] 37))
 have hz0 : (w.alloc (.cells #[.int .i64 op.kind, .slice D op.dims.length cD, .slice T op.at_.length ct, .slice O op.lo.length co, .slice I op.hi.length ci, .slice S op.step.length cs, .int .i64 op.value] 37)).heap.size = w.heap.size + 1 := by simp
 obtain ⟨w0, hw0⟩ : ∃ w0, w.alloc (.cells #[.int .i64 op.kind, .slice D op.dims.length cD, .slice T op.at_.length ct, .slice O op.lo.length co, .slice I op.hi.length ci, .slice S op.step.length cs, .int .i64 op.value] 37) = w0 := ⟨_, rfl⟩
 rw [hw0] at HX HB hz0
 have HF := Lib.hid (Ar.fits_any _ op _ cap [d, f] w0.heap.size w0 (Nat.le_refl _) (by first | omega | simp) (HOP.out w0 HB.out) (HAR.out w0 HB.out))
 have HM := Lib.hid (show op.dims.length ≤ cD ∧ op.at_.length ≤ ct ∧ op.lo.length ≤ co ∧ op.hi.length ≤ ci ∧ op.step.length ≤ cs from ⟨lD, lt, lo, li, ls⟩)
 have HDT := Lib.hid (fun h => AdjD'.dims_tail (op := op) (args := [d, f]) h)
 have HDZ := Lib.hid (fun h => AdjD'.fit_sizes (op := op) (args := [d, f]) h)
 clear iD it io ii is lD lt lo li ls hargs
 simp only [List.length_cons, List.length_nil, Nat.zero_add, Nat.reduceAdd] at HF
 rw [hk] at HX HF HOP hw0 ⊢
 have b0 : w0.cell? ⟨w.heap.size, 0, none⟩ = some (.int .i64 19) := HX.out.cell 0
 have b1 : w0.cell? ⟨w.heap.size, 1, none⟩ = some (.slice D op.dims.length cD) := HX.out.cell 1
 have b2 : w0.cell? ⟨w.heap.size, 2, none⟩ = some (.slice T op.at_.length ct) := HX.out.cell 2
 have b3 : w0.cell? ⟨w.heap.size, 3, none⟩ = some (.slice O op.lo.length co) := HX.out.cell 3
 have b4 : w0.cell? ⟨w.heap.size, 4, none⟩ = some (.slice I op.hi.length ci) := HX.out.cell 4
 have b5 : w0.cell? ⟨w.heap.size, 5, none⟩ = some (.slice S op.step.length cs) := HX.out.cell 5
 have b6 : w0.cell? ⟨w.heap.size, 6, none⟩ = some (.int .i64 op.value) := HX.out.cell 6
 go_enter Try.func25, Try.ntmps25
 go_wp2_with fail
 ((with_reducible refine HF.out.mono ?_); rintro e w1 ⟨rfl, hb1⟩)
 have HB1 := Lib.hid (HB.out.trans (hb1.mono HB.out.size))
 have HX1 := Lib.hid (HX.out.below hb1 HX.out.lt)
 have hs1 : w.heap.size + 1 ≤ w1.heap.size := by rw [← hz0]; exact hb1.size
 clear hb1 HF hw0 b0 b1 b2 b3 b4 b5 b6
 by_cases hf : AdjD'.fitE op [d, f] ≠ 0
 ·have HV := Lib.hid (AdjD'.dims_fit hf)
  have hq : (AdjD'.fitE op [d, f] != 0) = true := by simpa using hf
  generalize AdjD'.fitE op [d, f] = f at hq HV hf
  clear hf HDT HDZ
  go_wp2_with fail
  go_ret2
  rw [HV.out]
  exact ⟨⟨_, rfl, Ar.FrAt.nil _ _⟩, HB1.out⟩
 have hf0 : AdjD'.fitE op [d, f] = 0 := by omega
 have HT := Lib.hid (HDT.out hf0)
 have HZ := Lib.hid (HDZ.out hf0)
 rw [hf0]
 have x0 : w1.cell? ⟨w.heap.size, 0, none⟩ = some (.int .i64 19) := HX1.out.cell 0
 have x1 : w1.cell? ⟨w.heap.size, 1, none⟩ = some (.slice D op.dims.length cD) := HX1.out.cell 1
 have x2 : w1.cell? ⟨w.heap.size, 2, none⟩ = some (.slice T op.at_.length ct) := HX1.out.cell 2
 have x3 : w1.cell? ⟨w.heap.size, 3, none⟩ = some (.slice O op.lo.length co) := HX1.out.cell 3
 have x4 : w1.cell? ⟨w.heap.size, 4, none⟩ = some (.slice I op.hi.length ci) := HX1.out.cell 4
 have x5 : w1.cell? ⟨w.heap.size, 5, none⟩ = some (.slice S op.step.length cs) := HX1.out.cell 5
 have x6 : w1.cell? ⟨w.heap.size, 6, none⟩ = some (.int .i64 op.value) := HX1.out.cell 6
 clear hf hf0 HDT HDZ
 have hz := HZ.out d (by simp)
 have hzf := HZ.out f (by simp)
 obtain ⟨hd6, hdp, _⟩ := AdjV.size_fine hz
 obtain ⟨hf6, hfp, _⟩ := AdjV.size_fine hzf
 have HDP := Lib.hid (And.intro hdp hfp)
 have ca0 := (HB1.out.cell (p := ⟨b, off, none⟩) (by show b < w.heap.size; omega)).trans cv0
 have ca1 := (HB1.out.cell (p := ⟨b, off + 1, none⟩) (by show b < w.heap.size; omega)).trans cv1
 have i1 : (0 : Int) < 2 := by omega
 have i2 : (1 : Int) < 2 := by omega
 clear cv0 cv1 hz hzf hdp hfp
 have HRU := Lib.hid (show AdjD.ruled op [d, f] = if op.dims.length ≠ 1 ∨ d.length < f.length ∨ d.take f.length ≠ f then ([], 6) else (op.dims ++ d.drop f.length, 0) by unfold AdjD.ruled; simp [hk])
 have HBAD := Lib.hid (show (op.dims.length ≠ 1 ∨ d.length < f.length ∨ d.take f.length ≠ f) → AdjD.dims op [d, f] = ([], 6) from fun h => by rw [HT.out, HRU.out, if_pos h]; rfl)
 by_cases a1 : op.dims.length = 1
 ·have HA1 := Lib.hid a1
  rw [a1] at x1
  clear a1
  by_cases a2 : d.length < f.length
  ·have HV := Lib.hid (HBAD.out (.inr (.inl a2)))
   go_wp2_with fail
   go_quiet (fail)
   have HBz := Lib.hid (below_drewN HB1.out nq)
   clear x0 x1 x2 x3 x4 x5 x6 ca0 ca1
   generalize w1.drewN nq = wz at HBz ⊢
   go_wp2_with fail
   go_ret2
   rw [HV.out]
   exact ⟨⟨_, rfl, Ar.FrAt.nil _ _⟩, HBz.out⟩
  ·have q2 : decide ((d.length : Int) < (f.length : Int)) = false := by simpa using a2
   have hEQ : ∀ n, Calls Try.prog 36 #[.slice A0 f.length c0, .slice A1 f.length c1] (w1.drewN n) fun e w' => e = .returned (.bool (decide (d.take f.length = f))) ∧ ∃ m, w' = (w1.drewN n).drewN m := fun n => by
    have hb := below_drewN HB1.out n
    have h := Ar.equal_any A0 A1 c0 c1 (d.take f.length) f B B (w1.drewN n) (by rw [List.length_take]; omega) (by omega) (Ar.ints_take (HI0.out.below (hb.mono hB)) f.length) (HI1.out.below (hb.mono hB))
    rwa [show (d.take f.length).length = f.length by rw [List.length_take]; omega] at h
   by_cases a3 : d.take f.length = f
   ·rw [decide_eq_true a3] at hEQ
    have HL2 := Lib.hid (show AdjD.ruled op [d, f] = (op.dims ++ d.drop f.length, 0) by
     rw [HRU.out, if_neg (fun h => h.elim (fun h => h HA1.out) (fun h => h.elim a2 (fun h => h a3)))])
    clear a3
    go_wp2_with fail
    go_quiet (exact Calls.quiet_of (hEQ _))
    have HBz := Lib.hid (below_drewN HB1.out nq)
    have y0 : (w1.drewN nq).cell? ⟨b, off, none⟩ = some (.slice A0 d.length c0) := ca0
    have y1 : (w1.drewN nq).cell? ⟨w.heap.size, 1, none⟩ = some (.slice D 1 cD) := x1
    clear x0 x1 x2 x3 x4 x5 x6 ca0 ca1 hEQ
    generalize w1.drewN nq = wz at HBz y0 y1 ⊢
    have HD6 := Lib.hid hd6
    have HM0 := Lib.hid m0
    have ha2 : f.length ≤ d.length := by omega
    have ha3 : (f.length : Int) ≤ (d.length : Int) := by omega
    have ha4 : (0 : Int) ≤ (f.length : Int) := by omega
    by_cases hd0 : d.length = 0
    ·have hf0 : f.length = 0 := by omega
     rw [hd0] at y0
     rw [hf0]
     have HD0 := Lib.hid (And.intro hd0 hf0)
     clear hd0 hf0 l0 l1 hd6 hf6 q2 a2 ha2 ha3 ha4 m0
     cases A0 with
     | none =>
      go_wp2_with fail
      refine wp_region_T (fun w' => w'.cell? ⟨b, off, none⟩ = some (.slice none 0 c0) ∧ w'.cell? ⟨w.heap.size, 1, none⟩ = some (.slice D 1 cD)) 7 (fun _ => True) 7 10 rfl (by kernel_rfl) ⟨⟨y0, y1⟩, trivial⟩ (fun hHeld => ?_)
      simp only [List.replicate_succ, List.replicate_zero]
      refine tk (v := ?_) [1] 0 157 hHeld ?_ ?_; rotate_left; (intro w h; (try dsimp only at h); go_simp; try with_reducible rfl); try simp only [Act.put, zA, zB, zC]
      refine tk (v := ?_) [] 1 158 hHeld ?_ ?_; rotate_left; (intro w h; (try dsimp only at h); go_simp; try with_reducible rfl); try simp only [Act.put, zA, zB, zC]
      refine tk (v := ?_) [3, 4, 6] 2 159 hHeld ?_ ?_; rotate_left; (intro w h; (try dsimp only at h); go_simp; try with_reducible rfl); try simp only [Act.put, zA, zB, zC]
      refine tk (v := ?_) [4, 6] 3 160 hHeld ?_ ?_; rotate_left; (intro w h; (try dsimp only at h); go_simp; try with_reducible rfl); try simp only [Act.put, zA, zB, zC]
      refine tk (v := ?_) [6] 4 161 hHeld ?_ ?_; rotate_left; (intro w h; (try dsimp only at h); go_simp; try with_reducible rfl); try simp only [Act.put, zA, zB, zC]
      refine tk (v := ?_) [6] 5 162 hHeld ?_ ?_; rotate_left; (intro w h; (try dsimp only at h); go_simp; try with_reducible rfl); try simp only [Act.put, zA, zB, zC]
      refine tk (v := ?_) [] 6 163 hHeld ?_ ?_; rotate_left; (intro w h; (try dsimp only at h); go_simp; try with_reducible rfl); try simp only [Act.put, zA, zB, zC]
      clear hHeld y0 y1
      have HBq := Lib.hid (show Below w.heap.size w wz.drew from HBz.out.drew)
      generalize wz.drew = wq at HBq ⊢
      have HI0q := Lib.hid ((HI0.out.below (HBq.out.mono hB)).up (Nat.le_trans hB HBq.out.size))
      have HK := Lib.hid (Blk.new wq 23 #[.slice D 1 cD, .slice none 0 c0])
      have HBk := Lib.hid ((Below.refl wq.heap.size wq).alloc (Nat.le_refl _) (.cells #[.slice D 1 cD, .slice none 0 c0] 23))
      have hzk : wq.heap.size < (wq.alloc (.cells #[.slice D 1 cD, .slice none 0 c0] 23)).heap.size := by simp
      obtain ⟨wk, hwk⟩ : ∃ wk, wq.alloc (.cells #[.slice D 1 cD, .slice none 0 c0] 23) = wk := ⟨_, rfl⟩
      rw [hwk] at HK HBk hzk
      have HBw := Lib.hid (HBq.out.trans (HBk.out.mono HBq.out.size))
      have hle : (op.dims ++ d.drop f.length).length ≤ 4194304 := by rw [List.length_append, List.length_drop, HA1.out]; have := HD6.out; omega
      have HC := Lib.hid (Ar.concat2_any wq.heap.size op.dims (d.drop f.length) wk (by rw [List.length_append] at hle; omega) (Ar.lists2 HK.out hzk ⟨D, cD, by rw [HA1.out], (HL.out wk HBw.out).1, HM.out.1, mD⟩ (⟨none, c0, by rw [List.length_drop, HD0.out.1, HD0.out.2], fun h => by rw [List.length_drop, HD0.out.1, HD0.out.2] at h; simp at h, by rw [List.length_drop, HD0.out.1, HD0.out.2]; simp, HM0.out⟩)))
      obtain ⟨L, hL⟩ : ∃ L, op.dims ++ d.drop f.length = L := ⟨_, rfl⟩
      rw [hL] at HC HL2 hle
      clear hL
      refine wpT_tail [_, _, _] 7 [8, 9] rfl (by kernel_rfl) ?_
      go_wp2_with fail
      ((with_reducible refine HC.out.mono ?_); rintro e w2 ⟨v, rfl, ho2, hb2⟩)
      have HB2 := Lib.hid (HBw.out.trans (hb2.mono HBw.out.size))
      have HSL := Lib.hid (Ar.fr_own (N := w.heap.size) ho2 HBw.out.size)
      obtain ⟨A2, c2, rfl, i2, l2, m2⟩ := Ar.sl_own ho2
      clear ho2 hb2 hwk
      have HTA := Lib.hid (show AdjD.dims op [d, f] = AdjD'.tail (L, 0) from by rw [HT.out, HL2.out])
      have HSZ := Lib.hid (Size_any A2 c2 L w2.heap.size w2 (by omega) i2)
      by_cases hsz : (AdjV.size L).2 ≠ 0
      ·have hq2 : ((AdjV.size L).2 != 0) = true := by simpa using hsz
       have HV := Lib.hid (show AdjD.dims op [d, f] = ([], (AdjV.size L).2) by rw [HTA.out]; exact AdjD'.tail_size hsz)
       clear hsz
       go_wp2_with fail
       refine HSZ.out.mono ?_
       rintro e w7 ⟨rfl, rfl⟩
       simp only [Vw.sizeR]
       go_wp2_with fail
       go_ret2
       rw [HV.out]
       exact ⟨⟨_, rfl, Ar.FrAt.nil _ _⟩, HB2.out⟩
      ·have hq2 : ((AdjV.size L).2 != 0) = false := by simpa using hsz
       have HV := Lib.hid (show AdjD.dims op [d, f] = (L, 0) by rw [HTA.out]; exact AdjD'.tail_ok (by omega))
       have h0 : (AdjV.size L).2 = 0 := by omega
       clear hsz
       go_wp2_with fail
       refine HSZ.out.mono ?_
       rintro e w7 ⟨rfl, rfl⟩
       simp only [Vw.sizeR]
       go_wp2_with fail
       go_ret2
       rw [HV.out]
       exact ⟨⟨_, rfl, HSL.out⟩, HB2.out⟩
     | some a0 =>
      go_wp2_with fail
      refine wp_region_T (fun w' => w'.cell? ⟨b, off, none⟩ = some (.slice (some a0) 0 c0) ∧ w'.cell? ⟨w.heap.size, 1, none⟩ = some (.slice D 1 cD)) 7 (fun _ => True) 7 10 rfl (by kernel_rfl) ⟨⟨y0, y1⟩, trivial⟩ (fun hHeld => ?_)
      simp only [List.replicate_succ, List.replicate_zero]
      refine tk (v := ?_) [1] 0 157 hHeld ?_ ?_; rotate_left; (intro w h; (try dsimp only at h); go_simp; try with_reducible rfl); try simp only [Act.put, zA, zB, zC]
      refine tk (v := ?_) [] 1 158 hHeld ?_ ?_; rotate_left; (intro w h; (try dsimp only at h); go_simp; try with_reducible rfl); try simp only [Act.put, zA, zB, zC]
      refine tk (v := ?_) [3, 4, 6] 2 159 hHeld ?_ ?_; rotate_left; (intro w h; (try dsimp only at h); go_simp; try with_reducible rfl); try simp only [Act.put, zA, zB, zC]
      refine tk (v := ?_) [4, 6] 3 160 hHeld ?_ ?_; rotate_left; (intro w h; (try dsimp only at h); go_simp; try with_reducible rfl); try simp only [Act.put, zA, zB, zC]
      refine tk (v := ?_) [6] 4 161 hHeld ?_ ?_; rotate_left; (intro w h; (try dsimp only at h); go_simp; try with_reducible rfl); try simp only [Act.put, zA, zB, zC]
      refine tk (v := ?_) [6] 5 162 hHeld ?_ ?_; rotate_left; (intro w h; (try dsimp only at h); go_simp; try with_reducible rfl); try simp only [Act.put, zA, zB, zC]
      refine tk (v := ?_) [] 6 163 hHeld ?_ ?_; rotate_left; (intro w h; (try dsimp only at h); go_simp; try with_reducible rfl); try simp only [Act.put, zA, zB, zC]
      clear hHeld y0 y1
      have HBq := Lib.hid (show Below w.heap.size w wz.drew from HBz.out.drew)
      generalize wz.drew = wq at HBq ⊢
      have HI0q := Lib.hid ((HI0.out.below (HBq.out.mono hB)).up (Nat.le_trans hB HBq.out.size))
      have HK := Lib.hid (Blk.new wq 23 #[.slice D 1 cD, .slice (some a0) 0 c0])
      have HBk := Lib.hid ((Below.refl wq.heap.size wq).alloc (Nat.le_refl _) (.cells #[.slice D 1 cD, .slice (some a0) 0 c0] 23))
      have hzk : wq.heap.size < (wq.alloc (.cells #[.slice D 1 cD, .slice (some a0) 0 c0] 23)).heap.size := by simp
      obtain ⟨wk, hwk⟩ : ∃ wk, wq.alloc (.cells #[.slice D 1 cD, .slice (some a0) 0 c0] 23) = wk := ⟨_, rfl⟩
      rw [hwk] at HK HBk hzk
      have HBw := Lib.hid (HBq.out.trans (HBk.out.mono HBq.out.size))
      have hle : (op.dims ++ d.drop f.length).length ≤ 4194304 := by rw [List.length_append, List.length_drop, HA1.out]; have := HD6.out; omega
      have HC := Lib.hid (Ar.concat2_any wq.heap.size op.dims (d.drop f.length) wk (by rw [List.length_append] at hle; omega) (Ar.lists2 HK.out hzk ⟨D, cD, by rw [HA1.out], (HL.out wk HBw.out).1, HM.out.1, mD⟩ (⟨some a0, c0, by rw [List.length_drop, HD0.out.1, HD0.out.2], fun h => by rw [List.length_drop, HD0.out.1, HD0.out.2] at h; simp at h, by rw [List.length_drop, HD0.out.1, HD0.out.2]; simp, HM0.out⟩)))
      obtain ⟨L, hL⟩ : ∃ L, op.dims ++ d.drop f.length = L := ⟨_, rfl⟩
      rw [hL] at HC HL2 hle
      clear hL
      refine wpT_tail [_, _, _] 7 [8, 9] rfl (by kernel_rfl) ?_
      go_wp2_with fail
      ((with_reducible refine HC.out.mono ?_); rintro e w2 ⟨v, rfl, ho2, hb2⟩)
      have HB2 := Lib.hid (HBw.out.trans (hb2.mono HBw.out.size))
      have HSL := Lib.hid (Ar.fr_own (N := w.heap.size) ho2 HBw.out.size)
      obtain ⟨A2, c2, rfl, i2, l2, m2⟩ := Ar.sl_own ho2
      clear ho2 hb2 hwk
      have HTA := Lib.hid (show AdjD.dims op [d, f] = AdjD'.tail (L, 0) from by rw [HT.out, HL2.out])
      have HSZ := Lib.hid (Size_any A2 c2 L w2.heap.size w2 (by omega) i2)
      by_cases hsz : (AdjV.size L).2 ≠ 0
      ·have hq2 : ((AdjV.size L).2 != 0) = true := by simpa using hsz
       have HV := Lib.hid (show AdjD.dims op [d, f] = ([], (AdjV.size L).2) by rw [HTA.out]; exact AdjD'.tail_size hsz)
       clear hsz
       go_wp2_with fail
       refine HSZ.out.mono ?_
       rintro e w7 ⟨rfl, rfl⟩
       simp only [Vw.sizeR]
       go_wp2_with fail
       go_ret2
       rw [HV.out]
       exact ⟨⟨_, rfl, Ar.FrAt.nil _ _⟩, HB2.out⟩
      ·have hq2 : ((AdjV.size L).2 != 0) = false := by simpa using hsz
       have HV := Lib.hid (show AdjD.dims op [d, f] = (L, 0) by rw [HTA.out]; exact AdjD'.tail_ok (by omega))
       have h0 : (AdjV.size L).2 = 0 := by omega
       clear hsz
       go_wp2_with fail
       refine HSZ.out.mono ?_
       rintro e w7 ⟨rfl, rfl⟩
       simp only [Vw.sizeR]
       go_wp2_with fail
       go_ret2
       rw [HV.out]
       exact ⟨⟨_, rfl, HSL.out⟩, HB2.out⟩
    ·obtain ⟨b0, o0, rfl, hb0, _⟩ := HI0.out (by omega)
     by_cases hc1 : c0 = f.length
     ·subst hc1
      have hdl : d.length = f.length := by omega
      rw [hdl] at y0
      have HDL := Lib.hid hdl
      clear hd0 hdl l0 ha2 ha3 a2 q2 hd6 m0 hb0
      go_wp2_with fail
      refine wp_region_T (fun w' => w'.cell? ⟨b, off, none⟩ = some (.slice (some ⟨b0, o0, none⟩) f.length f.length) ∧ w'.cell? ⟨w.heap.size, 1, none⟩ = some (.slice D 1 cD)) 7 (fun _ => True) 7 10 rfl (by kernel_rfl) ⟨⟨y0, y1⟩, trivial⟩ (fun hHeld => ?_)
      simp only [List.replicate_succ, List.replicate_zero]
      refine tk (v := ?_) [1] 0 157 hHeld ?_ ?_; rotate_left; (intro w h; (try dsimp only at h); go_simp; try with_reducible rfl); try simp only [Act.put, zA, zB, zC]
      refine tk (v := ?_) [] 1 158 hHeld ?_ ?_; rotate_left; (intro w h; (try dsimp only at h); go_simp; try with_reducible rfl); try simp only [Act.put, zA, zB, zC]
      refine tk (v := ?_) [3, 4, 6] 2 159 hHeld ?_ ?_; rotate_left; (intro w h; (try dsimp only at h); go_simp; try with_reducible rfl); try simp only [Act.put, zA, zB, zC]
      refine tk (v := ?_) [4, 6] 3 160 hHeld ?_ ?_; rotate_left; (intro w h; (try dsimp only at h); go_simp; try with_reducible rfl); try simp only [Act.put, zA, zB, zC]
      refine tk (v := ?_) [6] 4 161 hHeld ?_ ?_; rotate_left; (intro w h; (try dsimp only at h); go_simp; try with_reducible rfl); try simp only [Act.put, zA, zB, zC]
      refine tk (v := ?_) [6] 5 162 hHeld ?_ ?_; rotate_left; (intro w h; (try dsimp only at h); go_simp; try with_reducible rfl); try simp only [Act.put, zA, zB, zC]
      refine tk (v := ?_) [] 6 163 hHeld ?_ ?_; rotate_left; (intro w h; (try dsimp only at h); go_simp; try with_reducible rfl); try simp only [Act.put, zA, zB, zC]
      clear hHeld y0 y1
      have HBq := Lib.hid (show Below w.heap.size w wz.drew from HBz.out.drew)
      generalize wz.drew = wq at HBq ⊢
      have HI0q := Lib.hid ((HI0.out.below (HBq.out.mono hB)).up (Nat.le_trans hB HBq.out.size))
      have HK := Lib.hid (Blk.new wq 23 #[.slice D 1 cD, .slice (some ⟨b0, o0, none⟩) 0 0])
      have HBk := Lib.hid ((Below.refl wq.heap.size wq).alloc (Nat.le_refl _) (.cells #[.slice D 1 cD, .slice (some ⟨b0, o0, none⟩) 0 0] 23))
      have hzk : wq.heap.size < (wq.alloc (.cells #[.slice D 1 cD, .slice (some ⟨b0, o0, none⟩) 0 0] 23)).heap.size := by simp
      obtain ⟨wk, hwk⟩ : ∃ wk, wq.alloc (.cells #[.slice D 1 cD, .slice (some ⟨b0, o0, none⟩) 0 0] 23) = wk := ⟨_, rfl⟩
      rw [hwk] at HK HBk hzk
      have HBw := Lib.hid (HBq.out.trans (HBk.out.mono HBq.out.size))
      have hle : (op.dims ++ d.drop f.length).length ≤ 4194304 := by rw [List.length_append, List.length_drop, HA1.out]; have := HD6.out; omega
      have HC := Lib.hid (Ar.concat2_any wq.heap.size op.dims (d.drop f.length) wk (by rw [List.length_append] at hle; omega) (Ar.lists2 HK.out hzk ⟨D, cD, by rw [HA1.out], (HL.out wk HBw.out).1, HM.out.1, mD⟩ (⟨some ⟨b0, o0, none⟩, 0, by rw [List.length_drop, HDL.out, Nat.sub_self], fun h => by rw [List.length_drop, HDL.out, Nat.sub_self] at h; simp at h, by rw [List.length_drop, HDL.out, Nat.sub_self]; simp, by omega⟩)))
      obtain ⟨L, hL⟩ : ∃ L, op.dims ++ d.drop f.length = L := ⟨_, rfl⟩
      rw [hL] at HC HL2 hle
      clear hL
      refine wpT_tail [_, _, _] 7 [8, 9] rfl (by kernel_rfl) ?_
      go_wp2_with fail
      ((with_reducible refine HC.out.mono ?_); rintro e w2 ⟨v, rfl, ho2, hb2⟩)
      have HB2 := Lib.hid (HBw.out.trans (hb2.mono HBw.out.size))
      have HSL := Lib.hid (Ar.fr_own (N := w.heap.size) ho2 HBw.out.size)
      obtain ⟨A2, c2, rfl, i2, l2, m2⟩ := Ar.sl_own ho2
      clear ho2 hb2 hwk
      have HTA := Lib.hid (show AdjD.dims op [d, f] = AdjD'.tail (L, 0) from by rw [HT.out, HL2.out])
      have HSZ := Lib.hid (Size_any A2 c2 L w2.heap.size w2 (by omega) i2)
      by_cases hsz : (AdjV.size L).2 ≠ 0
      ·have hq2 : ((AdjV.size L).2 != 0) = true := by simpa using hsz
       have HV := Lib.hid (show AdjD.dims op [d, f] = ([], (AdjV.size L).2) by rw [HTA.out]; exact AdjD'.tail_size hsz)
       clear hsz
       go_wp2_with fail
       refine HSZ.out.mono ?_
       rintro e w7 ⟨rfl, rfl⟩
       simp only [Vw.sizeR]
       go_wp2_with fail
       go_ret2
       rw [HV.out]
       exact ⟨⟨_, rfl, Ar.FrAt.nil _ _⟩, HB2.out⟩
      ·have hq2 : ((AdjV.size L).2 != 0) = false := by simpa using hsz
       have HV := Lib.hid (show AdjD.dims op [d, f] = (L, 0) by rw [HTA.out]; exact AdjD'.tail_ok (by omega))
       have h0 : (AdjV.size L).2 = 0 := by omega
       clear hsz
       go_wp2_with fail
       refine HSZ.out.mono ?_
       rintro e w7 ⟨rfl, rfl⟩
       simp only [Vw.sizeR]
       go_wp2_with fail
       go_ret2
       rw [HV.out]
       exact ⟨⟨_, rfl, HSL.out⟩, HB2.out⟩
     ·have hc2 : f.length < c0 := by omega
      clear hd0 hc1 a2
      go_wp2_with fail
      refine wp_region_T (fun w' => w'.cell? ⟨b, off, none⟩ = some (.slice (some ⟨b0, o0, none⟩) d.length c0) ∧ w'.cell? ⟨w.heap.size, 1, none⟩ = some (.slice D 1 cD)) 7 (fun _ => True) 7 10 rfl (by kernel_rfl) ⟨⟨y0, y1⟩, trivial⟩ (fun hHeld => ?_)
      simp only [List.replicate_succ, List.replicate_zero]
      refine tk (v := ?_) [1] 0 157 hHeld ?_ ?_; rotate_left; (intro w h; (try dsimp only at h); go_simp; try with_reducible rfl); try simp only [Act.put, zA, zB, zC]
      refine tk (v := ?_) [] 1 158 hHeld ?_ ?_; rotate_left; (intro w h; (try dsimp only at h); go_simp; try with_reducible rfl); try simp only [Act.put, zA, zB, zC]
      refine tk (v := ?_) [3, 4, 6] 2 159 hHeld ?_ ?_; rotate_left; (intro w h; (try dsimp only at h); go_simp; try with_reducible rfl); try simp only [Act.put, zA, zB, zC]
      refine tk (v := ?_) [4, 6] 3 160 hHeld ?_ ?_; rotate_left; (intro w h; (try dsimp only at h); go_simp; try with_reducible rfl); try simp only [Act.put, zA, zB, zC]
      refine tk (v := ?_) [6] 4 161 hHeld ?_ ?_; rotate_left; (intro w h; (try dsimp only at h); go_simp; try with_reducible rfl); try simp only [Act.put, zA, zB, zC]
      refine tk (v := ?_) [6] 5 162 hHeld ?_ ?_; rotate_left; (intro w h; (try dsimp only at h); go_simp; try with_reducible rfl); try simp only [Act.put, zA, zB, zC]
      refine tk (v := ?_) [] 6 163 hHeld ?_ ?_; rotate_left; (intro w h; (try dsimp only at h); go_simp; try with_reducible rfl); try simp only [Act.put, zA, zB, zC]
      clear hHeld y0 y1
      have HBq := Lib.hid (show Below w.heap.size w wz.drew from HBz.out.drew)
      generalize wz.drew = wq at HBq ⊢
      have HI0q := Lib.hid ((HI0.out.below (HBq.out.mono hB)).up (Nat.le_trans hB HBq.out.size))
      have HK := Lib.hid (Blk.new wq 23 #[.slice D 1 cD, .slice (some ⟨b0, o0 + f.length, none⟩) (d.length - f.length) (c0 - f.length)])
      have HBk := Lib.hid ((Below.refl wq.heap.size wq).alloc (Nat.le_refl _) (.cells #[.slice D 1 cD, .slice (some ⟨b0, o0 + f.length, none⟩) (d.length - f.length) (c0 - f.length)] 23))
      have hzk : wq.heap.size < (wq.alloc (.cells #[.slice D 1 cD, .slice (some ⟨b0, o0 + f.length, none⟩) (d.length - f.length) (c0 - f.length)] 23)).heap.size := by simp
      obtain ⟨wk, hwk⟩ : ∃ wk, wq.alloc (.cells #[.slice D 1 cD, .slice (some ⟨b0, o0 + f.length, none⟩) (d.length - f.length) (c0 - f.length)] 23) = wk := ⟨_, rfl⟩
      rw [hwk] at HK HBk hzk
      have HBw := Lib.hid (HBq.out.trans (HBk.out.mono HBq.out.size))
      have hle : (op.dims ++ d.drop f.length).length ≤ 4194304 := by rw [List.length_append, List.length_drop, HA1.out]; have := HD6.out; omega
      have HC := Lib.hid (Ar.concat2_any wq.heap.size op.dims (d.drop f.length) wk (by rw [List.length_append] at hle; omega) (Ar.lists2 HK.out hzk ⟨D, cD, by rw [HA1.out], (HL.out wk HBw.out).1, HM.out.1, mD⟩ (⟨some ⟨b0, o0 + f.length, none⟩, c0 - f.length, by rw [List.length_drop], ((Ar.ints_drop HI0q.out f.length).below HBk.out).up (by omega), by rw [List.length_drop]; omega, by omega⟩)))
      obtain ⟨L, hL⟩ : ∃ L, op.dims ++ d.drop f.length = L := ⟨_, rfl⟩
      rw [hL] at HC HL2 hle
      clear hL
      refine wpT_tail [_, _, _] 7 [8, 9] rfl (by kernel_rfl) ?_
      go_wp2_with fail
      ((with_reducible refine HC.out.mono ?_); rintro e w2 ⟨v, rfl, ho2, hb2⟩)
      have HB2 := Lib.hid (HBw.out.trans (hb2.mono HBw.out.size))
      have HSL := Lib.hid (Ar.fr_own (N := w.heap.size) ho2 HBw.out.size)
      obtain ⟨A2, c2, rfl, i2, l2, m2⟩ := Ar.sl_own ho2
      clear ho2 hb2 hwk
      have HTA := Lib.hid (show AdjD.dims op [d, f] = AdjD'.tail (L, 0) from by rw [HT.out, HL2.out])
      have HSZ := Lib.hid (Size_any A2 c2 L w2.heap.size w2 (by omega) i2)
      by_cases hsz : (AdjV.size L).2 ≠ 0
      ·have hq2 : ((AdjV.size L).2 != 0) = true := by simpa using hsz
       have HV := Lib.hid (show AdjD.dims op [d, f] = ([], (AdjV.size L).2) by rw [HTA.out]; exact AdjD'.tail_size hsz)
       clear hsz
       go_wp2_with fail
       refine HSZ.out.mono ?_
       rintro e w7 ⟨rfl, rfl⟩
       simp only [Vw.sizeR]
       go_wp2_with fail
       go_ret2
       rw [HV.out]
       exact ⟨⟨_, rfl, Ar.FrAt.nil _ _⟩, HB2.out⟩
      ·have hq2 : ((AdjV.size L).2 != 0) = false := by simpa using hsz
       have HV := Lib.hid (show AdjD.dims op [d, f] = (L, 0) by rw [HTA.out]; exact AdjD'.tail_ok (by omega))
       have h0 : (AdjV.size L).2 = 0 := by omega
       clear hsz
       go_wp2_with fail
       refine HSZ.out.mono ?_
       rintro e w7 ⟨rfl, rfl⟩
       simp only [Vw.sizeR]
       go_wp2_with fail
       go_ret2
       rw [HV.out]
       exact ⟨⟨_, rfl, HSL.out⟩, HB2.out⟩
   ·have HV := Lib.hid (HBAD.out (.inr (.inr a3)))
    rw [decide_eq_false a3] at hEQ
    clear a3
    go_wp2_with fail
    go_quiet (exact Calls.quiet_of (hEQ _))
    have HBz := Lib.hid (below_drewN HB1.out nq)
    clear x0 x1 x2 x3 x4 x5 x6 ca0 ca1
    generalize w1.drewN nq = wz at HBz ⊢
    go_wp2_with fail
    go_ret2
    rw [HV.out]
    exact ⟨⟨_, rfl, Ar.FrAt.nil _ _⟩, HBz.out⟩
 ·have HV := Lib.hid (HBAD.out (.inl a1))
  have q1 : ((op.dims.length : Int) != 1) = true := by rw [bne_iff_ne]; omega
  clear a1
  go_wp2_with fail
  go_quiet (fail)
  have HBz := Lib.hid (below_drewN HB1.out nq)
  clear x0 x1 x2 x3 x4 x5 x6 ca0 ca1
  generalize w1.drewN nq = wz at HBz ⊢
  go_wp2_with fail
  go_ret2
  rw [HV.out]
  exact ⟨⟨_, rfl, Ar.FrAt.nil _ _⟩, HBz.out⟩
end Go.Proofs.Ytapedmpbkffopaa
end
section
namespace Go.Proofs.Ytapedmpbkffopaa
set_option linter.unusedVariables false
open Go.RowKit Adj
set_option maxRecDepth 100000 in
set_option maxHeartbeats 8000000 in
theorem Ar.dims_join (val : Value) (op : AdjD.Op) (A : Option Addr) (cap : Nat) (args : List (List Int)) (B : Nat) (w : World) (hB : B ≤ w.heap.size) (hsh : Ar.Short op) (hn0 : 0 < args.length) (hn1 : args.length ≤ 8388608) (hcap : args.length ≤ cap) (hcap2 : cap ≤ 9223372036854775807) (hop : Ar.OpAt w B val op) (hargs : Ar.ListsAt w B A args) (hk : op.kind = 17) :
    Calls Try.prog 25 #[val, .slice A args.length cap] w fun e w' => Ar.DimsOut w w' (AdjD.dims op args) e := by
 have HOP := Lib.hid (fun W (hb : Below w.heap.size w W) => (hop.below (hb.mono hB)).up (Nat.le_trans hB hb.size))
 have HAR := Lib.hid (fun W (hb : Below w.heap.size w W) => (hargs.below (hb.mono hB)).up (Nat.le_trans hB hb.size))
 obtain ⟨v1, v2, v3, v4, v5, rfl, ⟨D, cD, rfl, iD, lD, mD⟩, ⟨T, ct, rfl, it, lt, mt⟩, ⟨O, co, rfl, io, lo, mo⟩, ⟨I, ci, rfl, ii, li, mi⟩, ⟨S, cs, rfl, is, ls, ms⟩⟩ := hop
 have HL := Lib.hid (fun W (hb : Below w.heap.size w W) => And.intro ((iD.below (hb.mono hB)).up (Nat.le_trans hB hb.size)) (And.intro ((it.below (hb.mono hB)).up (Nat.le_trans hB hb.size)) (And.intro ((io.below (hb.mono hB)).up (Nat.le_trans hB hb.size)) (And.intro ((ii.below (hb.mono hB)).up (Nat.le_trans hB hb.size)) ((is.below (hb.mono hB)).up (Nat.le_trans hB hb.size))))))
 have HX := Lib.hid (Blk.new w 37 #[.int .i64 op.kind, .slice D op.dims.length cD, .slice T op.at_.length ct, .slice O op.lo.length co, .slice I op.hi.length ci, .slice S op.step.length cs, .int .i64 op.value])
 have HB := Lib.hid ((Below.refl w.heap.size w).alloc (Nat.le_refl _) (.cells #[.int .i64 op.kind, .slice D op.dims.length cD, .slice T op.at_.length ct, .slice O op.lo.length co, .slice I op.hi.length ci, .slice S op.step.length cs, .int .i64 op.value] 37))
 have hz0 : (w.alloc (.cells #[.int .i64 op.kind, .slice D op.dims.length cD, .slice T op.at_.length ct, .slice O op.lo.length co, .slice I op.hi.length ci, .slice S op.step.length cs, .int .i64 op.value] 37)).heap.size = w.heap.size + 1 := by simp
 obtain ⟨w0, hw0⟩ : ∃ w0, w.alloc (.cells #[.int .i64 op.kind, .slice D op.dims.length cD, .slice T op.at_.length ct, .slice O op.lo.length co, .slice I op.hi.length ci, .slice S op.step.length cs, .int .i64 op.value] 37) = w0 := ⟨_, rfl⟩
 rw [hw0] at HX HB hz0
 have HF := Lib.hid (Ar.fits_any _ op _ cap args w0.heap.size w0 (Nat.le_refl _) (by first | omega | simp) (HOP.out w0 HB.out) (HAR.out w0 HB.out))
 have HM := Lib.hid (show op.dims.length ≤ cD ∧ op.at_.length ≤ ct ∧ op.lo.length ≤ co ∧ op.hi.length ≤ ci ∧ op.step.length ≤ cs from ⟨lD, lt, lo, li, ls⟩)
 have HDT := Lib.hid (fun h => AdjD'.dims_tail (op := op) (args := args) h)
 have HDZ := Lib.hid (fun h => AdjD'.fit_sizes (op := op) (args := args) h)
 clear iD it io ii is lD lt lo li ls hargs
 skip
 rw [hk] at HX HF HOP hw0 ⊢
 have b0 : w0.cell? ⟨w.heap.size, 0, none⟩ = some (.int .i64 17) := HX.out.cell 0
 have b1 : w0.cell? ⟨w.heap.size, 1, none⟩ = some (.slice D op.dims.length cD) := HX.out.cell 1
 have b2 : w0.cell? ⟨w.heap.size, 2, none⟩ = some (.slice T op.at_.length ct) := HX.out.cell 2
 have b3 : w0.cell? ⟨w.heap.size, 3, none⟩ = some (.slice O op.lo.length co) := HX.out.cell 3
 have b4 : w0.cell? ⟨w.heap.size, 4, none⟩ = some (.slice I op.hi.length ci) := HX.out.cell 4
 have b5 : w0.cell? ⟨w.heap.size, 5, none⟩ = some (.slice S op.step.length cs) := HX.out.cell 5
 have b6 : w0.cell? ⟨w.heap.size, 6, none⟩ = some (.int .i64 op.value) := HX.out.cell 6
 go_enter Try.func25, Try.ntmps25
 go_wp2_with fail
 ((with_reducible refine HF.out.mono ?_); rintro e w1 ⟨rfl, hb1⟩)
 have HB1 := Lib.hid (HB.out.trans (hb1.mono HB.out.size))
 have HX1 := Lib.hid (HX.out.below hb1 HX.out.lt)
 have hs1 : w.heap.size + 1 ≤ w1.heap.size := by rw [← hz0]; exact hb1.size
 clear hb1 HF hw0 b0 b1 b2 b3 b4 b5 b6
 by_cases hf : AdjD'.fitE op args ≠ 0
 ·have HV := Lib.hid (AdjD'.dims_fit hf)
  have hq : (AdjD'.fitE op args != 0) = true := by simpa using hf
  generalize AdjD'.fitE op args = f at hq HV hf
  clear hf HDT HDZ
  go_wp2_with fail
  go_ret2
  rw [HV.out]
  exact ⟨⟨_, rfl, Ar.FrAt.nil _ _⟩, HB1.out⟩
 have hf0 : AdjD'.fitE op args = 0 := by omega
 have HT := Lib.hid (HDT.out hf0)
 have HZ := Lib.hid (HDZ.out hf0)
 rw [hf0]
 have x0 : w1.cell? ⟨w.heap.size, 0, none⟩ = some (.int .i64 17) := HX1.out.cell 0
 have x1 : w1.cell? ⟨w.heap.size, 1, none⟩ = some (.slice D op.dims.length cD) := HX1.out.cell 1
 have x2 : w1.cell? ⟨w.heap.size, 2, none⟩ = some (.slice T op.at_.length ct) := HX1.out.cell 2
 have x3 : w1.cell? ⟨w.heap.size, 3, none⟩ = some (.slice O op.lo.length co) := HX1.out.cell 3
 have x4 : w1.cell? ⟨w.heap.size, 4, none⟩ = some (.slice I op.hi.length ci) := HX1.out.cell 4
 have x5 : w1.cell? ⟨w.heap.size, 5, none⟩ = some (.slice S op.step.length cs) := HX1.out.cell 5
 have x6 : w1.cell? ⟨w.heap.size, 6, none⟩ = some (.int .i64 op.value) := HX1.out.cell 6
 clear hf hf0 HDT HDZ
 have HRU := Lib.hid (show AdjD.ruled op args = AdjD.joinDims op args by unfold AdjD.ruled; simp [hk])
 have HC := Lib.hid (Ar.joined_any op T A ct cap args w1.heap.size w1 (Nat.le_refl _) (by have := HM.out; omega) hn0 (by omega) hcap hcap2 (fun d hd => ⟨(AdjV.size_fine (HZ.out d hd)).1, (AdjV.size_fine (HZ.out d hd)).2.1⟩) (HL.out w1 HB1.out).2.1 (HAR.out w1 HB1.out))
 obtain ⟨⟨l, x⟩, hR⟩ : ∃ R, AdjD.joinDims op args = R := ⟨_, rfl⟩
 rw [hR] at HC HRU
 dsimp only at HC
 clear hR
 have HBq := Lib.hid HB1.out
 go_wp2_with fail
 ((with_reducible refine HC.out.mono ?_); rintro e w2 ⟨v, rfl, hsl, hb2⟩)
 have HB2 := Lib.hid (HBq.out.trans (hb2.mono HBq.out.size))
 have HSL := Lib.hid (show Ar.FrAt w.heap.size w2 v l from ⟨hsl.1, fun h g hg => Nat.le_trans HBq.out.size (hsl.2 h g hg)⟩)
 obtain ⟨⟨A2, c2, rfl, i2, l2, m2⟩, hfr⟩ := hsl
 clear hb2 hfr
 have hl6 : l.length ≤ 9223372036854775807 := by omega
 by_cases he : x = 0
 ·subst he
  have HTA := Lib.hid (show AdjD.dims op args = AdjD'.tail (l, 0) from by rw [HT.out, HRU.out])
  have HSZ := Lib.hid (Size_any A2 c2 l w2.heap.size w2 (by omega) i2)
  by_cases hsz : (AdjV.size l).2 ≠ 0
  ·have hq2 : ((AdjV.size l).2 != 0) = true := by simpa using hsz
   have HV := Lib.hid (show AdjD.dims op args = ([], (AdjV.size l).2) by rw [HTA.out]; exact AdjD'.tail_size hsz)
   clear hsz
   go_wp2_with fail
   refine HSZ.out.mono ?_
   rintro e w7 ⟨rfl, rfl⟩
   simp only [Vw.sizeR]
   go_wp2_with fail
   go_ret2
   rw [HV.out]
   exact ⟨⟨_, rfl, Ar.FrAt.nil _ _⟩, HB2.out⟩
  ·have hq2 : ((AdjV.size l).2 != 0) = false := by simpa using hsz
   have HV := Lib.hid (show AdjD.dims op args = (l, 0) by rw [HTA.out]; exact AdjD'.tail_ok (by omega))
   have h0 : (AdjV.size l).2 = 0 := by omega
   clear hsz
   go_wp2_with fail
   refine HSZ.out.mono ?_
   rintro e w7 ⟨rfl, rfl⟩
   simp only [Vw.sizeR]
   go_wp2_with fail
   go_ret2
   rw [HV.out]
   exact ⟨⟨_, rfl, HSL.out⟩, HB2.out⟩
 ·have hq : (x != 0) = true := by simpa using he
  have HV := Lib.hid (show AdjD.dims op args = ([], x) by rw [HT.out, HRU.out]; exact AdjD'.tail_err he)
  clear he
  go_wp2_with fail
  go_ret2
  rw [HV.out]
  exact ⟨⟨_, rfl, Ar.FrAt.nil _ _⟩, HB2.out⟩
set_option maxRecDepth 100000 in
set_option maxHeartbeats 8000000 in
theorem Ar.dims_look (val : Value) (op : AdjD.Op) (A : Option Addr) (cap : Nat) (d : List Int) (B : Nat) (w : World) (hB : B ≤ w.heap.size) (hsh : Ar.Short op) (hcap : 1 ≤ cap) (hcap2 : cap ≤ 9223372036854775807) (hop : Ar.OpAt w B val op) (hargs : Ar.ListsAt w B A [d]) (K : Int) (hKK : K = 9 ∨ K = 11 ∨ K = 12 ∨ K = 13 ∨ K = 15) (hk : op.kind = K) :
    Calls Try.prog 25 #[val, .slice A 1 cap] w fun e w' => Ar.DimsOut w w' (AdjD.dims op [d]) e := by
 rcases hKK with rfl | rfl | rfl | rfl | rfl
 all_goals
  have hargs2 := hargs
  obtain ⟨b, off, rfl, hbB, hc⟩ := hargs2 (by simp)
  obtain ⟨v0, cv0, A0, c0, rfl, i0, l0, m0⟩ := hc 0 (by simp)
  rw [Nat.add_zero] at cv0
  simp only [List.getElem_cons_zero] at cv0 i0 l0
  have HI0 := Lib.hid i0
  have hbw : b < w.heap.size := by omega
  clear hc i0
  have HOP := Lib.hid (fun W (hb : Below w.heap.size w W) => (hop.below (hb.mono hB)).up (Nat.le_trans hB hb.size))
  have HAR := Lib.hid (fun W (hb : Below w.heap.size w W) => (hargs.below (hb.mono hB)).up (Nat.le_trans hB hb.size))
  obtain ⟨v1, v2, v3, v4, v5, rfl, ⟨D, cD, rfl, iD, lD, mD⟩, ⟨T, ct, rfl, it, lt, mt⟩, ⟨O, co, rfl, io, lo, mo⟩, ⟨I, ci, rfl, ii, li, mi⟩, ⟨S, cs, rfl, is, ls, ms⟩⟩ := hop
  have HL := Lib.hid (fun W (hb : Below w.heap.size w W) => And.intro ((iD.below (hb.mono hB)).up (Nat.le_trans hB hb.size)) (And.intro ((it.below (hb.mono hB)).up (Nat.le_trans hB hb.size)) (And.intro ((io.below (hb.mono hB)).up (Nat.le_trans hB hb.size)) (And.intro ((ii.below (hb.mono hB)).up (Nat.le_trans hB hb.size)) ((is.below (hb.mono hB)).up (Nat.le_trans hB hb.size))))))
  have HX := Lib.hid (Blk.new w 37 #[.int .i64 op.kind, .slice D op.dims.length cD, .slice T op.at_.length ct, .slice O op.lo.length co, .slice I op.hi.length ci, .slice S op.step.length cs, .int .i64 op.value])
  have HB := Lib.hid ((Below.refl w.heap.size w).alloc (Nat.le_refl _) (.cells #[.int .i64 op.kind, .slice D op.dims.length cD, .slice T op.at_.length ct, .slice O op.lo.length co, .slice I op.hi.length ci, .slice S op.step.length cs, .int .i64 op.value] 37))
  have hz0 : (w.alloc (.cells #[.int .i64 op.kind, .slice D op.dims.length cD, .slice T op.at_.length ct, .slice O op.lo.length co, .slice I op.hi.length ci, .slice S op.step.length cs, .int .i64 op.value] 37)).heap.size = w.heap.size + 1 := by simp
  obtain ⟨w0, hw0⟩ : ∃ w0, w.alloc (.cells #[.int .i64 op.kind, .slice D op.dims.length cD, .slice T op.at_.length ct, .slice O op.lo.length co, .slice I op.hi.length ci, .slice S op.step.length cs, .int .i64 op.value] 37) = w0 := ⟨_, rfl⟩
  rw [hw0] at HX HB hz0
  have HF := Lib.hid (Ar.fits_any _ op _ cap [d] w0.heap.size w0 (Nat.le_refl _) (by first | omega | simp) (HOP.out w0 HB.out) (HAR.out w0 HB.out))
  have HM := Lib.hid (show op.dims.length ≤ cD ∧ op.at_.length ≤ ct ∧ op.lo.length ≤ co ∧ op.hi.length ≤ ci ∧ op.step.length ≤ cs from ⟨lD, lt, lo, li, ls⟩)
  have HDT := Lib.hid (fun h => AdjD'.dims_tail (op := op) (args := [d]) h)
  have HDZ := Lib.hid (fun h => AdjD'.fit_sizes (op := op) (args := [d]) h)
  clear iD it io ii is lD lt lo li ls hargs
  simp only [List.length_cons, List.length_nil, Nat.zero_add] at HF
  rw [hk] at HX HF HOP hw0 ⊢
  have b0 : w0.cell? ⟨w.heap.size, 0, none⟩ = some (.int .i64 _) := HX.out.cell 0
  have b1 : w0.cell? ⟨w.heap.size, 1, none⟩ = some (.slice D op.dims.length cD) := HX.out.cell 1
  have b2 : w0.cell? ⟨w.heap.size, 2, none⟩ = some (.slice T op.at_.length ct) := HX.out.cell 2
  have b3 : w0.cell? ⟨w.heap.size, 3, none⟩ = some (.slice O op.lo.length co) := HX.out.cell 3
  have b4 : w0.cell? ⟨w.heap.size, 4, none⟩ = some (.slice I op.hi.length ci) := HX.out.cell 4
  have b5 : w0.cell? ⟨w.heap.size, 5, none⟩ = some (.slice S op.step.length cs) := HX.out.cell 5
  have b6 : w0.cell? ⟨w.heap.size, 6, none⟩ = some (.int .i64 op.value) := HX.out.cell 6
  go_enter Try.func25, Try.ntmps25
  go_wp2_with fail
  ((with_reducible refine HF.out.mono ?_); rintro e w1 ⟨rfl, hb1⟩)
  have HB1 := Lib.hid (HB.out.trans (hb1.mono HB.out.size))
  have HX1 := Lib.hid (HX.out.below hb1 HX.out.lt)
  have hs1 : w.heap.size + 1 ≤ w1.heap.size := by rw [← hz0]; exact hb1.size
  clear hb1 HF hw0 b0 b1 b2 b3 b4 b5 b6
  by_cases hf : AdjD'.fitE op [d] ≠ 0
  ·have HV := Lib.hid (AdjD'.dims_fit hf)
   have hq : (AdjD'.fitE op [d] != 0) = true := by simpa using hf
   generalize AdjD'.fitE op [d] = f at hq HV hf
   clear hf HDT HDZ
   go_wp2_with fail
   go_ret2
   rw [HV.out]
   exact ⟨⟨_, rfl, Ar.FrAt.nil _ _⟩, HB1.out⟩
  have hf0 : AdjD'.fitE op [d] = 0 := by omega
  have HT := Lib.hid (HDT.out hf0)
  have HZ := Lib.hid (HDZ.out hf0)
  rw [hf0]
  have x0 : w1.cell? ⟨w.heap.size, 0, none⟩ = some (.int .i64 _) := HX1.out.cell 0
  have x1 : w1.cell? ⟨w.heap.size, 1, none⟩ = some (.slice D op.dims.length cD) := HX1.out.cell 1
  have x2 : w1.cell? ⟨w.heap.size, 2, none⟩ = some (.slice T op.at_.length ct) := HX1.out.cell 2
  have x3 : w1.cell? ⟨w.heap.size, 3, none⟩ = some (.slice O op.lo.length co) := HX1.out.cell 3
  have x4 : w1.cell? ⟨w.heap.size, 4, none⟩ = some (.slice I op.hi.length ci) := HX1.out.cell 4
  have x5 : w1.cell? ⟨w.heap.size, 5, none⟩ = some (.slice S op.step.length cs) := HX1.out.cell 5
  have x6 : w1.cell? ⟨w.heap.size, 6, none⟩ = some (.int .i64 op.value) := HX1.out.cell 6
  clear hf hf0 HDT HDZ
  have hz := HZ.out d (by simp)
  obtain ⟨hd6, hdp, _⟩ := AdjV.size_fine hz
  have HDP := Lib.hid hdp
  have HZD := Lib.hid hz
  have ca0 := (HB1.out.cell (p := ⟨b, off, none⟩) (by show b < w.heap.size; omega)).trans cv0
  have i1 : (0 : Int) < 1 := by omega
  clear cv0 hz hdp
  have HRU := Lib.hid (AdjD'.look_rule op d (by omega) HZD.out)
  obtain ⟨R, hR⟩ : ∃ R, AdjD'.lookV op d = R := ⟨_, rfl⟩
  rw [hR] at HRU
  have AL := Blk.new w1 68 #[.int .i64 0, .slice none 0 0, .slice none 0 0]
  have HX2 := HX1.out.alloc (.cells #[.int .i64 0, .slice none 0 0, .slice none 0 0] 68)
  have HB2a := Lib.hid (HB1.out.alloc (by omega) (.cells #[.int .i64 0, .slice none 0 0, .slice none 0 0] 68))
  have ca2 := (World.cell?_alloc_lt w1 (.cells #[.int .i64 0, .slice none 0 0, .slice none 0 0] 68) ⟨b, off, none⟩ (ar_lt ca0)).trans ca0
  have hsa : (w1.alloc (.cells #[.int .i64 0, .slice none 0 0, .slice none 0 0] 68)).heap.size = w1.heap.size + 1 := by simp
  have y0 : (w1.alloc (.cells #[.int .i64 0, .slice none 0 0, .slice none 0 0] 68)).cell? ⟨w.heap.size, 0, none⟩ = some (.int .i64 _) := HX2.cell 0
  have y1 : (w1.alloc (.cells #[.int .i64 0, .slice none 0 0, .slice none 0 0] 68)).cell? ⟨w.heap.size, 1, none⟩ = some (.slice D op.dims.length cD) := HX2.cell 1
  have y2 : (w1.alloc (.cells #[.int .i64 0, .slice none 0 0, .slice none 0 0] 68)).cell? ⟨w.heap.size, 2, none⟩ = some (.slice T op.at_.length ct) := HX2.cell 2
  have y3 : (w1.alloc (.cells #[.int .i64 0, .slice none 0 0, .slice none 0 0] 68)).cell? ⟨w.heap.size, 3, none⟩ = some (.slice O op.lo.length co) := HX2.cell 3
  have y4 : (w1.alloc (.cells #[.int .i64 0, .slice none 0 0, .slice none 0 0] 68)).cell? ⟨w.heap.size, 4, none⟩ = some (.slice I op.hi.length ci) := HX2.cell 4
  have y5 : (w1.alloc (.cells #[.int .i64 0, .slice none 0 0, .slice none 0 0] 68)).cell? ⟨w.heap.size, 5, none⟩ = some (.slice S op.step.length cs) := HX2.cell 5
  have y6 : (w1.alloc (.cells #[.int .i64 0, .slice none 0 0, .slice none 0 0] 68)).cell? ⟨w.heap.size, 6, none⟩ = some (.int .i64 op.value) := HX2.cell 6
  have HN := Lib.hid AL
  obtain ⟨wa, hwa⟩ : ∃ wa, w1.alloc (.cells #[.int .i64 0, .slice none 0 0, .slice none 0 0] 68) = wa := ⟨_, rfl⟩
  obtain ⟨P, hP⟩ : ∃ P, w1.heap.size = P := ⟨_, rfl⟩
  rw [hwa] at HN HB2a ca2 hsa y0 y1 y2 y3 y4 y5 y6
  rw [hP] at HN hsa hs1
  have HWA := Lib.hid hwa
  have HPP := Lib.hid hP
  clear HX2 AL hwa hP ca0
  go_wp2_with fail
  simp only [HWA.out, HPP.out]
  refine wp_region_T (fun w' => w'.cell? ⟨w.heap.size, 0, none⟩ = some (.int .i64 _) ∧ w'.cell? ⟨w.heap.size, 1, none⟩ = some (.slice D op.dims.length cD) ∧ w'.cell? ⟨w.heap.size, 2, none⟩ = some (.slice T op.at_.length ct) ∧ w'.cell? ⟨w.heap.size, 3, none⟩ = some (.slice O op.lo.length co) ∧ w'.cell? ⟨w.heap.size, 4, none⟩ = some (.slice I op.hi.length ci) ∧ w'.cell? ⟨w.heap.size, 5, none⟩ = some (.slice S op.step.length cs) ∧ w'.cell? ⟨w.heap.size, 6, none⟩ = some (.int .i64 op.value) ∧ w'.cell? ⟨b, off, none⟩ = some (.slice A0 d.length c0)) 4 (fun _ => True) 4 10 rfl (by kernel_rfl) ⟨⟨y0, y1, y2, y3, y4, y5, y6, ca2⟩, trivial⟩ (fun hHeld => ?_)
  simp only [List.replicate_succ, List.replicate_zero]
  refine tk (v := ?_) [] 0 25 hHeld ?_ ?_; rotate_left; (intro w h; (try dsimp only at h); go_simp; try with_reducible rfl); try simp only [Act.put, zA, zB, zC]
  refine tk (v := ?_) [2, 3] 1 26 hHeld ?_ ?_; rotate_left; (intro w h; (try dsimp only at h); go_simp; try with_reducible rfl); try simp only [Act.put, zA, zB, zC]
  refine tk (v := ?_) [3] 2 27 hHeld ?_ ?_; rotate_left; (intro w h; (try dsimp only at h); go_simp; try with_reducible rfl); try simp only [Act.put, zA, zB, zC]
  refine tk (v := ?_) [] 3 28 hHeld ?_ ?_; rotate_left; (intro w h; (try dsimp only at h); go_simp; try with_reducible rfl); try simp only [Act.put, zA, zB, zC]
  have HBq := Lib.hid (show Below w.heap.size w wa.drew from HB2a.out.drew)
  have HNq := Lib.hid HN.out.drew
  have hsq : wa.drew.heap.size = P + 1 := hsa
  clear hHeld x0 x1 x2 x3 x4 x5 x6 y0 y1 y2 y3 y4 y5 y6 ca2
  generalize wa.drew = wq at HBq HNq hsq ⊢
  have HC := Lib.hid (Ar.look_any _ op A0 c0 d wq.heap.size wq (Nat.le_refl _) (HOP.out wq HBq.out) ((HI0.out.below (HBq.out.mono hB)).up (Nat.le_trans hB HBq.out.size)) l0 m0)
  rw [hR] at HC
  clear hR
  refine wpT_one 4 (by kernel_rfl) (stepT_late rfl rfl (by kernel_rfl) (fun K hK => ?_))
  go_simp
  ((with_reducible refine HC.out.mono ?_); rintro e w3 ⟨⟨val3, rfl, hv3, ha3⟩, hb3⟩)
  obtain ⟨G1, k1, G2, k2, rfl, ig1, ig2, lg1, mg1, lg2, mg2⟩ := hv3
  have hga := (ha3 _ _ _ _ _ _ _ rfl).1
  have HGA := Lib.hid hga
  have HIG := Lib.hid ig1
  have HN3 := Lib.hid (HNq.out.below hb3 HNq.out.lt)
  have HB3 := Lib.hid (HBq.out.trans (hb3.mono HBq.out.size))
  have hs3 : P < w3.heap.size := HN3.out.lt
  clear ig1 ig2 lg2 mg2 ha3 hga hb3
  try go_simp
  refine hK.out _ _ trivial (fun hHeld => ?_)
  clear hK K
  try simp only [zA, zB, zC]
  refine tp (v := ?_) 5 24 (Till.late (by kernel_rfl) hHeld) ?_ ?_; rotate_left; (intro w; go_simp; try with_reducible rfl); try simp only [Act.put, zA, zB, zC]
  refine tp (v := ?_) 6 30 (Till.late (by kernel_rfl) hHeld) ?_ ?_; rotate_left; (intro w; go_simp; try with_reducible rfl); try simp only [Act.put, zA, zB, zC]
  refine tp (v := ?_) 7 31 (Till.late (by kernel_rfl) hHeld) ?_ ?_; rotate_left; (intro w; go_simp; try with_reducible rfl); try simp only [Act.put, zA, zB, zC]
  have r0 : w3.cell? ⟨P, 0, none⟩ = some (.int .i64 0) := HN3.out.cell 0
  have r1 : w3.cell? ⟨P, 1, none⟩ = some (.slice none 0 0) := HN3.out.cell 1
  have r2 : w3.cell? ⟨P, 2, none⟩ = some (.slice none 0 0) := HN3.out.cell 2
  have f0 := HN3.out.frozen 0
  have f1 := HN3.out.frozen 1
  have f2 := HN3.out.frozen 2
  have HRA := Lib.hid (show R.2 = 0 → AdjD.ruled op [d] = (R.1.dims, 0) from fun h => Prod.ext (HRU.out.2 h).symm (HRU.out.1.symm.trans h))
  have HRB := Lib.hid (show R.2 ≠ 0 → AdjD.dims op [d] = ([], R.2) from fun h => by rw [HT.out, AdjD'.tail_err (by rw [← HRU.out.1]; exact h), HRU.out.1])
  obtain ⟨⟨st, l, ss⟩, x⟩ := R
  dsimp only at HRA HRB HIG HGA lg1 ⊢
  obtain ⟨sl, hsl⟩ : ∃ n, ss.length = n := ⟨_, rfl⟩
  rw [hsl]
  clear hsl
  have HB4 := Lib.hid (Vw.three HB3.out (show w.heap.size ≤ P by omega) (.int .i64 st) (.slice G1 l.length k1) (.slice G2 sl k2))
  have HI4 := Lib.hid ((HIG.out.set3 (c := P) (fun b off e hp => by have := HGA.out b off e hp; omega) (.int .i64 st) (.slice G1 l.length k1) (.slice G2 sl k2)).up (show w3.heap.size ≤ (((w3.setCell ⟨P, 0, none⟩ (.int .i64 st)).setCell ⟨P, 1, none⟩ (.slice G1 l.length k1)).setCell ⟨P, 2, none⟩ (.slice G2 sl k2)).heap.size by simp))
  have HSL := Lib.hid (show Ar.SlAt (((w3.setCell ⟨P, 0, none⟩ (.int .i64 st)).setCell ⟨P, 1, none⟩ (.slice G1 l.length k1)).setCell ⟨P, 2, none⟩ (.slice G2 sl k2)) (((w3.setCell ⟨P, 0, none⟩ (.int .i64 st)).setCell ⟨P, 1, none⟩ (.slice G1 l.length k1)).setCell ⟨P, 2, none⟩ (.slice G2 sl k2)).heap.size (.slice G1 l.length k1) l from ⟨G1, k1, rfl, HI4.out, lg1, mg1⟩)
  clear hHeld
  by_cases he : x = 0
  ·subst he
   refine wpT_tail [_, _] 8 [9] rfl (by kernel_rfl) ?_
   have HTA := Lib.hid (show AdjD.dims op [d] = AdjD'.tail (l, 0) from by rw [HT.out, HRA.out rfl])
   have HSZ := Lib.hid (Size_any G1 k1 l (((w3.setCell ⟨P, 0, none⟩ (.int .i64 st)).setCell ⟨P, 1, none⟩ (.slice G1 l.length k1)).setCell ⟨P, 2, none⟩ (.slice G2 sl k2)).heap.size (((w3.setCell ⟨P, 0, none⟩ (.int .i64 st)).setCell ⟨P, 1, none⟩ (.slice G1 l.length k1)).setCell ⟨P, 2, none⟩ (.slice G2 sl k2)) (by omega) HI4.out)
   by_cases hsz : (AdjV.size l).2 ≠ 0
   ·have hq2 : ((AdjV.size l).2 != 0) = true := by simpa using hsz
    have HV := Lib.hid (show AdjD.dims op [d] = ([], (AdjV.size l).2) by rw [HTA.out]; exact AdjD'.tail_size hsz)
    clear hsz
    go_wp2_with fail
    refine HSZ.out.mono ?_
    rintro e w7 ⟨rfl, rfl⟩
    simp only [Vw.sizeR]
    go_wp2_with fail
    go_ret2
    rw [HV.out]
    exact ⟨⟨_, rfl, Ar.FrAt.nil _ _⟩, HB4.out⟩
   ·have hq2 : ((AdjV.size l).2 != 0) = false := by simpa using hsz
    have HV := Lib.hid (show AdjD.dims op [d] = (l, 0) by rw [HTA.out]; exact AdjD'.tail_ok (by omega))
    have h0 : (AdjV.size l).2 = 0 := by omega
    clear hsz
    go_wp2_with fail
    refine HSZ.out.mono ?_
    rintro e w7 ⟨rfl, rfl⟩
    simp only [Vw.sizeR]
    go_wp2_with fail
    go_ret2
    rw [HV.out]
    exact ⟨⟨_, rfl, Ar.fr_of HSL.out (fun b off e hp => by have := HGA.out b off e hp; have := HBq.out.size; omega)⟩, HB4.out⟩
  ·have hq : (x != 0) = true := by simpa using he
   have HV := Lib.hid (HRB.out he)
   clear he
   refine wpT_tail [_, _] 8 [9] rfl (by kernel_rfl) ?_
   go_wp2_with fail
   go_ret2
   rw [HV.out]
   exact ⟨⟨_, rfl, Ar.FrAt.nil _ _⟩, HB4.out⟩
end Go.Proofs.Ytapedmpbkffopaa
end
