/-
  The walk of the reference's dotDims; The walk of the reference's ruled, kind by kind: 2 (fill), 3 to 8 (alike), 10 (sum), 12 (reform). Conditions: where the theorems name them.
-/
import Derived.Test.YtapedmpbkffopaaZ02
import Derived.Test.YtapedmpbkffopaaZ05
import Derived.Test.YtapedmpbkffopaaZ17
import Derived.Test.YtapedmpbkffopaaZ20
import Derived.Test.YtapedmpbkffopaaZ23
section
namespace Go.Proofs.Ytapedmpbkffopaa
set_option linter.unusedVariables false
open Go.RowKit Adj
namespace AdjD'
theorem once_mem {l : List Int} {n : Nat} (h : AdjD.onceB l n = true) : ∀ k ∈ l, 0 ≤ k ∧ k < (n : Int) := fun k hk => by
 unfold AdjD.onceB at h
 rw [Bool.and_eq_true] at h
 have h1 := List.all_eq_true.1 h.1 k hk
 simp only [Bool.and_eq_true, decide_eq_true_eq] at h1
 exact h1
theorem free_mem {d l : List Int} : ∀ k ∈ AdjD.free d l, 0 ≤ k ∧ k < (d.length : Int) := fun k hk => by
 unfold AdjD.free at hk
 have h := (List.mem_filter.1 hk).1
 unfold AdjV.rangeZ at h
 obtain ⟨j, hj, rfl⟩ := List.mem_map.1 h
 have := List.mem_range.1 hj
 omega
theorem free_len (d l : List Int) : (AdjD.free d l).length ≤ d.length := by rw [← keep_all]; exact keep_len _ _ _
end AdjD'
set_option maxRecDepth 100000 in
set_option maxHeartbeats 8000000 in
theorem Ar.dotDims_any (val : Value) (op : AdjD.Op) (A A' : Option Addr) (ca cb : Nat) (a b : List Int) (B : Nat) (w : World) (hB : B ≤ w.heap.size) (ha : a.length ≤ 6) (hb : b.length ≤ 6) (hsl : op.lo.length ≤ 4194304) (hsa : op.at_.length ≤ 4194304) (hsh : op.hi.length ≤ 4194304) (hss : op.step.length ≤ 4194304)
    (hop : Ar.OpAt w B val op) (h1 : Vw.IntsAt w B A a) (h2 : Vw.IntsAt w B A' b) :
    Calls Try.prog 31 #[val, .slice A a.length ca, .slice A' b.length cb] w fun e w' => ∃ v, e = .returned (.tuple #[v, .int .i64 (AdjD.dotDims op a b).2]) ∧ Ar.SlAt w' w'.heap.size v (AdjD.dotDims op a b).1 ∧ Below w.heap.size w w' := by
 obtain ⟨v1, v2, v3, v4, v5, rfl, _, ⟨T, ct, rfl, it, lt, mt⟩, ⟨O, co, rfl, io, lo, mo⟩, ⟨I, ci, rfl, ii, li, mi⟩, ⟨S, cs, rfl, is, ls, ms⟩⟩ := hop
 obtain ⟨L1, hL1⟩ : ∃ L, op.at_ ++ op.lo = L := ⟨_, rfl⟩
 obtain ⟨L2, hL2⟩ : ∃ L, op.step ++ op.hi = L := ⟨_, rfl⟩
 have HE := Lib.hid (show AdjD.dotDims op a b = if op.at_.length ≠ op.step.length ∨ op.lo.length ≠ op.hi.length then ([], 6) else if AdjD.onceB L1 a.length = false ∨ AdjD.onceB L2 b.length = false then ([], 6) else if AdjD.chosen a op.at_ ≠ AdjD.chosen b op.step ∨ AdjD.chosen a op.lo ≠ AdjD.chosen b op.hi then ([], 6) else (AdjD.chosen a op.lo ++ AdjD.chosen a (AdjD.free a L1) ++ AdjD.chosen b (AdjD.free b L2), 0) by rw [← hL1, ← hL2]; rfl)
 have HX := Lib.hid (Blk.new w 37 #[.int .i64 op.kind, v1, .slice T op.at_.length ct, .slice O op.lo.length co, .slice I op.hi.length ci, .slice S op.step.length cs, .int .i64 op.value])
 have HB := Lib.hid ((Below.refl w.heap.size w).alloc (Nat.le_refl _) (.cells #[.int .i64 op.kind, v1, .slice T op.at_.length ct, .slice O op.lo.length co, .slice I op.hi.length ci, .slice S op.step.length cs, .int .i64 op.value] 37))
 obtain ⟨w0, hw0⟩ : ∃ w0, w.alloc (.cells #[.int .i64 op.kind, v1, .slice T op.at_.length ct, .slice O op.lo.length co, .slice I op.hi.length ci, .slice S op.step.length cs, .int .i64 op.value] 37) = w0 := ⟨_, rfl⟩
 rw [hw0] at HX HB
 have hws : w.heap.size < w0.heap.size := HX.out.lt
 have HBW := Lib.hid (fun W (hb : Below w0.heap.size w0 W) => HB.out.trans (hb.mono (Nat.le_of_lt hws)))
 have HSK := Lib.hid (fun W (hb : Below w0.heap.size w0 W) => show W.cell? ⟨w.heap.size, 2, none⟩ = some (.slice T op.at_.length ct) ∧ W.cell? ⟨w.heap.size, 5, none⟩ = some (.slice S op.step.length cs) ∧ W.cell? ⟨w.heap.size, 3, none⟩ = some (.slice O op.lo.length co) ∧ W.cell? ⟨w.heap.size, 4, none⟩ = some (.slice I op.hi.length ci) from ⟨(HX.out.below hb HX.out.lt).cell 2, (HX.out.below hb HX.out.lt).cell 5, (HX.out.below hb HX.out.lt).cell 3, (HX.out.below hb HX.out.lt).cell 4⟩)
 have HSZ := Lib.hid (fun W (hb : Below w0.heap.size w0 W) => show B ≤ W.heap.size from Nat.le_trans hB (Nat.le_trans (Nat.le_of_lt hws) hb.size))
 have HT := Lib.hid (fun W (hb : Below w0.heap.size w0 W) => it.below ((HBW.out W hb).mono hB))
 have HO := Lib.hid (fun W (hb : Below w0.heap.size w0 W) => io.below ((HBW.out W hb).mono hB))
 have HI := Lib.hid (fun W (hb : Below w0.heap.size w0 W) => ii.below ((HBW.out W hb).mono hB))
 have HS := Lib.hid (fun W (hb : Below w0.heap.size w0 W) => is.below ((HBW.out W hb).mono hB))
 have HA := Lib.hid (fun W (hb : Below w0.heap.size w0 W) => h1.below ((HBW.out W hb).mono hB))
 have HA' := Lib.hid (fun W (hb : Below w0.heap.size w0 W) => h2.below ((HBW.out W hb).mono hB))
 have HB0 := Lib.hid (Below.refl w0.heap.size w0)
 have HTO := Lib.hid (fun W (hb : Below w0.heap.size w0 W) => by
  have h := Ar.both2_any T O ct co op.at_ op.lo B W (HSZ.out W hb) (by omega) (by omega) (HT.out W hb) (HO.out W hb)
  rwa [hL1] at h)
 have HSI := Lib.hid (fun W (hb : Below w0.heap.size w0 W) => by
  have h := Ar.both2_any S I cs ci op.step op.hi B W (HSZ.out W hb) (by omega) (by omega) (HS.out W hb) (HI.out W hb)
  rwa [hL2] at h)
 have hl1 : L1.length ≤ 8388608 := by rw [← hL1, List.length_append]; omega
 have hl2 : L2.length ≤ 8388608 := by rw [← hL2, List.length_append]; omega
 have HM1 := Lib.hid (fun (h : AdjD.onceB L1 a.length = true) => And.intro (fun k (hk : k ∈ op.at_) => AdjD'.once_mem h k (by rw [← hL1]; exact List.mem_append_left _ hk)) (fun k (hk : k ∈ op.lo) => AdjD'.once_mem h k (by rw [← hL1]; exact List.mem_append_right _ hk)))
 have HM2 := Lib.hid (fun (h : AdjD.onceB L2 b.length = true) => And.intro (fun k (hk : k ∈ op.step) => AdjD'.once_mem h k (by rw [← hL2]; exact List.mem_append_left _ hk)) (fun k (hk : k ∈ op.hi) => AdjD'.once_mem h k (by rw [← hL2]; exact List.mem_append_right _ hk)))
 obtain ⟨x2, x5, x3, x4⟩ := HSK.out w0 HB0.out
 clear it io ii is h1 h2 lt lo li ls mt mo mi ms hL1 hL2
 by_cases q1 : op.at_.length = op.step.length
 ·have d1 : ((op.at_.length : Int) != (op.step.length : Int)) = false := by simp; omega
  have Q1 := Lib.hid q1
  clear q1
  by_cases q2 : op.lo.length = op.hi.length
  ·have d2 : ((op.lo.length : Int) != (op.hi.length : Int)) = false := by simp; omega
   have HE2 := Lib.hid (show AdjD.dotDims op a b = if AdjD.onceB L1 a.length = false ∨ AdjD.onceB L2 b.length = false then ([], 6) else if AdjD.chosen a op.at_ ≠ AdjD.chosen b op.step ∨ AdjD.chosen a op.lo ≠ AdjD.chosen b op.hi then ([], 6) else (AdjD.chosen a op.lo ++ AdjD.chosen a (AdjD.free a L1) ++ AdjD.chosen b (AdjD.free b L2), 0) by rw [HE.out, if_neg (fun h => h.elim (fun h => h Q1.out) (fun h => h q2))])
   clear q2 HE
   go_enter Try.func31, Try.ntmps31
   go_wp2_with fail
   ((with_reducible refine (HTO.out _ HB0.out).mono ?_))
   rintro e w1 ⟨v, rfl, ho, hb⟩
   have HB1 := Lib.hid (HB0.out.trans (hb.mono HB0.out.size))
   have HS1 := Lib.hid hb
   obtain ⟨A1, c1, rfl, i1, l1, m1⟩ := Ar.sl_own ho
   have HI1 := Lib.hid (And.intro i1 (And.intro l1 m1))
   clear i1 l1 m1 ho hb
   have HO1 := Lib.hid (Ar.once2_any A1 c1 a.length L1 w1.heap.size w1 HI1.out.2.1 HI1.out.2.2 (by omega) HI1.out.1)
   obtain ⟨x2, x5, x3, x4⟩ := HSK.out w1 HB1.out
   by_cases o1 : AdjD.onceB L1 a.length = true
   ·rw [o1] at HO1
    have HN1 := Lib.hid (HM1.out o1)
    have O1 := Lib.hid o1
    clear o1
    go_wp2_with fail
    ((with_reducible refine HO1.out.mono ?_); rintro e w7 ⟨rfl, rfl⟩)
    go_wp2_with fail
    ((with_reducible refine (HSI.out _ HB1.out).mono ?_))
    rintro e w2 ⟨v, rfl, ho, hb⟩
    have HB2 := Lib.hid (HB1.out.trans (hb.mono HB1.out.size))
    have HS2 := Lib.hid hb
    obtain ⟨A2, c2, rfl, i2, l2, m2⟩ := Ar.sl_own ho
    have HI2 := Lib.hid (And.intro i2 (And.intro l2 m2))
    clear i2 l2 m2 ho hb
    have HO2 := Lib.hid (Ar.once2_any A2 c2 b.length L2 w2.heap.size w2 HI2.out.2.1 HI2.out.2.2 (by omega) HI2.out.1)
    by_cases o2 : AdjD.onceB L2 b.length = true
    ·rw [o2] at HO2
     have HN2 := Lib.hid (HM2.out o2)
     have HE3 := Lib.hid (show AdjD.dotDims op a b = if AdjD.chosen a op.at_ ≠ AdjD.chosen b op.step ∨ AdjD.chosen a op.lo ≠ AdjD.chosen b op.hi then ([], 6) else (AdjD.chosen a op.lo ++ AdjD.chosen a (AdjD.free a L1) ++ AdjD.chosen b (AdjD.free b L2), 0) by rw [HE2.out, if_neg (fun h => h.elim (fun h => by rw [O1.out] at h; cases h) (fun h => by rw [o2] at h; cases h))])
     clear o2 HE2
     go_wp2_with fail
     ((with_reducible refine HO2.out.mono ?_); rintro e w7 ⟨rfl, rfl⟩)
     obtain ⟨CA, hCA⟩ : ∃ L, AdjD.chosen a op.at_ = L := ⟨_, rfl⟩
     obtain ⟨CB, hCB⟩ : ∃ L, AdjD.chosen b op.step = L := ⟨_, rfl⟩
     obtain ⟨CL, hCL⟩ : ∃ L, AdjD.chosen a op.lo = L := ⟨_, rfl⟩
     obtain ⟨CH, hCH⟩ : ∃ L, AdjD.chosen b op.hi = L := ⟨_, rfl⟩
     obtain ⟨FA, hFA⟩ : ∃ L, AdjD.free a L1 = L := ⟨_, rfl⟩
     obtain ⟨FB, hFB⟩ : ∃ L, AdjD.free b L2 = L := ⟨_, rfl⟩
     obtain ⟨LF, hLF⟩ : ∃ L, AdjD.chosen a FA = L := ⟨_, rfl⟩
     obtain ⟨RF, hRF⟩ : ∃ L, AdjD.chosen b FB = L := ⟨_, rfl⟩
     rw [hCA, hCB, hCL, hCH, hFA, hFB, hLF, hRF] at HE3
     have f1 : CA.length ≤ 4194304 := by rw [← hCA, AdjD.chosen_length]; omega
     have f2 : CB.length ≤ 4194304 := by rw [← hCB, AdjD.chosen_length]; omega
     have f3 : CL.length ≤ 4194304 := by rw [← hCL, AdjD.chosen_length]; omega
     have f4 : CH.length ≤ 4194304 := by rw [← hCH, AdjD.chosen_length]; omega
     have f5 : FA.length ≤ 6 := by have := AdjD'.free_len a L1; rw [← hFA]; omega
     have f6 : FB.length ≤ 6 := by have := AdjD'.free_len b L2; rw [← hFB]; omega
     have f7 : LF.length ≤ 6 := by rw [← hLF, AdjD.chosen_length]; omega
     have f8 : RF.length ≤ 6 := by rw [← hRF, AdjD.chosen_length]; omega
     have HCA := Lib.hid (fun W (hb : Below w0.heap.size w0 W) => by
      have h := Ar.chosen2_any A T ca ct op.at_ a B W (HSZ.out W hb) (by omega) (by omega) HN1.out.1 (HT.out W hb) (HA.out W hb)
      rwa [hCA] at h)
     have HCB := Lib.hid (fun W (hb : Below w0.heap.size w0 W) => by
      have h := Ar.chosen2_any A' S cb cs op.step b B W (HSZ.out W hb) (by omega) (by omega) HN2.out.1 (HS.out W hb) (HA'.out W hb)
      rwa [hCB] at h)
     have HCL := Lib.hid (fun W (hb : Below w0.heap.size w0 W) => by
      have h := Ar.chosen2_any A O ca co op.lo a B W (HSZ.out W hb) (by omega) (by omega) HN1.out.2 (HO.out W hb) (HA.out W hb)
      rwa [hCL] at h)
     have HCH := Lib.hid (fun W (hb : Below w0.heap.size w0 W) => by
      have h := Ar.chosen2_any A' I cb ci op.hi b B W (HSZ.out W hb) (by omega) (by omega) HN2.out.2 (HI.out W hb) (HA'.out W hb)
      rwa [hCH] at h)
     have HFA := Lib.hid (fun A1 c1 W (hi : Vw.IntsAt W W.heap.size A1 L1) => by
      have h := Ar.free2_any A A1 ca c1 L1 a W.heap.size W (Nat.le_refl _) (by omega) (by omega) hi
      rwa [hFA] at h)
     have HFB := Lib.hid (fun A1 c1 W (hi : Vw.IntsAt W W.heap.size A1 L2) => by
      have h := Ar.free2_any A' A1 cb c1 L2 b W.heap.size W (Nat.le_refl _) (by omega) (by omega) hi
      rwa [hFB] at h)
     have HLF := Lib.hid (fun A1 c1 W (hb : Below w0.heap.size w0 W) (hi : Vw.IntsAt W W.heap.size A1 FA) => by
      have h := Ar.chosen2_any A A1 ca c1 FA a W.heap.size W (Nat.le_refl _) (by omega) (by omega) (by rw [← hFA]; exact AdjD'.free_mem) hi ((HA.out W hb).up (HSZ.out W hb))
      rwa [hLF] at h)
     have HRF := Lib.hid (fun A1 c1 W (hb : Below w0.heap.size w0 W) (hi : Vw.IntsAt W W.heap.size A1 FB) => by
      have h := Ar.chosen2_any A' A1 cb c1 FB b W.heap.size W (Nat.le_refl _) (by omega) (by omega) (by rw [← hFB]; exact AdjD'.free_mem) hi ((HA'.out W hb).up (HSZ.out W hb))
      rwa [hRF] at h)
     have HBq := Lib.hid (show Below w0.heap.size w0 w2.drew from HB2.out.drew)
     clear hCA hCB hCL hCH hFA hFB hLF hRF x2 x3 x4 x5
     go_wp2_with fail
     refine wp_region_T (fun w' => w'.cell? ⟨w.heap.size, 2, none⟩ = some (.slice T op.at_.length ct) ∧ w'.cell? ⟨w.heap.size, 5, none⟩ = some (.slice S op.step.length cs) ∧ w'.cell? ⟨w.heap.size, 3, none⟩ = some (.slice O op.lo.length co) ∧ w'.cell? ⟨w.heap.size, 4, none⟩ = some (.slice I op.hi.length ci)) 19 (fun _ => True) 19 22 rfl (by kernel_rfl) ⟨HSK.out _ HBq.out, trivial⟩ (fun hHeld => ?_)
     simp only [List.replicate_succ, List.replicate_zero]
     refine tp (v := ?_) 0 46 ⟨fun _ => hHeld.1, fun _ => hHeld.2⟩ ?_ ?_; rotate_left; (intro w; go_simp; try with_reducible rfl); try simp only [Act.put, zA, zB, zC]
     refine tp (v := ?_) 4 50 ⟨fun _ => hHeld.1, fun _ => hHeld.2⟩ ?_ ?_; rotate_left; (intro w; go_simp; try with_reducible rfl); try simp only [Act.put, zA, zB, zC]
     refine tk (v := ?_) [2, 3, 7, 8, 9, 10, 14, 18] 1 47 hHeld ?_ ?_; rotate_left; (intro w h; (try dsimp only at h); go_simp; try with_reducible rfl); try simp only [Act.put, zA, zB, zC]
     refine tk (v := ?_) [3, 7, 8, 9, 10, 14, 18] 2 48 hHeld ?_ ?_; rotate_left; (intro w h; (try dsimp only at h); go_simp; try with_reducible rfl); try simp only [Act.put, zA, zB, zC]
     refine tk (v := ?_) [6, 7, 8, 9, 10, 14, 18] 5 51 hHeld ?_ ?_; rotate_left; (intro w h; (try dsimp only at h); go_simp; try with_reducible rfl); try simp only [Act.put, zA, zB, zC]
     refine tk (v := ?_) [7, 8, 9, 10, 14, 18] 6 52 hHeld ?_ ?_; rotate_left; (intro w h; (try dsimp only at h); go_simp; try with_reducible rfl); try simp only [Act.put, zA, zB, zC]
     have HB3 := HBq
     generalize w2.drew = w3 at HB3 hHeld ⊢
     clear HBq
     refine wpT_one 3 (by kernel_rfl) (stepT_early rfl rfl (fun K hK => ?_))
     go_simp
     ((with_reducible refine (HCA.out _ HB3.out).mono ?_))
     rintro e w4 ⟨v, rfl, ho, hb⟩
     have HB4 := Lib.hid (HB3.out.trans (hb.mono HB3.out.size))
     have HS4 := Lib.hid hb
     obtain ⟨A4, c4, rfl, i4, l4, m4⟩ := Ar.sl_own ho
     have HI4 := Lib.hid (And.intro i4 (And.intro l4 m4))
     clear i4 l4 m4 ho hb
     try go_simp
     refine hK.out _ _ ⟨HSK.out _ HB4.out, trivial⟩ (fun hHeld2 => ?_)
     clear hK K hHeld
     have hHeld := hHeld2
     clear hHeld2
     try simp only [zA, zB, zC]
     refine wpT_one 7 (by kernel_rfl) (stepT_early rfl rfl (fun K hK => ?_))
     go_simp
     ((with_reducible refine (HCB.out _ HB4.out).mono ?_))
     rintro e w5 ⟨v, rfl, ho, hb⟩
     have HB5 := Lib.hid (HB4.out.trans (hb.mono HB4.out.size))
     have HS5 := Lib.hid hb
     obtain ⟨A5, c5, rfl, i5, l5, m5⟩ := Ar.sl_own ho
     have HI5 := Lib.hid (And.intro i5 (And.intro l5 m5))
     clear i5 l5 m5 ho hb
     try go_simp
     refine hK.out _ _ ⟨HSK.out _ HB5.out, trivial⟩ (fun hHeld2 => ?_)
     clear hK K hHeld
     have hHeld := hHeld2
     clear hHeld2
     try simp only [zA, zB, zC]
     have HSM := Lib.hid (Ar.same2_any A4 A5 c4 c5 CA CB w4.heap.size w5.heap.size w5 (by omega) (by omega) (HI4.out.1.below HS5.out) HI5.out.1)
     by_cases e1 : CA = CB
     ·rw [decide_eq_true e1] at HSM
      have E1 := Lib.hid e1
      clear e1
      refine wpT_one 8 (by kernel_rfl) (stepT_early rfl rfl (fun K hK => ?_))
      go_simp
      ((with_reducible refine HSM.out.mono ?_); rintro e w6 ⟨rfl, dd, rfl⟩)
      have HB6 := Lib.hid (show Below w0.heap.size w0 (w5.drewN dd) from below_drewN HB5.out dd)
      generalize w5.drewN dd = w6 at HB6 ⊢
      try go_simp
      refine hK.out _ _ ⟨HSK.out _ HB6.out, trivial⟩ (fun hHeld2 => ?_)
      clear hK K hHeld
      have hHeld := hHeld2
      clear hHeld2
      try simp only [zA, zB, zC]
      refine tp (v := ?_) 9 55 ⟨fun _ => hHeld.1, fun _ => hHeld.2⟩ ?_ ?_; rotate_left; (intro w; go_simp; try with_reducible rfl); try simp only [Act.put, zA, zB, zC]
      refine tp (v := ?_) 10 56 ⟨fun _ => hHeld.1, fun _ => hHeld.2⟩ ?_ ?_; rotate_left; (intro w; go_simp; try with_reducible rfl); try simp only [Act.put, zA, zB, zC]
      refine tk (v := ?_) [14, 18] 11 57 hHeld ?_ ?_; rotate_left; (intro w h; (try dsimp only at h); go_simp; try with_reducible rfl); try simp only [Act.put, zA, zB, zC]
      refine tk (v := ?_) [13, 14, 18] 12 58 hHeld ?_ ?_; rotate_left; (intro w h; (try dsimp only at h); go_simp; try with_reducible rfl); try simp only [Act.put, zA, zB, zC]
      refine tk (v := ?_) [14, 18] 13 59 hHeld ?_ ?_; rotate_left; (intro w h; (try dsimp only at h); go_simp; try with_reducible rfl); try simp only [Act.put, zA, zB, zC]
      refine tk (v := ?_) [18] 15 61 hHeld ?_ ?_; rotate_left; (intro w h; (try dsimp only at h); go_simp; try with_reducible rfl); try simp only [Act.put, zA, zB, zC]
      refine tk (v := ?_) [17, 18] 16 62 hHeld ?_ ?_; rotate_left; (intro w h; (try dsimp only at h); go_simp; try with_reducible rfl); try simp only [Act.put, zA, zB, zC]
      refine tk (v := ?_) [18] 17 63 hHeld ?_ ?_; rotate_left; (intro w h; (try dsimp only at h); go_simp; try with_reducible rfl); try simp only [Act.put, zA, zB, zC]
      refine wpT_one 14 (by kernel_rfl) (stepT_wanted rfl rfl (fun K hK => ?_))
      go_simp
      ((with_reducible refine (HCL.out _ HB6.out).mono ?_))
      rintro e w7 ⟨v, rfl, ho, hb⟩
      have HB7 := Lib.hid (HB6.out.trans (hb.mono HB6.out.size))
      have HS7 := Lib.hid hb
      obtain ⟨A7, c7, rfl, i7, l7, m7⟩ := Ar.sl_own ho
      have HI7 := Lib.hid (And.intro i7 (And.intro l7 m7))
      clear i7 l7 m7 ho hb
      try go_simp
      refine hK.out _ _ ⟨HSK.out _ HB7.out, trivial⟩ (fun hHeld2 => ?_)
      clear hK K hHeld
      have hHeld := hHeld2
      clear hHeld2
      try simp only [zA, zB, zC]
      refine wpT_one 18 (by kernel_rfl) (stepT_wanted rfl rfl (fun K hK => ?_))
      go_simp
      ((with_reducible refine (HCH.out _ HB7.out).mono ?_))
      rintro e w8 ⟨v, rfl, ho, hb⟩
      have HB8 := Lib.hid (HB7.out.trans (hb.mono HB7.out.size))
      have HS8 := Lib.hid hb
      obtain ⟨A8, c8, rfl, i8, l8, m8⟩ := Ar.sl_own ho
      have HI8 := Lib.hid (And.intro i8 (And.intro l8 m8))
      clear i8 l8 m8 ho hb
      try go_simp
      refine hK.out _ _ ⟨HSK.out _ HB8.out, trivial⟩ (fun hHeld2 => ?_)
      clear hK K hHeld
      have hHeld := hHeld2
      clear hHeld2
      try simp only [zA, zB, zC]
      have HSM2 := Lib.hid (Ar.same2_any A7 A8 c7 c8 CL CH w7.heap.size w8.heap.size w8 (by omega) (by omega) (HI7.out.1.below HS8.out) HI8.out.1)
      clear hHeld
      refine wpT_tail [_, _, _] 19 [20, 21] rfl (by kernel_rfl) ?_
      by_cases e2 : CL = CH
      ·rw [decide_eq_true e2] at HSM2
       have HE4 := Lib.hid (show AdjD.dotDims op a b = (CL ++ LF ++ RF, 0) by rw [HE3.out, if_neg (fun h => h.elim (fun h => h E1.out) (fun h => h e2))])
       clear e2 HE3
       go_wp2_with fail
       ((with_reducible refine HSM2.out.mono ?_); rintro e w9 ⟨rfl, dd, rfl⟩)
       have HB9 := Lib.hid (show Below w0.heap.size w0 (w8.drewN dd) from below_drewN HB8.out dd)
       generalize w8.drewN dd = w9 at HB9 ⊢
       obtain ⟨x2, x5, x3, x4⟩ := HSK.out w9 HB9.out
       go_wp2_with fail
       ((with_reducible refine (HTO.out _ HB9.out).mono ?_))
       rintro e w10 ⟨v, rfl, ho, hb⟩
       have HB10 := Lib.hid (HB9.out.trans (hb.mono HB9.out.size))
       have HS10 := Lib.hid hb
       obtain ⟨A10, c10, rfl, i10, l10, m10⟩ := Ar.sl_own ho
       have HI10 := Lib.hid (And.intro i10 (And.intro l10 m10))
       clear i10 l10 m10 ho hb
       have HQ10 := Lib.hid (HFA.out A10 c10 w10 HI10.out.1)
       go_wp2_with fail
       ((with_reducible refine (HQ10.out).mono ?_))
       rintro e w11 ⟨v, rfl, ho, hb⟩
       have HB11 := Lib.hid (HB10.out.trans (hb.mono HB10.out.size))
       have HS11 := Lib.hid hb
       obtain ⟨A11, c11, rfl, i11, l11, m11⟩ := Ar.sl_own ho
       have HI11 := Lib.hid (And.intro i11 (And.intro l11 m11))
       clear i11 l11 m11 ho hb
       have HQ11 := Lib.hid (HLF.out A11 c11 w11 HB11.out HI11.out.1)
       go_wp2_with fail
       ((with_reducible refine (HQ11.out).mono ?_))
       rintro e w12 ⟨v, rfl, ho, hb⟩
       have HB12 := Lib.hid (HB11.out.trans (hb.mono HB11.out.size))
       have HS12 := Lib.hid hb
       obtain ⟨A12, c12, rfl, i12, l12, m12⟩ := Ar.sl_own ho
       have HI12 := Lib.hid (And.intro i12 (And.intro l12 m12))
       clear i12 l12 m12 ho hb
       obtain ⟨x2, x5, x3, x4⟩ := HSK.out w12 HB12.out
       go_wp2_with fail
       ((with_reducible refine (HSI.out _ HB12.out).mono ?_))
       rintro e w13 ⟨v, rfl, ho, hb⟩
       have HB13 := Lib.hid (HB12.out.trans (hb.mono HB12.out.size))
       have HS13 := Lib.hid hb
       obtain ⟨A13, c13, rfl, i13, l13, m13⟩ := Ar.sl_own ho
       have HI13 := Lib.hid (And.intro i13 (And.intro l13 m13))
       clear i13 l13 m13 ho hb
       have HQ13 := Lib.hid (HFB.out A13 c13 w13 HI13.out.1)
       go_wp2_with fail
       ((with_reducible refine (HQ13.out).mono ?_))
       rintro e w14 ⟨v, rfl, ho, hb⟩
       have HB14 := Lib.hid (HB13.out.trans (hb.mono HB13.out.size))
       have HS14 := Lib.hid hb
       obtain ⟨A14, c14, rfl, i14, l14, m14⟩ := Ar.sl_own ho
       have HI14 := Lib.hid (And.intro i14 (And.intro l14 m14))
       clear i14 l14 m14 ho hb
       have HQ14 := Lib.hid (HRF.out A14 c14 w14 HB14.out HI14.out.1)
       go_wp2_with fail
       ((with_reducible refine (HQ14.out).mono ?_))
       rintro e w15 ⟨v, rfl, ho, hb⟩
       have HB15 := Lib.hid (HB14.out.trans (hb.mono HB14.out.size))
       have HS15 := Lib.hid hb
       obtain ⟨A15, c15, rfl, i15, l15, m15⟩ := Ar.sl_own ho
       have HI15 := Lib.hid (And.intro i15 (And.intro l15 m15))
       clear i15 l15 m15 ho hb
       obtain ⟨x2, x5, x3, x4⟩ := HSK.out w15 HB15.out
       go_wp2_with fail
       ((with_reducible refine (HCL.out _ HB15.out).mono ?_))
       rintro e w16 ⟨v, rfl, ho, hb⟩
       have HB16 := Lib.hid (HB15.out.trans (hb.mono HB15.out.size))
       have HS16 := Lib.hid hb
       obtain ⟨A16, c16, rfl, i16, l16, m16⟩ := Ar.sl_own ho
       have HI16 := Lib.hid (And.intro i16 (And.intro l16 m16))
       clear i16 l16 m16 ho hb
       have HZ12 := Lib.hid (fun W (hb : Below w12.heap.size w12 W) => (HI12.out.1.below hb).up hb.size)
       have HZ15 := Lib.hid (fun W (hb : Below w15.heap.size w15 W) => (HI15.out.1.below hb).up hb.size)
       have HBc := Lib.hid (HS13.out.trans ((HS14.out.trans ((HS15.out.trans (HS16.out.mono HS15.out.size)).mono HS14.out.size)).mono HS13.out.size))
       have HQ16 := Lib.hid (Ar.both2_any A16 A12 c16 c12 CL LF w16.heap.size w16 (Nat.le_refl _) (by omega) (by omega) HI16.out.1 (HZ12.out w16 HBc.out))
       obtain ⟨M, hM⟩ : ∃ M, CL ++ LF = M := ⟨_, rfl⟩
       have hMl : M.length ≤ 8388608 := by rw [← hM, List.length_append]; omega
       rw [hM] at HQ16 HE4
       clear hM
       go_wp2_with fail
       ((with_reducible refine (HQ16.out).mono ?_))
       rintro e w17 ⟨v, rfl, ho, hb⟩
       have HB17 := Lib.hid (HB16.out.trans (hb.mono HB16.out.size))
       have HS17 := Lib.hid hb
       obtain ⟨A17, c17, rfl, i17, l17, m17⟩ := Ar.sl_own ho
       have HI17 := Lib.hid (And.intro i17 (And.intro l17 m17))
       clear i17 l17 m17 ho hb
       have HQ17 := Lib.hid (Ar.both2_any A17 A15 c17 c15 M RF w17.heap.size w17 (Nat.le_refl _) (by omega) (by omega) HI17.out.1 (HZ15.out w17 (HS16.out.trans (HS17.out.mono HS16.out.size))))
       obtain ⟨R, hR⟩ : ∃ R, M ++ RF = R := ⟨_, rfl⟩
       rw [hR] at HQ17 HE4
       clear hR
       go_wp2_with fail
       ((with_reducible refine (HQ17.out).mono ?_))
       rintro e w18 ⟨v, rfl, ho, hb⟩
       have HB18 := Lib.hid (HB17.out.trans (hb.mono HB17.out.size))
       have HS18 := Lib.hid hb
       obtain ⟨A18, c18, rfl, i18, l18, m18⟩ := Ar.sl_own ho
       have HI18 := Lib.hid (And.intro i18 (And.intro l18 m18))
       clear i18 l18 m18 ho hb
       go_wp2_with fail
       go_ret2
       rw [HE4.out]
       exact ⟨_, rfl, ⟨A18, c18, rfl, HI18.out⟩, HBW.out _ HB18.out⟩
      ·rw [decide_eq_false e2] at HSM2
       have HV := Lib.hid (show AdjD.dotDims op a b = ([], 6) by rw [HE3.out, if_pos (.inr e2)])
       clear e2 HE3
       go_wp2_with fail
       ((with_reducible refine HSM2.out.mono ?_); rintro e w9 ⟨rfl, dd, rfl⟩)
       have HB9 := Lib.hid (show Below w0.heap.size w0 (w8.drewN dd) from below_drewN HB8.out dd)
       generalize w8.drewN dd = w9 at HB9 ⊢
       go_wp2_with fail
       go_ret2
       rw [HV.out]
       exact ⟨_, rfl, Ar.SlAt.nil _ _, HBW.out _ HB9.out⟩
     ·rw [decide_eq_false e1] at HSM
      have HV := Lib.hid (show AdjD.dotDims op a b = ([], 6) by rw [HE3.out, if_pos (.inl e1)])
      clear e1
      refine wpT_one 8 (by kernel_rfl) (stepT_early rfl rfl (fun K hK => ?_))
      go_simp
      ((with_reducible refine HSM.out.mono ?_); rintro e w6 ⟨rfl, dd, rfl⟩)
      have HB6 := Lib.hid (show Below w0.heap.size w0 (w5.drewN dd) from below_drewN HB5.out dd)
      generalize w5.drewN dd = w6 at HB6 ⊢
      try go_simp
      refine hK.out _ _ ⟨HSK.out _ HB6.out, trivial⟩ (fun hHeld2 => ?_)
      clear hK K hHeld
      have hHeld := hHeld2
      clear hHeld2
      try simp only [zA, zB, zC]
      refine tp (v := ?_) 9 55 ⟨fun _ => hHeld.1, fun _ => hHeld.2⟩ ?_ ?_; rotate_left; (intro w; go_simp; try with_reducible rfl); try simp only [Act.put, zA, zB, zC]
      refine tp (v := ?_) 10 56 ⟨fun _ => hHeld.1, fun _ => hHeld.2⟩ ?_ ?_; rotate_left; (intro w; go_simp; try with_reducible rfl); try simp only [Act.put, zA, zB, zC]
      refine tn [14, 18] 11 57 hHeld ?_; try simp only [Act.put, zA, zB, zC]
      refine tn [13, 14, 18] 12 58 hHeld ?_; try simp only [Act.put, zA, zB, zC]
      refine tn [14, 18] 13 59 hHeld ?_; try simp only [Act.put, zA, zB, zC]
      refine tn [18] 14 60 hHeld ?_; try simp only [Act.put, zA, zB, zC]
      refine tn [18] 15 61 hHeld ?_; try simp only [Act.put, zA, zB, zC]
      refine tn [17, 18] 16 62 hHeld ?_; try simp only [Act.put, zA, zB, zC]
      refine tn [18] 17 63 hHeld ?_; try simp only [Act.put, zA, zB, zC]
      refine tn [] 18 64 hHeld ?_; try simp only [Act.put, zA, zB, zC]
      clear hHeld
      refine wpT_tail [_, _, _] 19 [20, 21] rfl (by kernel_rfl) ?_
      go_wp2_with fail
      go_ret2
      rw [HV.out]
      exact ⟨_, rfl, Ar.SlAt.nil _ _, HBW.out _ HB6.out⟩
    ·have o2' : AdjD.onceB L2 b.length = false := by simpa using o2
     rw [o2'] at HO2
     have HV := Lib.hid (show AdjD.dotDims op a b = ([], 6) by rw [HE2.out, if_pos (.inr o2')])
     clear o2 o2'
     go_wp2_with fail
     ((with_reducible refine HO2.out.mono ?_); rintro e w7 ⟨rfl, rfl⟩)
     go_wp2_with fail
     go_ret2
     rw [HV.out]
     exact ⟨_, rfl, Ar.SlAt.nil _ _, HBW.out _ HB2.out⟩
   ·have o1' : AdjD.onceB L1 a.length = false := by simpa using o1
    rw [o1'] at HO1
    have HV := Lib.hid (show AdjD.dotDims op a b = ([], 6) by rw [HE2.out, if_pos (.inl o1')])
    clear o1 o1'
    go_wp2_with fail
    ((with_reducible refine HO1.out.mono ?_); rintro e w7 ⟨rfl, rfl⟩)
    go_wp2_with fail
    go_ret2
    rw [HV.out]
    exact ⟨_, rfl, Ar.SlAt.nil _ _, HBW.out _ HB1.out⟩
  ·have d2 : ((op.lo.length : Int) != (op.hi.length : Int)) = true := by simp; omega
   have HV := Lib.hid (show AdjD.dotDims op a b = ([], 6) by rw [HE.out, if_pos (.inr q2)])
   clear q2
   go_enter Try.func31, Try.ntmps31
   go_wp2_with fail
   go_ret2
   rw [HV.out]
   exact ⟨_, rfl, Ar.SlAt.nil _ _, HBW.out _ HB0.out⟩
 ·have d1 : ((op.at_.length : Int) != (op.step.length : Int)) = true := by simp; omega
  have HV := Lib.hid (show AdjD.dotDims op a b = ([], 6) by rw [HE.out, if_pos (.inl q1)])
  clear q1
  go_enter Try.func31, Try.ntmps31
  go_wp2_with fail
  go_ret2
  rw [HV.out]
  exact ⟨_, rfl, Ar.SlAt.nil _ _, HBW.out _ HB0.out⟩
end Go.Proofs.Ytapedmpbkffopaa
end
section
namespace Go.Proofs.Ytapedmpbkffopaa
set_option linter.unusedVariables false
open Go.RowKit Adj
namespace Ar
def RefOut (w w' : World) (r : List Int × Int) (e : Ending) : Prop := ∃ v, e = .returned (.tuple #[v, .int .i64 r.2]) ∧ SlAt w' w'.heap.size v r.1 ∧ Below w.heap.size w w'
end Ar
set_option maxRecDepth 100000 in
set_option maxHeartbeats 8000000 in
theorem Ar.ruled_fill (val : Value) (op : AdjD.Op) (A : Option Addr) (cap : Nat) (args : List (List Int)) (B : Nat) (w : World) (hB : B ≤ w.heap.size) (hsh : Ar.Short op) (hz : ∀ d ∈ args, (AdjV.size d).2 = 0) (hop : Ar.OpAt w B val op) (hargs : Ar.ListsAt w B A args) (hk : op.kind = 2) :
    Calls Try.prog 24 #[val, .slice A args.length cap] w fun e w' => Ar.RefOut w w' (AdjD.ruled op args) e := by
 have HRU := Lib.hid (show AdjD.ruled op args = (op.dims, 0) by unfold AdjD.ruled; rw [if_pos hk])
 have HOP := Lib.hid (fun W (hb : Below w.heap.size w W) => (hop.below (hb.mono hB)).up (Nat.le_trans hB hb.size))
 have HAR := Lib.hid (fun W (hb : Below w.heap.size w W) => (hargs.below (hb.mono hB)).up (Nat.le_trans hB hb.size))
 obtain ⟨v1, v2, v3, v4, v5, rfl, ⟨D, cD, rfl, iD, lD, mD⟩, ⟨T, ct, rfl, it, lt, mt⟩, ⟨O, co, rfl, io, lo, mo⟩, ⟨I, ci, rfl, ii, li, mi⟩, ⟨S, cs, rfl, is, ls, ms⟩⟩ := hop
 have HL := Lib.hid (fun W (hb : Below w.heap.size w W) => And.intro ((iD.below (hb.mono hB)).up (Nat.le_trans hB hb.size)) ((it.below (hb.mono hB)).up (Nat.le_trans hB hb.size)))
 have HX := Lib.hid (Blk.new w 37 #[.int .i64 op.kind, .slice D op.dims.length cD, .slice T op.at_.length ct, .slice O op.lo.length co, .slice I op.hi.length ci, .slice S op.step.length cs, .int .i64 op.value])
 have HB := Lib.hid ((Below.refl w.heap.size w).alloc (Nat.le_refl _) (.cells #[.int .i64 op.kind, .slice D op.dims.length cD, .slice T op.at_.length ct, .slice O op.lo.length co, .slice I op.hi.length ci, .slice S op.step.length cs, .int .i64 op.value] 37))
 obtain ⟨w0, hw0⟩ : ∃ w0, w.alloc (.cells #[.int .i64 op.kind, .slice D op.dims.length cD, .slice T op.at_.length ct, .slice O op.lo.length co, .slice I op.hi.length ci, .slice S op.step.length cs, .int .i64 op.value] 37) = w0 := ⟨_, rfl⟩
 rw [hw0] at HX HB
 have hws : w.heap.size < w0.heap.size := HX.out.lt
 have HM := Lib.hid (show (op.dims.length ≤ cD ∧ op.at_.length ≤ ct ∧ op.lo.length ≤ co ∧ op.hi.length ≤ ci ∧ op.step.length ≤ cs) ∧ cD ≤ 9223372036854775807 ∧ ct ≤ 9223372036854775807 from ⟨⟨lD, lt, lo, li, ls⟩, mD, mt⟩)
 have HZ := Lib.hid hz
 clear iD it io ii is lD lt lo li ls mD mt mo mi ms hargs hz
 skip
 have HKK := Lib.hid hk
 rw [hk] at HX HOP hw0 ⊢
 have x0 : w0.cell? ⟨w.heap.size, 0, none⟩ = some (.int .i64 2) := HX.out.cell 0
 have x1 : w0.cell? ⟨w.heap.size, 1, none⟩ = some (.slice D op.dims.length cD) := HX.out.cell 1
 have x2 : w0.cell? ⟨w.heap.size, 2, none⟩ = some (.slice T op.at_.length ct) := HX.out.cell 2
 have x3 : w0.cell? ⟨w.heap.size, 3, none⟩ = some (.slice O op.lo.length co) := HX.out.cell 3
 have x4 : w0.cell? ⟨w.heap.size, 4, none⟩ = some (.slice I op.hi.length ci) := HX.out.cell 4
 have x5 : w0.cell? ⟨w.heap.size, 5, none⟩ = some (.slice S op.step.length cs) := HX.out.cell 5
 have x6 : w0.cell? ⟨w.heap.size, 6, none⟩ = some (.int .i64 op.value) := HX.out.cell 6
 clear hk
 go_enter Try.func24, Try.ntmps24
 go_wp2_with fail
 go_ret2
 rw [HRU.out]
 exact ⟨_, rfl, ⟨D, cD, rfl, ((HL.out w0 HB.out).1), HM.out.1.1, HM.out.2.1⟩, HB.out⟩
set_option maxRecDepth 100000 in
set_option maxHeartbeats 8000000 in
theorem Ar.ruled_same (val : Value) (op : AdjD.Op) (A : Option Addr) (cap : Nat) (args : List (List Int)) (B : Nat) (w : World) (hB : B ≤ w.heap.size) (hsh : Ar.Short op) (hn2 : 2 ≤ args.length) (hcap : args.length ≤ cap) (hcap2 : cap ≤ 9223372036854775807) (hz : ∀ d ∈ args, (AdjV.size d).2 = 0) (hop : Ar.OpAt w B val op) (hargs : Ar.ListsAt w B A args) (K : Int) (hKK : K = 3 ∨ K = 4 ∨ K = 5 ∨ K = 6 ∨ K = 7 ∨ K = 8) (hk : op.kind = K) :
    Calls Try.prog 24 #[val, .slice A args.length cap] w fun e w' => Ar.RefOut w w' (AdjD.ruled op args) e := by
 rcases hKK with rfl | rfl | rfl | rfl | rfl | rfl
 all_goals
  obtain ⟨n, hnn⟩ : ∃ n, args.length = n := ⟨_, rfl⟩
  have hargs2 := hargs
  obtain ⟨b, off, rfl, hbB, hc⟩ := hargs2 (by omega)
  obtain ⟨v0, cv0, A0, c0, rfl, i0, l0, m0⟩ := hc 0 (by omega)
  rw [Nat.add_zero] at cv0
  have HC := Lib.hid hc
  have HI0 := Lib.hid i0
  have HN := Lib.hid hnn
  have hbw : b < w.heap.size := by omega
  have hg0 : args.getD 0 [] = args[0]'(by omega) := by simp [List.getD_eq_getElem?_getD, show 0 < args.length by omega]
  obtain ⟨a0, ha0⟩ : ∃ a0, args[0]'(by omega) = a0 := ⟨_, rfl⟩
  have hz6 := (AdjV.size_fine (hz (args[0]'(by omega)) (List.getElem_mem _))).1
  rw [ha0] at hg0 HI0 l0 cv0 hz6
  have HRU := Lib.hid (show AdjD.ruled op args = if args.all (fun d => decide (d = a0)) then (a0, 0) else ([], 6) by
   unfold AdjD.ruled; rw [hg0]; simp [hk])
  clear hc i0 hg0 ha0
  have HOP := Lib.hid (fun W (hb : Below w.heap.size w W) => (hop.below (hb.mono hB)).up (Nat.le_trans hB hb.size))
  have HAR := Lib.hid (fun W (hb : Below w.heap.size w W) => (hargs.below (hb.mono hB)).up (Nat.le_trans hB hb.size))
  obtain ⟨v1, v2, v3, v4, v5, rfl, ⟨D, cD, rfl, iD, lD, mD⟩, ⟨T, ct, rfl, it, lt, mt⟩, ⟨O, co, rfl, io, lo, mo⟩, ⟨I, ci, rfl, ii, li, mi⟩, ⟨S, cs, rfl, is, ls, ms⟩⟩ := hop
  have HL := Lib.hid (fun W (hb : Below w.heap.size w W) => And.intro ((iD.below (hb.mono hB)).up (Nat.le_trans hB hb.size)) ((it.below (hb.mono hB)).up (Nat.le_trans hB hb.size)))
  have HX := Lib.hid (Blk.new w 37 #[.int .i64 op.kind, .slice D op.dims.length cD, .slice T op.at_.length ct, .slice O op.lo.length co, .slice I op.hi.length ci, .slice S op.step.length cs, .int .i64 op.value])
  have HB := Lib.hid ((Below.refl w.heap.size w).alloc (Nat.le_refl _) (.cells #[.int .i64 op.kind, .slice D op.dims.length cD, .slice T op.at_.length ct, .slice O op.lo.length co, .slice I op.hi.length ci, .slice S op.step.length cs, .int .i64 op.value] 37))
  obtain ⟨w0, hw0⟩ : ∃ w0, w.alloc (.cells #[.int .i64 op.kind, .slice D op.dims.length cD, .slice T op.at_.length ct, .slice O op.lo.length co, .slice I op.hi.length ci, .slice S op.step.length cs, .int .i64 op.value] 37) = w0 := ⟨_, rfl⟩
  rw [hw0] at HX HB
  have hws : w.heap.size < w0.heap.size := HX.out.lt
  have HM := Lib.hid (show (op.dims.length ≤ cD ∧ op.at_.length ≤ ct ∧ op.lo.length ≤ co ∧ op.hi.length ≤ ci ∧ op.step.length ≤ cs) ∧ cD ≤ 9223372036854775807 ∧ ct ≤ 9223372036854775807 from ⟨⟨lD, lt, lo, li, ls⟩, mD, mt⟩)
  have HZ := Lib.hid hz
  clear iD it io ii is lD lt lo li ls mD mt mo mi ms hargs hz
  rw [hnn] at hn2 hcap ⊢
  have HKK := Lib.hid hk
  rw [hk] at HX HOP hw0 ⊢
  have x0 : w0.cell? ⟨w.heap.size, 0, none⟩ = some (.int .i64 _) := HX.out.cell 0
  have x1 : w0.cell? ⟨w.heap.size, 1, none⟩ = some (.slice D op.dims.length cD) := HX.out.cell 1
  have x2 : w0.cell? ⟨w.heap.size, 2, none⟩ = some (.slice T op.at_.length ct) := HX.out.cell 2
  have x3 : w0.cell? ⟨w.heap.size, 3, none⟩ = some (.slice O op.lo.length co) := HX.out.cell 3
  have x4 : w0.cell? ⟨w.heap.size, 4, none⟩ = some (.slice I op.hi.length ci) := HX.out.cell 4
  have x5 : w0.cell? ⟨w.heap.size, 5, none⟩ = some (.slice S op.step.length cs) := HX.out.cell 5
  have x6 : w0.cell? ⟨w.heap.size, 6, none⟩ = some (.int .i64 op.value) := HX.out.cell 6
  clear hk
  clear hnn
  have HAT := Lib.hid (show ∀ j (hj : j < args.length), args[j] ≠ a0 → AdjD.ruled op args = ([], 6) from fun j hj hne => by
   rw [HRU.out, if_neg (fun h => hne (by have := List.all_eq_true.1 h _ (List.getElem_mem hj); simpa using this))])
  have HAL := Lib.hid (show (∀ j (hj : j < args.length), args[j] = a0) → AdjD.ruled op args = (a0, 0) from fun h => by
   rw [HRU.out, if_pos (List.all_eq_true.2 (fun x hx => by obtain ⟨j, hj, rfl⟩ := List.getElem_of_mem hx; simp [h j hj]))])
  have ca0 := (HB.out.cell (p := ⟨b, off, none⟩) (by show b < w.heap.size; omega)).trans cv0
  clear cv0 HRU
  obtain ⟨wo, hwo⟩ : ∃ wo : World, wo = w0 := ⟨_, rfl⟩
  subst hwo
  have i00 : (0 : Int) < (n : Int) := by omega
  go_enter Try.func24, Try.ntmps24
  go_wp2_with fail
  go_loopw [7, 27] (fun _ kv wr => ∃ (k d : Nat), kv = .int .i64 (k : Int) ∧ k ≤ n ∧ (∀ j (hj : j < args.length), j < k → args[j] = a0) ∧ wr = wo.drewN d) (fun _ kv _ => n - (intOf kv).toNat)
  case atStart => exact ⟨0, 0, rfl, by omega, fun j _ h => by omega, rfl⟩
  case round =>
   obtain ⟨k, d, rfl, hkm, hall, hd⟩ := hrel
   have HAL2 := Lib.hid hall
   have HD := Lib.hid hd
   have HB3 := Lib.hid (show Below w.heap.size w wr by rw [hd]; exact below_drewN HB.out d)
   have ca3 : wr.cell? ⟨b, off, none⟩ = some (.slice A0 a0.length c0) := by rw [hd]; exact ca0
   clear hall hd
   by_cases hk2 : k < n
   ·have hkl : k < args.length := by have := HN.out; omega
    obtain ⟨v, cv, Ai, ci2, rfl, hi, hl1, hl2⟩ := HC.out k hkl
    have cv3 := (HB3.out.cell (p := ⟨b, off + k, none⟩) (by show b < w.heap.size; omega)).trans cv
    have HQ := Lib.hid (Ar.same2_any Ai A0 ci2 c0 args[k] a0 B B wr (by omega) (by omega) (hi.below (HB3.out.mono hB)) (HI0.out.below (HB3.out.mono hB)))
    have HNO := Lib.hid (fun h => HAT.out k hkl h)
    have HNX := Lib.hid (show args[k] = a0 → ∀ j (hj : j < args.length), j < k + 1 → args[j] = a0 from fun h j hj hjk => by
     by_cases e : j = k
     ·subst e; exact h
     ·exact HAL2.out j hj (by omega))
    have i1 : (0 : Int) ≤ (k : Int) := by omega
    have i2 : (k : Int) < (n : Int) := by omega
    clear cv hi
    generalize args[k] = x at cv3 HQ HNO HNX hl1
    by_cases hx : x = a0
    ·have HNX2 := Lib.hid (HNX.out hx)
     rw [decide_eq_true hx] at HQ
     clear hx
     go_wp2_with fail
     ((with_reducible refine HQ.out.mono ?_); rintro e w4 ⟨rfl, d4, hw4⟩)
     have HD4 := Lib.hid (show w4 = wo.drewN (d + d4) by rw [hw4, HD.out, World.drewN_drewN])
     clear hw4
     go_wp2_with fail
     go_roundw
     case rel => exact ⟨k + 1, d + d4, by go_num, by omega, HNX2.out, HD4.out⟩
     case measure => simp [intOf]; omega
    ·have HV := Lib.hid (HNO.out hx)
     rw [decide_eq_false hx] at HQ
     clear hx
     go_wp2_with fail
     ((with_reducible refine HQ.out.mono ?_); rintro e w4 ⟨rfl, d4, hw4⟩)
     have HB4 := Lib.hid (show Below w.heap.size w w4 by rw [hw4]; exact below_drewN HB3.out d4)
     clear hw4
     go_wp2_with fail
     go_ret2
     rw [HV.out]
     exact ⟨_, rfl, Ar.SlAt.nil _ _, HB4.out⟩
   ·obtain rfl : k = n := by omega
    have HRU := Lib.hid (HAL.out (fun j hj => HAL2.out j hj (by have := HN.out; omega)))
    go_wp2_with fail
    go_ret2
    rw [HRU.out]
    exact ⟨_, rfl, ⟨A0, c0, rfl, (HI0.out.below (HB3.out.mono hB)).up (Nat.le_trans hB HB3.out.size), l0, m0⟩, HB3.out⟩
set_option maxRecDepth 100000 in
set_option maxHeartbeats 8000000 in
theorem Ar.ruled_sum (val : Value) (op : AdjD.Op) (A : Option Addr) (cap : Nat) (d : List Int) (B : Nat) (w : World) (hB : B ≤ w.heap.size) (hsh : Ar.Short op) (hcap : 1 ≤ cap) (hcap2 : cap ≤ 9223372036854775807) (hz : ∀ x ∈ [d], (AdjV.size x).2 = 0) (hop : Ar.OpAt w B val op) (hargs : Ar.ListsAt w B A [d]) (hk : op.kind = 10) :
    Calls Try.prog 24 #[val, .slice A 1 cap] w fun e w' => Ar.RefOut w w' (AdjD.ruled op [d]) e := by
 have HRU0 := Lib.hid (show AdjD.ruled op [d] = if AdjV.riseB d.length op.at_ then (AdjD.chosen d (AdjD.free d op.at_), 0) else ([], 6) by unfold AdjD.ruled; simp [hk])
 have hargs2 := hargs
 obtain ⟨b, off, rfl, hbB, hc⟩ := hargs2 (by simp)
 obtain ⟨v0, cv0, A0, c0, rfl, i0, l0, m0⟩ := hc 0 (by simp)
 rw [Nat.add_zero] at cv0
 simp only [List.getElem_cons_zero] at cv0 i0 l0
 have HI0 := Lib.hid i0
 have hbw : b < w.heap.size := by omega
 clear hc i0
 have HOP := Lib.hid (fun W (hb : Below w.heap.size w W) => (hop.below (hb.mono hB)).up (Nat.le_trans hB hb.size))
 have HAR := Lib.hid (fun W (hb : Below w.heap.size w W) => (hargs.below (hb.mono hB)).up (Nat.le_trans hB hb.size))
 obtain ⟨v1, v2, v3, v4, v5, rfl, ⟨D, cD, rfl, iD, lD, mD⟩, ⟨T, ct, rfl, it, lt, mt⟩, ⟨O, co, rfl, io, lo, mo⟩, ⟨I, ci, rfl, ii, li, mi⟩, ⟨S, cs, rfl, is, ls, ms⟩⟩ := hop
 have HL := Lib.hid (fun W (hb : Below w.heap.size w W) => And.intro ((iD.below (hb.mono hB)).up (Nat.le_trans hB hb.size)) ((it.below (hb.mono hB)).up (Nat.le_trans hB hb.size)))
 have HX := Lib.hid (Blk.new w 37 #[.int .i64 op.kind, .slice D op.dims.length cD, .slice T op.at_.length ct, .slice O op.lo.length co, .slice I op.hi.length ci, .slice S op.step.length cs, .int .i64 op.value])
 have HB := Lib.hid ((Below.refl w.heap.size w).alloc (Nat.le_refl _) (.cells #[.int .i64 op.kind, .slice D op.dims.length cD, .slice T op.at_.length ct, .slice O op.lo.length co, .slice I op.hi.length ci, .slice S op.step.length cs, .int .i64 op.value] 37))
 obtain ⟨w0, hw0⟩ : ∃ w0, w.alloc (.cells #[.int .i64 op.kind, .slice D op.dims.length cD, .slice T op.at_.length ct, .slice O op.lo.length co, .slice I op.hi.length ci, .slice S op.step.length cs, .int .i64 op.value] 37) = w0 := ⟨_, rfl⟩
 rw [hw0] at HX HB
 have hws : w.heap.size < w0.heap.size := HX.out.lt
 have HM := Lib.hid (show (op.dims.length ≤ cD ∧ op.at_.length ≤ ct ∧ op.lo.length ≤ co ∧ op.hi.length ≤ ci ∧ op.step.length ≤ cs) ∧ cD ≤ 9223372036854775807 ∧ ct ≤ 9223372036854775807 from ⟨⟨lD, lt, lo, li, ls⟩, mD, mt⟩)
 have HZ := Lib.hid hz
 clear iD it io ii is lD lt lo li ls mD mt mo mi ms hargs hz
 skip
 have HKK := Lib.hid hk
 rw [hk] at HX HOP hw0 ⊢
 have x0 : w0.cell? ⟨w.heap.size, 0, none⟩ = some (.int .i64 10) := HX.out.cell 0
 have x1 : w0.cell? ⟨w.heap.size, 1, none⟩ = some (.slice D op.dims.length cD) := HX.out.cell 1
 have x2 : w0.cell? ⟨w.heap.size, 2, none⟩ = some (.slice T op.at_.length ct) := HX.out.cell 2
 have x3 : w0.cell? ⟨w.heap.size, 3, none⟩ = some (.slice O op.lo.length co) := HX.out.cell 3
 have x4 : w0.cell? ⟨w.heap.size, 4, none⟩ = some (.slice I op.hi.length ci) := HX.out.cell 4
 have x5 : w0.cell? ⟨w.heap.size, 5, none⟩ = some (.slice S op.step.length cs) := HX.out.cell 5
 have x6 : w0.cell? ⟨w.heap.size, 6, none⟩ = some (.int .i64 op.value) := HX.out.cell 6
 clear hk
 have hz := HZ.out d (by simp)
 obtain ⟨hd6, hdp, _⟩ := AdjV.size_fine hz
 have HDP := Lib.hid hdp
 have HZD := Lib.hid hz
 have ca0 := (HB.out.cell (p := ⟨b, off, none⟩) (by show b < w.heap.size; omega)).trans cv0
 have i1 : (0 : Int) < 1 := by omega
 clear cv0 hz hdp
 have HSK := Lib.hid (fun W (hb : Below w.heap.size w W) => (hb.cell (p := ⟨b, off, none⟩) (by show b < w.heap.size; omega)).trans ((HB.out.cell (p := ⟨b, off, none⟩) (by show b < w.heap.size; omega)).symm.trans ca0))
 have HBq := Lib.hid (show Below w.heap.size w w0.drew from HB.out.drew)
 go_enter Try.func24, Try.ntmps24
 go_wp2_with fail
 refine wp_region_T (fun w' => w'.cell? ⟨w.heap.size, 2, none⟩ = some (.slice T op.at_.length ct) ∧ w'.cell? ⟨b, off, none⟩ = some (.slice A0 d.length c0)) 6 (fun _ => True) 6 8 rfl (by kernel_rfl) ⟨⟨x2, ca0⟩, trivial⟩ (fun hHeld => ?_)
 simp only [List.replicate_succ, List.replicate_zero]
 refine tk (v := ?_) [1] 0 43 hHeld ?_ ?_; rotate_left; (intro w h; (try dsimp only at h); go_simp; try with_reducible rfl); try simp only [Act.put, zA, zB, zC]
 refine tk (v := ?_) [] 1 44 hHeld ?_ ?_; rotate_left; (intro w h; (try dsimp only at h); go_simp; try with_reducible rfl); try simp only [Act.put, zA, zB, zC]
 refine tk (v := ?_) [3, 4, 5] 2 45 hHeld ?_ ?_; rotate_left; (intro w h; (try dsimp only at h); go_simp; try with_reducible rfl); try simp only [Act.put, zA, zB, zC]
 refine tk (v := ?_) [4, 5] 3 46 hHeld ?_ ?_; rotate_left; (intro w h; (try dsimp only at h); go_simp; try with_reducible rfl); try simp only [Act.put, zA, zB, zC]
 refine tk (v := ?_) [5] 4 47 hHeld ?_ ?_; rotate_left; (intro w h; (try dsimp only at h); go_simp; try with_reducible rfl); try simp only [Act.put, zA, zB, zC]
 refine tk (v := ?_) [] 5 48 hHeld ?_ ?_; rotate_left; (intro w h; (try dsimp only at h); go_simp; try with_reducible rfl); try simp only [Act.put, zA, zB, zC]
 have HX1 := Lib.hid (HX.out.drew)
 clear hHeld x0 x1 x2 x3 x4 x5 x6 ca0
 generalize w0.drew = wq at HBq HX1 ⊢
 have HRI := Lib.hid (Rising_any T ct op.at_ d.length wq.heap.size wq (by have := hsh.2.2.1; omega) (by omega) (HL.out wq HBq.out).2)
 have x2 : wq.cell? ⟨w.heap.size, 2, none⟩ = some (.slice T op.at_.length ct) := HX1.out.cell 2
 have ca0 := HSK.out wq HBq.out
 refine wpT_tail [_, _] 6 [7] rfl (by kernel_rfl) ?_
 by_cases hr : AdjV.riseB d.length op.at_ = true
 ·have HRU := Lib.hid (show AdjD.ruled op [d] = (AdjD.chosen d (AdjD.free d op.at_), 0) by rw [HRU0.out, if_pos hr])
  rw [hr] at HRI
  clear hr
  have HBr := Lib.hid (show Below w.heap.size w wq.drew from HBq.out.drew)
  have HXr := Lib.hid (show Blk wq.drew w.heap.size _ _ from HX1.out.drew)
  go_wp2_with fail
  ((with_reducible refine HRI.out.mono ?_); rintro e w3 ⟨rfl, rfl⟩)
  go_wp2_with fail
  refine wp_region_T (fun w' => w'.cell? ⟨w.heap.size, 2, none⟩ = some (.slice T op.at_.length ct) ∧ w'.cell? ⟨b, off, none⟩ = some (.slice A0 d.length c0)) 9 (fun _ => True) 9 12 rfl (by kernel_rfl) ⟨⟨x2, ca0⟩, trivial⟩ (fun hHeld => ?_)
  simp only [List.replicate_succ, List.replicate_zero]
  refine tk (v := ?_) [1, 2] 0 51 hHeld ?_ ?_; rotate_left; (intro w h; (try dsimp only at h); go_simp; try with_reducible rfl); try simp only [Act.put, zA, zB, zC]
  refine tk (v := ?_) [2] 1 52 hHeld ?_ ?_; rotate_left; (intro w h; (try dsimp only at h); go_simp; try with_reducible rfl); try simp only [Act.put, zA, zB, zC]
  refine tk (v := ?_) [] 2 53 hHeld ?_ ?_; rotate_left; (intro w h; (try dsimp only at h); go_simp; try with_reducible rfl); try simp only [Act.put, zA, zB, zC]
  refine tk (v := ?_) [4, 5, 8] 3 54 hHeld ?_ ?_; rotate_left; (intro w h; (try dsimp only at h); go_simp; try with_reducible rfl); try simp only [Act.put, zA, zB, zC]
  refine tk (v := ?_) [5, 8] 4 55 hHeld ?_ ?_; rotate_left; (intro w h; (try dsimp only at h); go_simp; try with_reducible rfl); try simp only [Act.put, zA, zB, zC]
  refine tk (v := ?_) [8] 5 56 hHeld ?_ ?_; rotate_left; (intro w h; (try dsimp only at h); go_simp; try with_reducible rfl); try simp only [Act.put, zA, zB, zC]
  refine tk (v := ?_) [7, 8] 6 57 hHeld ?_ ?_; rotate_left; (intro w h; (try dsimp only at h); go_simp; try with_reducible rfl); try simp only [Act.put, zA, zB, zC]
  refine tk (v := ?_) [8] 7 58 hHeld ?_ ?_; rotate_left; (intro w h; (try dsimp only at h); go_simp; try with_reducible rfl); try simp only [Act.put, zA, zB, zC]
  clear x2 ca0
  generalize wq.drew = wr at HBr HXr hHeld ⊢
  have HFR := Lib.hid (Ar.free2_any A0 T c0 ct op.at_ d wr.heap.size wr (Nat.le_refl _) (by have := hsh.2.2.1; omega) (by omega) (HL.out wr HBr.out).2)
  obtain ⟨FA, hFA⟩ : ∃ L, AdjD.free d op.at_ = L := ⟨_, rfl⟩
  have HFM := Lib.hid (show (∀ k ∈ FA, 0 ≤ k ∧ k < (d.length : Int)) ∧ FA.length ≤ d.length from ⟨by rw [← hFA]; exact AdjD'.free_mem, by rw [← hFA]; exact AdjD'.free_len _ _⟩)
  rw [hFA] at HFR HRU
  clear hFA
  refine wpT_one 8 (by kernel_rfl) (stepT_early rfl rfl (fun K hK => ?_))
  go_simp
  ((with_reducible refine HFR.out.mono ?_); rintro e w4 ⟨v, rfl, ho, hb⟩)
  have HB4 := Lib.hid (HBr.out.trans (hb.mono HBr.out.size))
  have HX4 := Lib.hid (HXr.out.below hb HXr.out.lt)
  obtain ⟨A4, c4, rfl, i4, l4, m4⟩ := Ar.sl_own ho
  have HI4 := Lib.hid i4
  clear ho hb i4 l4 m4
  try go_simp
  refine hK.out _ _ ⟨⟨HX4.out.cell 2, HSK.out _ HB4.out⟩, trivial⟩ (fun hHeld2 => ?_)
  clear hK K hHeld hHeld2
  try simp only [zA, zB, zC]
  have HC := Lib.hid (Ar.chosen2_any A0 A4 c0 c4 FA d w4.heap.size w4 (Nat.le_refl _) (by have := HFM.out.2; omega) (by omega) HFM.out.1 HI4.out ((HI0.out.below (HB4.out.mono hB)).up (Nat.le_trans hB HB4.out.size)))
  obtain ⟨L, hL⟩ : ∃ L, AdjD.chosen d FA = L := ⟨_, rfl⟩
  rw [hL] at HC HRU
  clear hL
  refine wpT_tail [_, _, _] 9 [10, 11] rfl (by kernel_rfl) ?_
  go_wp2_with fail
  ((with_reducible refine HC.out.mono ?_); rintro e w2 ⟨v, rfl, ho, hb⟩)
  have HB2 := Lib.hid (HB4.out.trans (hb.mono HB4.out.size))
  have HSL := Lib.hid (Ar.sl_own ho)
  clear ho hb
  go_wp2_with fail
  go_ret2
  rw [HRU.out]
  exact ⟨_, rfl, HSL.out, HB2.out⟩
 ·have hr' : AdjV.riseB d.length op.at_ = false := by simpa using hr
  have HV := Lib.hid (show AdjD.ruled op [d] = ([], 6) by rw [HRU0.out, if_neg hr])
  rw [hr'] at HRI
  clear hr hr'
  go_wp2_with fail
  ((with_reducible refine HRI.out.mono ?_); rintro e w3 ⟨rfl, rfl⟩)
  go_wp2_with fail
  go_ret2
  rw [HV.out]
  exact ⟨_, rfl, Ar.SlAt.nil _ _, HBq.out⟩
set_option maxRecDepth 100000 in
set_option maxHeartbeats 8000000 in
theorem Ar.ruled_reform (val : Value) (op : AdjD.Op) (A : Option Addr) (cap : Nat) (d : List Int) (B : Nat) (w : World) (hB : B ≤ w.heap.size) (hsh : Ar.Short op) (hcap : 1 ≤ cap) (hcap2 : cap ≤ 9223372036854775807) (hz : ∀ x ∈ [d], (AdjV.size x).2 = 0) (hop : Ar.OpAt w B val op) (hargs : Ar.ListsAt w B A [d]) (hk : op.kind = 12) :
    Calls Try.prog 24 #[val, .slice A 1 cap] w fun e w' => Ar.RefOut w w' (AdjD.ruled op [d]) e := by
 have HRU0 := Lib.hid (show AdjD.ruled op [d] = if (AdjV.size op.dims).2 ≠ 0 then ([], (AdjV.size op.dims).2) else if (AdjV.size d).1 ≠ (AdjV.size op.dims).1 then ([], 6) else (op.dims, 0) by unfold AdjD.ruled; simp [hk])
 have hargs2 := hargs
 obtain ⟨b, off, rfl, hbB, hc⟩ := hargs2 (by simp)
 obtain ⟨v0, cv0, A0, c0, rfl, i0, l0, m0⟩ := hc 0 (by simp)
 rw [Nat.add_zero] at cv0
 simp only [List.getElem_cons_zero] at cv0 i0 l0
 have HI0 := Lib.hid i0
 have hbw : b < w.heap.size := by omega
 clear hc i0
 have HOP := Lib.hid (fun W (hb : Below w.heap.size w W) => (hop.below (hb.mono hB)).up (Nat.le_trans hB hb.size))
 have HAR := Lib.hid (fun W (hb : Below w.heap.size w W) => (hargs.below (hb.mono hB)).up (Nat.le_trans hB hb.size))
 obtain ⟨v1, v2, v3, v4, v5, rfl, ⟨D, cD, rfl, iD, lD, mD⟩, ⟨T, ct, rfl, it, lt, mt⟩, ⟨O, co, rfl, io, lo, mo⟩, ⟨I, ci, rfl, ii, li, mi⟩, ⟨S, cs, rfl, is, ls, ms⟩⟩ := hop
 have HL := Lib.hid (fun W (hb : Below w.heap.size w W) => And.intro ((iD.below (hb.mono hB)).up (Nat.le_trans hB hb.size)) ((it.below (hb.mono hB)).up (Nat.le_trans hB hb.size)))
 have HX := Lib.hid (Blk.new w 37 #[.int .i64 op.kind, .slice D op.dims.length cD, .slice T op.at_.length ct, .slice O op.lo.length co, .slice I op.hi.length ci, .slice S op.step.length cs, .int .i64 op.value])
 have HB := Lib.hid ((Below.refl w.heap.size w).alloc (Nat.le_refl _) (.cells #[.int .i64 op.kind, .slice D op.dims.length cD, .slice T op.at_.length ct, .slice O op.lo.length co, .slice I op.hi.length ci, .slice S op.step.length cs, .int .i64 op.value] 37))
 obtain ⟨w0, hw0⟩ : ∃ w0, w.alloc (.cells #[.int .i64 op.kind, .slice D op.dims.length cD, .slice T op.at_.length ct, .slice O op.lo.length co, .slice I op.hi.length ci, .slice S op.step.length cs, .int .i64 op.value] 37) = w0 := ⟨_, rfl⟩
 rw [hw0] at HX HB
 have hws : w.heap.size < w0.heap.size := HX.out.lt
 have HM := Lib.hid (show (op.dims.length ≤ cD ∧ op.at_.length ≤ ct ∧ op.lo.length ≤ co ∧ op.hi.length ≤ ci ∧ op.step.length ≤ cs) ∧ cD ≤ 9223372036854775807 ∧ ct ≤ 9223372036854775807 from ⟨⟨lD, lt, lo, li, ls⟩, mD, mt⟩)
 have HZ := Lib.hid hz
 clear iD it io ii is lD lt lo li ls mD mt mo mi ms hargs hz
 skip
 have HKK := Lib.hid hk
 rw [hk] at HX HOP hw0 ⊢
 have x0 : w0.cell? ⟨w.heap.size, 0, none⟩ = some (.int .i64 12) := HX.out.cell 0
 have x1 : w0.cell? ⟨w.heap.size, 1, none⟩ = some (.slice D op.dims.length cD) := HX.out.cell 1
 have x2 : w0.cell? ⟨w.heap.size, 2, none⟩ = some (.slice T op.at_.length ct) := HX.out.cell 2
 have x3 : w0.cell? ⟨w.heap.size, 3, none⟩ = some (.slice O op.lo.length co) := HX.out.cell 3
 have x4 : w0.cell? ⟨w.heap.size, 4, none⟩ = some (.slice I op.hi.length ci) := HX.out.cell 4
 have x5 : w0.cell? ⟨w.heap.size, 5, none⟩ = some (.slice S op.step.length cs) := HX.out.cell 5
 have x6 : w0.cell? ⟨w.heap.size, 6, none⟩ = some (.int .i64 op.value) := HX.out.cell 6
 clear hk
 have hz := HZ.out d (by simp)
 obtain ⟨hd6, hdp, _⟩ := AdjV.size_fine hz
 have HDP := Lib.hid hdp
 have HZD := Lib.hid hz
 have ca0 := (HB.out.cell (p := ⟨b, off, none⟩) (by show b < w.heap.size; omega)).trans cv0
 have i1 : (0 : Int) < 1 := by omega
 clear cv0 hz hdp
 have HS1 := Lib.hid (refSize_any D cD op.dims w0.heap.size w0 (by have := hsh.1; omega) (HL.out w0 HB.out).1)
 have HS2 := Lib.hid (refSize_any A0 c0 d B w0 (by omega) (HI0.out.below (HB.out.mono hB)))
 by_cases hs : (AdjV.size op.dims).2 = 0
 ·have HSE := Lib.hid hs
  have HRU1 := Lib.hid (show AdjD.ruled op [d] = if (AdjV.size d).1 ≠ (AdjV.size op.dims).1 then ([], 6) else (op.dims, 0) by rw [HRU0.out, if_neg (by simp [hs])])
  have hsr : Vw.sizeR op.dims = .tuple #[.int .i64 (AdjV.size op.dims).1, .int .i64 0] := by unfold Vw.sizeR; rw [hs]
  rw [hsr] at HS1
  clear hsr hs
  unfold Vw.sizeR at HS2
  generalize (AdjV.size op.dims).1 = n1 at HS1 HRU1
  generalize (AdjV.size d).1 = n2 at HS2 HRU1
  generalize (AdjV.size d).2 = e2 at HS2
  by_cases hn : n2 = n1
  ·subst hn
   have HRU := Lib.hid (show AdjD.ruled op [d] = (op.dims, 0) by rw [HRU1.out, if_neg (by simp)])
   have q : (n2 != n2) = false := by simp
   go_enter Try.func24, Try.ntmps24
   go_wp2_with fail
   ((with_reducible refine HS1.out.mono ?_); rintro e w7 ⟨rfl, rfl⟩)
   go_wp2_with fail
   ((with_reducible refine HS2.out.mono ?_); rintro e w7 ⟨rfl, rfl⟩)
   go_wp2_with fail
   go_ret2
   rw [HRU.out]
   exact ⟨_, rfl, ⟨D, cD, rfl, (HL.out w0 HB.out).1, HM.out.1.1, HM.out.2.1⟩, HB.out⟩
  ·have HV := Lib.hid (show AdjD.ruled op [d] = ([], 6) by rw [HRU1.out, if_pos hn])
   have q : (n2 != n1) = true := by simpa using hn
   clear hn
   go_enter Try.func24, Try.ntmps24
   go_wp2_with fail
   ((with_reducible refine HS1.out.mono ?_); rintro e w7 ⟨rfl, rfl⟩)
   go_wp2_with fail
   ((with_reducible refine HS2.out.mono ?_); rintro e w7 ⟨rfl, rfl⟩)
   go_wp2_with fail
   go_ret2
   rw [HV.out]
   exact ⟨_, rfl, Ar.SlAt.nil _ _, HB.out⟩
 ·have HV := Lib.hid (show AdjD.ruled op [d] = ([], (AdjV.size op.dims).2) by rw [HRU0.out, if_pos hs])
  have q : ((AdjV.size op.dims).2 != 0) = true := by simpa using hs
  unfold Vw.sizeR at HS1
  generalize (AdjV.size op.dims).2 = e1 at HS1 HV q hs
  generalize (AdjV.size op.dims).1 = n1 at HS1
  clear hs
  go_enter Try.func24, Try.ntmps24
  go_wp2_with fail
  ((with_reducible refine HS1.out.mono ?_); rintro e w7 ⟨rfl, rfl⟩)
  go_wp2_with fail
  go_ret2
  rw [HV.out]
  exact ⟨_, rfl, Ar.SlAt.nil _ _, HB.out⟩
end Go.Proofs.Ytapedmpbkffopaa
end
