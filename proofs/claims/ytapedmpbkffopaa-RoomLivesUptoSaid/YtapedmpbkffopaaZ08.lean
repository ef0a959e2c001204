/-
  The walk of the reference's Cut; Spread, in plain Lean; What a view that is being made out of a list that is there (or laid anew), a list of zeros and a block holds, in whatever order they were laid. Conditions: where the theorems name them.
-/
import Derived.Test.YtapedmpbkffopaaZ02
import Derived.Test.YtapedmpbkffopaaZ06
import Derived.Test.YtapedmpbkffopaaZ07
section
namespace Go.Proofs.Ytapedmpbkffopaa
set_option linter.unusedVariables false
open Go.RowKit Adj
attribute [local go_sem ↓] Go.wp_at_zero Go.wp_at_succ
theorem Vw.drewN_drewN (w : World) (a b : Nat) : (w.drewN a).drewN b = w.drewN (a + b) := by
 simp [World.drewN, Nat.add_assoc]
set_option maxRecDepth 100000 in
set_option maxHeartbeats 8000000 in
theorem refCut_any (val : Value) (v : AdjV.V) (L I T : Option Addr) (cl ci ct : Nat) (lo hi st : List Int) (B : Nat) (w : World) (hB : B ≤ w.heap.size) (h : Vw.ViewAt w B val v) (hlo : Vw.IntsAt w B L lo) (hhi : Vw.IntsAt w B I hi) (hst : Vw.IntsAt w B T st)
    (ml : lo.length ≤ cl) (ml2 : cl ≤ 9223372036854775807) (mi : hi.length ≤ ci) (mi2 : ci ≤ 9223372036854775807) (mt : st.length ≤ ct) (mt2 : ct ≤ 9223372036854775807) :
    Calls Try.prog 48 #[val, .slice L lo.length cl, .slice I hi.length ci, .slice T st.length ct] w fun e w' => Vw.ViewOut B w w' (AdjV.cut v lo hi st) e ∧ Below w.heap.size w w' := by
 have HW := Lib.hid (fun (W : World) (hb : Below w.heap.size w W) => refWrong_any val v B W (Nat.le_trans hB hb.size) (h.below (hb.mono hB)))
 have HLO := Lib.hid hlo
 have HHI := Lib.hid hhi
 have HST := Lib.hid hst
 obtain ⟨A, c, A', c', rfl, hd, hs, c1, c2, c3, c4⟩ := h
 have HD := Lib.hid hd
 have HS := Lib.hid hs
 have HB := Lib.hid ((((Below.refl w.heap.size w).alloc (Nat.le_refl _) (.cells #[.int .i64 v.st, .slice A v.dims.length c, .slice A' v.steps.length c'] 68))).alloc (by simp) (.cells #[.int .i64 0, .slice none 0 0, .slice none 0 0] 68))
 clear hd hs hlo hhi hst
 by_cases h0 : AdjV.wrong v = 0
 rotate_left
 ·have HT := Lib.hid (AdjV.cut_wrong (lo := lo) (hi := hi) (st := st) h0)
  have hq : (AdjV.wrong v != 0) = true := by simpa using h0
  clear h0
  go_enter Try.func48, Try.ntmps48
  go_wp2_with fail
  refine (HW.out _ HB.out).mono ?_
  rintro e w1 ⟨rfl, hb1⟩
  obtain ⟨hc, hf⟩ := bcell hb1
  have hz : w.heap.size + 1 < w1.heap.size := by have := hb1.size; simp at this; omega
  go_wp2_with fail
  refine bodyPost_ret (v := .tuple #[.agg #[.int .i64 0, .slice none 0 0, .slice none 0 0], .int .i64 (AdjV.wrong v)]) (by simp [results, Try.results48, go_sem, hc]) rfl ⟨?_, Vw.three (HB.out.trans (hb1.mono HB.out.size)) (Nat.le_succ _) _ _ _⟩
  rw [HT.out]; exact Vw.out_none _ _ _ _
 have H0 := Lib.hid h0
 obtain ⟨z1, z2, z3, z4⟩ := AdjV.wrong_fine h0
 have hn6 : v.dims.length ≤ 6 := (AdjV.size_fine z1).1
 have HLS := Lib.hid z2
 clear h0 z1 z2 z4
 by_cases hl1 : lo.length = v.dims.length
 rotate_left
 ·have HT := Lib.hid (AdjV.cut_shape (lo := lo) (hi := hi) (st := st) H0.out (.inl hl1))
  have hq1 : ((lo.length : Int) != (v.dims.length : Int)) = true := by simp; omega
  clear hl1
  go_enter Try.func48, Try.ntmps48
  go_wp2_with fail
  refine (HW.out _ HB.out).mono ?_
  rintro e w1 ⟨rfl, hb1⟩
  rw [H0.out]
  obtain ⟨hc, hf⟩ := bcell hb1
  have hz : w.heap.size + 1 < w1.heap.size := by have := hb1.size; simp at this; omega
  go_wp2_with fail
  refine bodyPost_ret (v := .tuple #[.agg #[.int .i64 0, .slice none 0 0, .slice none 0 0], .int .i64 6]) (by simp [results, Try.results48, go_sem, hc]) rfl ⟨?_, Vw.three (HB.out.trans (hb1.mono HB.out.size)) (Nat.le_succ _) _ _ _⟩
  rw [HT.out]; exact Vw.out_none _ _ _ _
 have hq1 : ((lo.length : Int) != (v.dims.length : Int)) = false := by simp; omega
 by_cases hl2 : hi.length = v.dims.length
 rotate_left
 ·have HT := Lib.hid (AdjV.cut_shape (lo := lo) (hi := hi) (st := st) H0.out (.inr (.inl hl2)))
  have hq2 : ((hi.length : Int) != (v.dims.length : Int)) = true := by simp; omega
  clear hl1 hl2
  go_enter Try.func48, Try.ntmps48
  go_wp2_with fail
  refine (HW.out _ HB.out).mono ?_
  rintro e w1 ⟨rfl, hb1⟩
  rw [H0.out]
  obtain ⟨hc, hf⟩ := bcell hb1
  have hz : w.heap.size + 1 < w1.heap.size := by have := hb1.size; simp at this; omega
  go_wp2_with fail
  refine bodyPost_ret (v := .tuple #[.agg #[.int .i64 0, .slice none 0 0, .slice none 0 0], .int .i64 6]) (by simp [results, Try.results48, go_sem, hc]) rfl ⟨?_, Vw.three (HB.out.trans (hb1.mono HB.out.size)) (Nat.le_succ _) _ _ _⟩
  rw [HT.out]; exact Vw.out_none _ _ _ _
 have hq2 : ((hi.length : Int) != (v.dims.length : Int)) = false := by simp; omega
 by_cases hl3 : st.length = v.dims.length
 rotate_left
 ·have HT := Lib.hid (AdjV.cut_shape (lo := lo) (hi := hi) (st := st) H0.out (.inr (.inr hl3)))
  have hq3 : ((st.length : Int) != (v.dims.length : Int)) = true := by simp; omega
  clear hl1 hl2 hl3
  go_enter Try.func48, Try.ntmps48
  go_wp2_with fail
  refine (HW.out _ HB.out).mono ?_
  rintro e w1 ⟨rfl, hb1⟩
  rw [H0.out]
  obtain ⟨hc, hf⟩ := bcell hb1
  have hz : w.heap.size + 1 < w1.heap.size := by have := hb1.size; simp at this; omega
  go_wp2_with fail
  refine bodyPost_ret (v := .tuple #[.agg #[.int .i64 0, .slice none 0 0, .slice none 0 0], .int .i64 6]) (by simp [results, Try.results48, go_sem, hc]) rfl ⟨?_, Vw.three (HB.out.trans (hb1.mono HB.out.size)) (Nat.le_succ _) _ _ _⟩
  rw [HT.out]; exact Vw.out_none _ _ _ _
 have hq3 : ((st.length : Int) != (v.dims.length : Int)) = false := by simp; omega
 have HL3 := Lib.hid (And.intro hl1 (And.intro hl2 hl3))
 clear hl1 hl2 hl3
 go_enter Try.func48, Try.ntmps48
 go_wp2_with fail
 refine (HW.out _ HB.out).mono ?_
 rintro e w1 ⟨rfl, hb1⟩
 rw [H0.out]
 have hx := ((Blk.new w 68 #[.int .i64 v.st, .slice A v.dims.length c, .slice A' v.steps.length c']).alloc (.cells #[.int .i64 0, .slice none 0 0, .slice none 0 0] 68)).below hb1 (by simp; omega)
 have hr := (Vw.blk2 w (.cells #[.int .i64 v.st, .slice A v.dims.length c, .slice A' v.steps.length c'] 68) 68 #[.int .i64 0, .slice none 0 0, .slice none 0 0]).below hb1 (by simp)
 have HX := Lib.hid hx
 have HR := Lib.hid hr
 have HB1 := Lib.hid (HB.out.trans (hb1.mono HB.out.size))
 have hz : w.heap.size + 1 < w1.heap.size := by have := hb1.size; simp at this; omega
 have x0 : w1.cell? ⟨w.heap.size, 0, none⟩ = some (.int .i64 v.st) := hx.cell 0
 have x1 : w1.cell? ⟨w.heap.size, 1, none⟩ = some (.slice A v.dims.length c) := hx.cell 1
 have x2 : w1.cell? ⟨w.heap.size, 2, none⟩ = some (.slice A' v.steps.length c') := hx.cell 2
 have x1a : ∀ o, (w1.alloc o).cell? ⟨w.heap.size, 1, none⟩ = some (.slice A v.dims.length c) := fun o => (HX.out.alloc o).cell 1
 obtain ⟨i0, hi0, hz0, hz1, hz2⟩ := info_parts Try.infoOf3
 clear hb1 hx hr
 go_wp2_with fail
 have HTA0 := Lib.hid (Vw.Two.start w1 v.st _ rfl)
 have HCE := Lib.hid (fun (k : Nat) (hk : k < v.dims.length) (hk1 : k < lo.length) (hk2 : k < hi.length) (hk3 : k < st.length) (hk4 : k < v.steps.length) => show ∃ b off b' off' lb loff hb0 hoff sb soff, A = some ⟨b, off, none⟩ ∧ A' = some ⟨b', off', none⟩ ∧ L = some ⟨lb, loff, none⟩ ∧ I = some ⟨hb0, hoff, none⟩ ∧ T = some ⟨sb, soff, none⟩ ∧
     b < B ∧ b' < B ∧ lb < B ∧ hb0 < B ∧ sb < B ∧ ∀ W, Below w1.heap.size w1 W → W.cell? ⟨b, off + k, none⟩ = some (.int .i64 v.dims[k]) ∧ W.cell? ⟨b', off' + k, none⟩ = some (.int .i64 v.steps[k]) ∧ W.cell? ⟨lb, loff + k, none⟩ = some (.int .i64 lo[k]) ∧ W.cell? ⟨hb0, hoff + k, none⟩ = some (.int .i64 hi[k]) ∧ W.cell? ⟨sb, soff + k, none⟩ = some (.int .i64 st[k]) from by
  obtain ⟨b, off, e1, hb, hc⟩ := HD.out (by omega)
  obtain ⟨b', off', e2, hb', hc'⟩ := HS.out (by omega)
  obtain ⟨lb, loff, e3, hlb, hlc⟩ := HLO.out (by omega)
  obtain ⟨hb0, hoff, e4, hhb, hhc⟩ := HHI.out (by omega)
  obtain ⟨sb, soff, e5, hsb, hsc⟩ := HST.out (by omega)
  refine ⟨b, off, b', off', lb, loff, hb0, hoff, sb, soff, e1, e2, e3, e4, e5, hb, hb', hlb, hhb, hsb, fun W hb2 => ?_⟩
  have hbw := HB1.out.trans (hb2.mono HB1.out.size)
  exact ⟨(hbw.cell (p := ⟨b, off + k, none⟩) (by simp; omega)).trans (hc k hk), (hbw.cell (p := ⟨b', off' + k, none⟩) (by simp; omega)).trans (hc' k hk4), (hbw.cell (p := ⟨lb, loff + k, none⟩) (by simp; omega)).trans (hlc k hk1),
   (hbw.cell (p := ⟨hb0, hoff + k, none⟩) (by simp; omega)).trans (hhc k hk2), (hbw.cell (p := ⟨sb, soff + k, none⟩) (by simp; omega)).trans (hsc k hk3)⟩)
 go_loopw [12, 13, 50] (fun _ _ i wr => ∃ (k q : Nat), k ≤ v.dims.length ∧ i = .int .i64 (k : Int) ∧ (∀ j, j < k → AdjV.cutB (v.dims.getD j 0) (lo.getD j 0) (hi.getD j 0) (st.getD j 0) = true) ∧
     wr = (w1.alloc (.cells #[.int .i64 v.st, .slice none 0 0, .slice none 0 0] 68)).drewN q) (fun _ _ i _ => v.dims.length + 1 - (intOf i).toNat)
 case atStart => exact ⟨0, 0, by omega, rfl, fun j h => by omega, rfl⟩
 case round =>
  obtain ⟨k, q, hk, rfl, hcb, rfl⟩ := hrel
  have HT := Lib.hid (HTA0.out.drewN q)
  have HCB := Lib.hid hcb
  have HBO := Lib.hid HT.out.below
  generalize hwo : (w1.alloc (.cells #[.int .i64 v.st, .slice none 0 0, .slice none 0 0] 68)).drewN q = wo at HT HBO ⊢
  have HWO := Lib.hid hwo
  clear hwo
  have hsz : w1.heap.size < wo.heap.size := HT.out.blk.lt
  have hrb := HR.out.below HBO.out (by omega)
  have HBF := Lib.hid (HB1.out.trans (HBO.out.mono HB1.out.size))
  by_cases hlt : k < v.dims.length
  ·have hk1 : k < lo.length := by have := HL3.out.1; omega
   have hk2 : k < hi.length := by have := HL3.out.2.1; omega
   have hk3 : k < st.length := by have := HL3.out.2.2; omega
   have hk4 : k < v.steps.length := by have := HLS.out; omega
   obtain ⟨b, off, b', off', lb, loff, hb0, hoff, sb, soff, rfl, rfl, rfl, rfl, rfl, hb, hb', hlb, hhb, hsb, hce⟩ := HCE.out k hlt hk1 hk2 hk3 hk4
   obtain ⟨hd1, hs1, hl1, hh1, ht1⟩ := hce wo HBO.out
   have HBAD := Lib.hid (AdjV.cutAll_bad (v := v) (lo := lo) (hi := hi) (st := st) hlt)
   have HNX := Lib.hid (fun (h : AdjV.cutB (v.dims.getD k 0) (lo.getD k 0) (hi.getD k 0) (st.getD k 0) = true) => show ∀ j, j < k + 1 → AdjV.cutB (v.dims.getD j 0) (lo.getD j 0) (hi.getD j 0) (st.getD j 0) = true from fun j hj => by
    by_cases e : j < k
    ·exact HCB.out j e
    ·obtain rfl : j = k := by omega
     exact h)
   rw [AdjV.getD_at v.dims k hlt, AdjV.getD_at lo k hk1, AdjV.getD_at hi k hk2, AdjV.getD_at st k hk3] at HBAD HNX
   clear hce hcb hs1
   generalize v.dims[k] = d at hd1 HBAD HNX
   generalize lo[k] = x at hl1 HBAD HNX
   generalize hi[k] = y at hh1 HBAD HNX
   generalize st[k] = z at ht1 HBAD HNX
   have i1 : (0 : Int) ≤ (k : Int) := by omega
   have i2 : (k : Int) < (v.dims.length : Int) := by omega
   have i4 : (k : Int) < (lo.length : Int) := by omega
   have i5 : (k : Int) < (hi.length : Int) := by omega
   have i6 : (k : Int) < (st.length : Int) := by omega
   have r0 : wo.cell? ⟨w.heap.size + 1, 0, none⟩ = some (.int .i64 0) := hrb.cell 0
   have r1 : wo.cell? ⟨w.heap.size + 1, 1, none⟩ = some (.slice none 0 0) := hrb.cell 1
   have r2 : wo.cell? ⟨w.heap.size + 1, 2, none⟩ = some (.slice none 0 0) := hrb.cell 2
   have f0 := hrb.frozen 0
   have f1 := hrb.frozen 1
   have f2 := hrb.frozen 2
   clear hrb
   by_cases q1 : x < 0
   ·have HT := Lib.hid (AdjV.cut_range H0.out HL3.out (HBAD.out (by unfold AdjV.cutB; simp; omega)))
    have gq1 : decide (x < 0) = true := by simpa using q1
    go_wp2_with fail
    go_quiet (fail)
    go_wp2_with fail
    refine bodyPost_ret (v := .tuple #[.agg #[.int .i64 0, .slice none 0 0, .slice none 0 0], .int .i64 4]) (by simp [results, Try.results48, go_sem, r0, r1, r2]) rfl ⟨?_, Vw.three (below_drewN HBF.out nq) (Nat.le_succ _) _ _ _⟩
    rw [HT.out]; exact Vw.out_none _ _ _ _
   have gq1 : decide (x < 0) = false := by simpa using q1
   by_cases q2 : y < x
   ·have HT := Lib.hid (AdjV.cut_range H0.out HL3.out (HBAD.out (by unfold AdjV.cutB; simp; omega)))
    have gq2 : decide (y < x) = true := by simpa using q2
    go_wp2_with fail
    go_quiet (fail)
    go_wp2_with fail
    refine bodyPost_ret (v := .tuple #[.agg #[.int .i64 0, .slice none 0 0, .slice none 0 0], .int .i64 4]) (by simp [results, Try.results48, go_sem, r0, r1, r2]) rfl ⟨?_, Vw.three (below_drewN HBF.out nq) (Nat.le_succ _) _ _ _⟩
    rw [HT.out]; exact Vw.out_none _ _ _ _
   have gq2 : decide (y < x) = false := by simpa using q2
   by_cases q3 : d < y
   ·have HT := Lib.hid (AdjV.cut_range H0.out HL3.out (HBAD.out (by unfold AdjV.cutB; simp; omega)))
    have gq3 : decide (d < y) = true := by simpa using q3
    go_wp2_with fail
    go_quiet (fail)
    go_wp2_with fail
    refine bodyPost_ret (v := .tuple #[.agg #[.int .i64 0, .slice none 0 0, .slice none 0 0], .int .i64 4]) (by simp [results, Try.results48, go_sem, r0, r1, r2]) rfl ⟨?_, Vw.three (below_drewN HBF.out nq) (Nat.le_succ _) _ _ _⟩
    rw [HT.out]; exact Vw.out_none _ _ _ _
   have gq3 : decide (d < y) = false := by simpa using q3
   by_cases q4 : z < 1
   ·have HT := Lib.hid (AdjV.cut_range H0.out HL3.out (HBAD.out (by unfold AdjV.cutB; simp; omega)))
    have gq4 : decide (z < 1) = true := by simpa using q4
    go_wp2_with fail
    go_quiet (fail)
    go_wp2_with fail
    refine bodyPost_ret (v := .tuple #[.agg #[.int .i64 0, .slice none 0 0, .slice none 0 0], .int .i64 4]) (by simp [results, Try.results48, go_sem, r0, r1, r2]) rfl ⟨?_, Vw.three (below_drewN HBF.out nq) (Nat.le_succ _) _ _ _⟩
    rw [HT.out]; exact Vw.out_none _ _ _ _
   have gq4 : decide (z < 1) = false := by simpa using q4
   by_cases q5 : 4096 < z
   ·have HT := Lib.hid (AdjV.cut_range H0.out HL3.out (HBAD.out (by unfold AdjV.cutB; simp; omega)))
    have gq5 : decide (4096 < z) = true := by simpa using q5
    go_wp2_with fail
    go_quiet (fail)
    go_wp2_with fail
    refine bodyPost_ret (v := .tuple #[.agg #[.int .i64 0, .slice none 0 0, .slice none 0 0], .int .i64 4]) (by simp [results, Try.results48, go_sem, r0, r1, r2]) rfl ⟨?_, Vw.three (below_drewN HBF.out nq) (Nat.le_succ _) _ _ _⟩
    rw [HT.out]; exact Vw.out_none _ _ _ _
   have gq5 : decide (4096 < z) = false := by simpa using q5
   have HOKK := Lib.hid (HNX.out (AdjV.cutB_true.2 ⟨by omega, by omega, by omega, by omega, by omega⟩))
   clear r0 r1 r2 f0 f1 f2
   go_wp2_with fail
   go_quiet (fail)
   go_wp2_with fail
   have HE := Lib.hid (show wo.drewN nq = (w1.alloc (.cells #[.int .i64 v.st, .slice none 0 0, .slice none 0 0] 68)).drewN (q + nq) by rw [← HWO.out]; exact Vw.drewN_drewN _ _ _)
   first
    | exact ⟨⟨k + 1, q + nq, by omega, by go_num, HOKK.out, HE.out⟩, by simp [intOf]; omega⟩
    | (go_roundw
       case rel => exact ⟨k + 1, q + nq, by omega, by go_num, HOKK.out, HE.out⟩
       case measure => simp [intOf]; omega)
  ·obtain rfl : k = v.dims.length := by omega
   have x1b : wo.cell? ⟨w.heap.size, 1, none⟩ = some (.slice A v.dims.length c) := (HBO.out.cell (p := ⟨w.heap.size, 1, none⟩) (by simp; omega)).trans x1
   clear hrb
   go_wp2_with fail
   have HALL := Lib.hid hcb
   have HT0 := Lib.hid HT.out
   clear hcb HCB x1b HWO HT HBO HBF hsz
   go_loopw [14, 98] (fun _ i wr => ∃ (k : Nat) (v1 v2 : Value), k ≤ v.dims.length ∧ i = .int .i64 (k : Int) ∧
       Vw.Two w1.heap.size w1.heap.size w1 (AdjV.cutSt v lo k) v1 v2 v1 v2 ((AdjV.cutDims v lo hi st).take k) ((AdjV.cutSteps v st).take k) wr) (fun _ i _ => v.dims.length + 1 - (intOf i).toNat)
   case atStart => exact ⟨0, _, _, by omega, rfl, HT0.out⟩
   case round =>
    obtain ⟨k, v1, v2, hk, rfl, htwo⟩ := hrel
    obtain ⟨W2, rfl⟩ : ∃ W2 : World, W2 = wr := ⟨_, rfl⟩
    have HT2 := Lib.hid htwo
    have HBO := Lib.hid htwo.below
    have hsz : w1.heap.size < W2.heap.size := htwo.blk.lt
    have HBF := Lib.hid (HB1.out.trans (HBO.out.mono HB1.out.size))
    by_cases hlt : k < v.dims.length
    ·have hk1 : k < lo.length := by have := HL3.out.1; omega
     have hk2 : k < hi.length := by have := HL3.out.2.1; omega
     have hk3 : k < st.length := by have := HL3.out.2.2; omega
     have hk4 : k < v.steps.length := by have := HLS.out; omega
     obtain ⟨b, off, b', off', lb, loff, hb0, hoff, sb, soff, rfl, rfl, rfl, rfl, rfl, hb, hb', hlb, hhb, hsb, hce⟩ := HCE.out k hlt hk1 hk2 hk3 hk4
     have HC5 := Lib.hid (fun (W : World) (hb2 : Below w1.heap.size w1 W) => And.intro (hce W hb2) ((hb2.cell (p := ⟨w.heap.size, 2, none⟩) (by simp; omega)).trans x2))
     have hps := AdjV.part_small H0.out hlt hk4
     have hcbk := AdjV.cutB_true.1 (HALL.out k hlt)
     have HM1 := Lib.hid (AdjV.take_next (AdjV.cutDims v lo hi st) k (by rw [AdjV.cutDims_length]; exact hlt))
     have HM2 := Lib.hid (AdjV.take_next (AdjV.cutSteps v st) k (by rw [AdjV.cutSteps_length]; exact hlt))
     have HA1 := Lib.hid (AdjV.cutDims_at v lo hi st k (by rw [AdjV.cutDims_length]; exact hlt))
     have HA2 := Lib.hid (AdjV.cutSteps_at v st k (by rw [AdjV.cutSteps_length]; exact hlt))
     have HCS := Lib.hid (show AdjV.cutSt v lo (k + 1) = AdjV.cutSt v lo k + lo.getD k 0 * v.steps.getD k 0 from rfl)
     have hcs := AdjV.cutSt_small (v := v) H0.out (lo := lo) (Nat.le_refl v.dims.length) (fun j hj => AdjV.cutB_small H0.out hj (HALL.out j hj)) k hk
     rw [AdjV.getD_at v.dims k hlt, AdjV.getD_at lo k hk1, AdjV.getD_at hi k hk2, AdjV.getD_at st k hk3] at hcbk
     rw [AdjV.getD_at lo k hk1, AdjV.getD_at hi k hk2, AdjV.getD_at st k hk3] at HA1
     rw [AdjV.getD_at v.steps k hk4, AdjV.getD_at st k hk3] at HA2
     rw [AdjV.getD_at lo k hk1, AdjV.getD_at v.steps k hk4] at HCS
     have hlk1 : ((AdjV.cutDims v lo hi st).take k).length = k := by rw [List.length_take, AdjV.cutDims_length]; omega
     have hlk2 : ((AdjV.cutSteps v st).take k).length = k := by rw [List.length_take, AdjV.cutSteps_length]; omega
     clear hce htwo
     obtain ⟨A1, n1, rfl, hn1⟩ := Vw.own_any HT2.out.own1
     obtain ⟨A2, n2, rfl, hn2⟩ := Vw.own_any HT2.out.own2
     generalize v.dims[k] = d at hps hcbk HC5
     generalize v.steps[k] = s at hps HA2 HCS HC5
     generalize lo[k] = x at hcbk HA1 HCS HC5
     generalize hi[k] = y at hcbk HA1 HC5
     generalize st[k] = z at hcbk HA1 HA2 HC5
     generalize AdjV.cutSt v lo k = st0 at hcs HCS HT2
     generalize (AdjV.cutDims v lo hi st).take k = xs at hlk1 HM1 HT2 hn1
     generalize (AdjV.cutSteps v st).take k = ys at hlk2 HM2 HT2 hn2
     have HL1 := Lib.hid hlk1
     have HL2 := Lib.hid hlk2
     clear hlk1 hlk2
     have i1 : (0 : Int) ≤ (k : Int) := by omega
     have i2 : (k : Int) < (v.dims.length : Int) := by omega
     have i3 : (k : Int) < (v.steps.length : Int) := by omega
     have i4 : (k : Int) < (lo.length : Int) := by omega
     have i5 : (k : Int) < (hi.length : Int) := by omega
     have i6 : (k : Int) < (st.length : Int) := by omega
     obtain ⟨⟨t0, t1, t2, t3, t4⟩, t5⟩ := HC5.out W2 HT2.out.below
     have e0 : W2.cell? ⟨w1.heap.size, 0, none⟩ = some (.int .i64 st0) := HT2.out.blk.cell 0
     have g0 := HT2.out.blk.frozen 0
     have hsm := AdjV.mul_small (a := x) (b := s) (by omega) (by omega) hps.2.2.1 hps.2.2.2.1
     generalize hP : x * s = pr at *
     have hw1 : IntKind.i64.wrap pr = pr := IntWalk.i64_in _ (by omega)
     have hw2 : IntKind.i64.wrap (st0 + pr) = st0 + pr := IntWalk.i64_in _ (by omega)
     go_wp2_with fail
     refine wp_region_T (fun w' => w'.cell? ⟨w1.heap.size, 0, none⟩ = some (.int .i64 st0) ∧ w'.cell? ⟨lb, loff + k, none⟩ = some (.int .i64 x) ∧ w'.cell? ⟨w.heap.size, 2, none⟩ = some (.slice (some ⟨b', off', none⟩) v.steps.length c') ∧ w'.cell? ⟨b', off' + k, none⟩ = some (.int .i64 s)) 13 (fun _ => True) 13 15 rfl (by kernel_rfl) ⟨⟨e0, t2, t5, t1⟩, trivial⟩ (fun hHeld => ?_)
     simp only [List.replicate_succ, List.replicate_zero]
     refine tk (v := ?_) [] 0 101 hHeld ?_ ?_; rotate_left; (intro w h; (try dsimp only at h); go_simp; try with_reducible rfl); try simp only [Act.put, zA, zB, zC]
     refine tk (v := ?_) [] 1 102 hHeld ?_ ?_; rotate_left; (intro w h; (try dsimp only at h); go_simp; try with_reducible rfl); try simp only [Act.put, zA, zB, zC]
     refine tk (v := ?_) [] 2 103 hHeld ?_ ?_; rotate_left; (intro w h; (try dsimp only at h); go_simp; try with_reducible rfl); try simp only [Act.put, zA, zB, zC]
     refine tk (v := ?_) [] 3 104 hHeld ?_ ?_; rotate_left; (intro w h; (try dsimp only at h); go_simp; try with_reducible rfl); try simp only [Act.put, zA, zB, zC]
     refine tk (v := ?_) [] 4 105 hHeld ?_ ?_; rotate_left; (intro w h; (try dsimp only at h); go_simp; try with_reducible rfl); try simp only [Act.put, zA, zB, zC]
     refine tk (v := ?_) [] 5 106 hHeld ?_ ?_; rotate_left; (intro w h; (try dsimp only at h); go_simp; try with_reducible rfl); try simp only [Act.put, zA, zB, zC]
     refine tk (v := ?_) [] 6 107 hHeld ?_ ?_; rotate_left; (intro w h; (try dsimp only at h); go_simp; try with_reducible rfl); try simp only [Act.put, zA, zB, zC]
     refine tk (v := ?_) [] 7 108 hHeld ?_ ?_; rotate_left; (intro w h; (try dsimp only at h); go_simp; try with_reducible rfl); try simp only [Act.put, zA, zB, zC]
     refine tk (v := ?_) [] 8 109 hHeld ?_ ?_; rotate_left; (intro w h; (try dsimp only at h); go_simp; try with_reducible rfl); try simp only [Act.put, zA, zB, zC]
     refine tk (v := ?_) [] 9 110 hHeld ?_ ?_; rotate_left; (intro w h; (try dsimp only at h); go_simp; try with_reducible rfl); try simp only [Act.put, zA, zB, zC]
     refine tk (v := ?_) [] 10 111 hHeld ?_ ?_; rotate_left; (intro w h; (try dsimp only at h); go_simp; try with_reducible rfl); try simp only [Act.put, zA, zB, zC]
     refine tk (v := ?_) [] 11 112 hHeld ?_ ?_; rotate_left; (intro w h; (try dsimp only at h); go_simp; try with_reducible rfl); try simp only [Act.put, zA, zB, zC]
     refine tk (v := ?_) [] 12 113 hHeld ?_ ?_; rotate_left; (intro w h; (try dsimp only at h); go_simp; try with_reducible rfl); try simp only [Act.put, zA, zB, zC]
     refine wpT_tail [_, _] 13 [14] rfl (by kernel_rfl) ?_
     have HT3 := Lib.hid (HT2.out.set0 (st0 + pr)).drew
     clear hHeld
     go_wp2_with fail
     generalize (W2.setCell ⟨w1.heap.size, 0, none⟩ (.int .i64 (st0 + pr))).drew = W3 at HT3 ⊢
     clear t0 t1 t2 t3 t4 t5 e0 g0 HT2 hw1 hw2 HBO HBF hsz
     obtain ⟨⟨t0, t1, t2, t3, t4⟩, t5⟩ := HC5.out W3 HT3.out.below
     have e1 : W3.cell? ⟨w1.heap.size, 1, none⟩ = some (.slice A1 k n1) := by rw [← HL1.out]; exact HT3.out.blk.cell 1
     have hsz : w1.heap.size < W3.heap.size := HT3.out.blk.lt
     have hkn := AdjV.kept_nonneg (lo := x) (hi := y) (st := z) (by omega) (by omega)
     have hks := AdjV.kept_small (lo := x) (hi := y) (st := z) (by omega) (by omega)
     have HKC := Lib.hid (fun W => Kept_any x y z W (by omega) (by omega) (by omega) (by omega) (by omega))
     generalize AdjV.kept x y z = kk at hkn hks HA1 HKC
     refine wp_region_T (fun w' => w'.cell? ⟨w1.heap.size, 1, none⟩ = some (.slice A1 k n1) ∧ w'.cell? ⟨lb, loff + k, none⟩ = some (.int .i64 x) ∧ w'.cell? ⟨hb0, hoff + k, none⟩ = some (.int .i64 y) ∧ w'.cell? ⟨sb, soff + k, none⟩ = some (.int .i64 z)) 17 (fun _ => True) 17 19 rfl (by kernel_rfl) ⟨⟨e1, t2, t3, t4⟩, trivial⟩ (fun hHeld => ?_)
     simp only [List.replicate_succ, List.replicate_zero]
     refine tk (v := ?_) [] 0 115 hHeld ?_ ?_; rotate_left; (intro w h; (try dsimp only at h); go_simp; try with_reducible rfl); try simp only [Act.put, zA, zB, zC]
     refine tk (v := ?_) [] 1 116 hHeld ?_ ?_; rotate_left; (intro w h; (try dsimp only at h); go_simp; try with_reducible rfl); try simp only [Act.put, zA, zB, zC]
     refine tk (v := ?_) [] 2 117 hHeld ?_ ?_; rotate_left; (intro w h; (try dsimp only at h); go_simp; try with_reducible rfl); try simp only [Act.put, zA, zB, zC]
     refine tk (v := ?_) [] 3 118 hHeld ?_ ?_; rotate_left; (intro w h; (try dsimp only at h); go_simp; try with_reducible rfl); try simp only [Act.put, zA, zB, zC]
     refine tk (v := ?_) [] 4 119 hHeld ?_ ?_; rotate_left; (intro w h; (try dsimp only at h); go_simp; try with_reducible rfl); try simp only [Act.put, zA, zB, zC]
     refine tk (v := ?_) [] 5 120 hHeld ?_ ?_; rotate_left; (intro w h; (try dsimp only at h); go_simp; try with_reducible rfl); try simp only [Act.put, zA, zB, zC]
     refine tk (v := ?_) [] 6 121 hHeld ?_ ?_; rotate_left; (intro w h; (try dsimp only at h); go_simp; try with_reducible rfl); try simp only [Act.put, zA, zB, zC]
     refine tk (v := ?_) [] 7 122 hHeld ?_ ?_; rotate_left; (intro w h; (try dsimp only at h); go_simp; try with_reducible rfl); try simp only [Act.put, zA, zB, zC]
     refine tk (v := ?_) [] 8 123 hHeld ?_ ?_; rotate_left; (intro w h; (try dsimp only at h); go_simp; try with_reducible rfl); try simp only [Act.put, zA, zB, zC]
     refine tk (v := ?_) [] 9 124 hHeld ?_ ?_; rotate_left; (intro w h; (try dsimp only at h); go_simp; try with_reducible rfl); try simp only [Act.put, zA, zB, zC]
     refine tk (v := ?_) [] 10 125 hHeld ?_ ?_; rotate_left; (intro w h; (try dsimp only at h); go_simp; try with_reducible rfl); try simp only [Act.put, zA, zB, zC]
     refine tk (v := ?_) [] 11 126 hHeld ?_ ?_; rotate_left; (intro w h; (try dsimp only at h); go_simp; try with_reducible rfl); try simp only [Act.put, zA, zB, zC]
     refine tk (v := ?_) [] 12 127 hHeld ?_ ?_; rotate_left; (intro w h; (try dsimp only at h); go_simp; try with_reducible rfl); try simp only [Act.put, zA, zB, zC]
     refine tk (v := ?_) [] 13 128 hHeld ?_ ?_; rotate_left; (intro w h; (try dsimp only at h); go_simp; try with_reducible rfl); try simp only [Act.put, zA, zB, zC]
     refine wpT_one 14 (by kernel_rfl) (stepT_early rfl rfl (fun K hK => ?_))
     go_simp
     refine (HKC.out _).mono ?_
     rintro e w9 ⟨rfl, rfl⟩
     try go_simp
     refine hK.out _ _ ?_ (fun hHeld2 => ?_)
     ·exact hHeld
     clear hK K hHeld
     try simp only [zA, zB, zC]
     have hHeld := hHeld2
     clear hHeld2
     refine wpT_one 15 (by kernel_rfl) (stepT_early rfl rfl (fun K hK => ?_))
     go_simp
     refine hK.out _ _ ?_ (fun hHeld2 => ?_)
     ·exact ⟨⟨by go_keep, by go_keep, by go_keep, by go_keep⟩, trivial⟩
     clear hK K hHeld
     try simp only [zA, zB, zC]
     refine wpT_one 16 (by kernel_rfl) (stepT_early rfl rfl (fun K hK => ?_))
     have hsz1 : w1.heap.size < W3.heap.size := HT3.out.blk.lt
     have HOW := Lib.hid (show ((W3.alloc (.cells #[.int .i64 kk] 3)).drew).ownsRow (w1.heap.size + 1) 3 1 (.slice A1 k n1) k (ints xs) by have h := ((HT3.out.alloc (.cells #[.int .i64 kk] 3)).drew).own1; rw [HL1.out] at h; exact h)
     refine wp_append_lies _ _ _ _ (by rfl) (w1.heap.size + 1) 3 i0 _ 1 8 Try.underlying23 hi0 hz0 hz1 hz2 rfl (by omega) (.slice A1 k n1) k (ints xs) (by rfl) HOW.out ⟨W3.heap.size, 0, none⟩ 1 1 [.int .i64 kk] (by rfl) (by rfl) (World.news_of_block (cs := #[.int .i64 kk]) (t := 3) (fr := (0, 0)) ((Vw.blkn W3 W3.heap.size rfl 3 #[.int .i64 kk]).drew)) (Adj.one_one _ _) (by omega) (by unfold maxLen; omega) (by omega) (by simp; omega) (W3.heap.size + 1) (by simp) ?_
     intro gg capg w3 hown1 hgrow hat hltg
     refine hK.out _ _ ?_ (fun hHeld => ?_)
     ·exact ⟨⟨(hgrow.cell_far _ (by simp; omega) (Ne.symm (Vw.own_ne HOW.out (by simp)))).trans (by go_keep), (hgrow.cell_far _ (by simp; omega) (Ne.symm (Vw.own_ne HOW.out (by simp; omega)))).trans (by go_keep), (hgrow.cell_far _ (by simp; omega) (Ne.symm (Vw.own_ne HOW.out (by simp; omega)))).trans (by go_keep), (hgrow.cell_far _ (by simp; omega) (Ne.symm (Vw.own_ne HOW.out (by simp; omega)))).trans (by go_keep)⟩, trivial⟩
     clear hK K hHeld2
     try simp only [zA, zB, zC]
     refine wpT_tail [_, _] 17 [18] rfl (by kernel_rfl) ?_
     rw [← HL1.out] at hown1 hgrow hat
     have HTA := Lib.hid (((HT3.out.alloc _).drew).app1 hown1 hgrow hat (by simp))
     have hws : w1.heap.size < w3.heap.size := HTA.out.blk.lt
     have b1 : w3.cell? ⟨w1.heap.size, 1, none⟩ = some (.slice A1 k n1) := by rw [← HL1.out]; exact HTA.out.blk.cell 1
     have b2 := HTA.out.blk.frozen 1
     have HTB := Lib.hid (HTA.out.set1 (.slice (some ⟨gg, 0, none⟩) (xs.length + 1) capg))
     rw [HL1.out] at HTB
     clear hown1 hgrow hat hHeld
     go_wp2_with fail
     have HT4 := Lib.hid HTB.out
     generalize w3.setCell ⟨w1.heap.size, 1, none⟩ (.slice (some ⟨gg, 0, none⟩) (k + 1) capg) = W4 at HT4 ⊢
     clear HTB HTA b1 b2 hws HOW t0 t1 t2 t3 t4 t5 e1 hkn hks HT3
     obtain ⟨⟨t0, t1, t2, t3, t4⟩, t5⟩ := HC5.out W4 HT4.out.below
     have e2 : W4.cell? ⟨w1.heap.size, 2, none⟩ = some (.slice A2 k n2) := by rw [← HL2.out]; exact HT4.out.blk.cell 2
     have hsz4 : w1.heap.size < W4.heap.size := HT4.out.blk.lt
     have hsm2 := AdjV.mul_small (a := z) (b := s) (by omega) (by omega) hps.2.2.1 hps.2.2.2.1
     rw [Int.mul_comm] at hsm2
     generalize hP2 : s * z = pz at hsm2 HA2
     have hw1 : IntKind.i64.wrap pz = pz := IntWalk.i64_in _ (by omega)
     refine wp_region_T (fun w' => w'.cell? ⟨w1.heap.size, 2, none⟩ = some (.slice A2 k n2) ∧ w'.cell? ⟨w.heap.size, 2, none⟩ = some (.slice (some ⟨b', off', none⟩) v.steps.length c') ∧ w'.cell? ⟨b', off' + k, none⟩ = some (.int .i64 s) ∧ w'.cell? ⟨sb, soff + k, none⟩ = some (.int .i64 z)) 14 (fun _ => True) 14 16 rfl (by kernel_rfl) ⟨⟨e2, t5, t1, t4⟩, trivial⟩ (fun hHeld => ?_)
     simp only [List.replicate_succ, List.replicate_zero]
     refine tk (v := ?_) [] 0 133 hHeld ?_ ?_; rotate_left; (intro w h; (try dsimp only at h); go_simp; try with_reducible rfl); try simp only [Act.put, zA, zB, zC]
     refine tk (v := ?_) [] 1 134 hHeld ?_ ?_; rotate_left; (intro w h; (try dsimp only at h); go_simp; try with_reducible rfl); try simp only [Act.put, zA, zB, zC]
     refine tk (v := ?_) [] 2 135 hHeld ?_ ?_; rotate_left; (intro w h; (try dsimp only at h); go_simp; try with_reducible rfl); try simp only [Act.put, zA, zB, zC]
     refine tk (v := ?_) [] 3 136 hHeld ?_ ?_; rotate_left; (intro w h; (try dsimp only at h); go_simp; try with_reducible rfl); try simp only [Act.put, zA, zB, zC]
     refine tk (v := ?_) [] 4 137 hHeld ?_ ?_; rotate_left; (intro w h; (try dsimp only at h); go_simp; try with_reducible rfl); try simp only [Act.put, zA, zB, zC]
     refine tk (v := ?_) [] 5 138 hHeld ?_ ?_; rotate_left; (intro w h; (try dsimp only at h); go_simp; try with_reducible rfl); try simp only [Act.put, zA, zB, zC]
     refine tk (v := ?_) [] 6 139 hHeld ?_ ?_; rotate_left; (intro w h; (try dsimp only at h); go_simp; try with_reducible rfl); try simp only [Act.put, zA, zB, zC]
     refine tk (v := ?_) [] 7 140 hHeld ?_ ?_; rotate_left; (intro w h; (try dsimp only at h); go_simp; try with_reducible rfl); try simp only [Act.put, zA, zB, zC]
     refine tk (v := ?_) [] 8 141 hHeld ?_ ?_; rotate_left; (intro w h; (try dsimp only at h); go_simp; try with_reducible rfl); try simp only [Act.put, zA, zB, zC]
     refine tk (v := ?_) [] 9 142 hHeld ?_ ?_; rotate_left; (intro w h; (try dsimp only at h); go_simp; try with_reducible rfl); try simp only [Act.put, zA, zB, zC]
     refine tk (v := ?_) [] 10 143 hHeld ?_ ?_; rotate_left; (intro w h; (try dsimp only at h); go_simp; try with_reducible rfl); try simp only [Act.put, zA, zB, zC]
     refine tk (v := ?_) [] 11 144 hHeld ?_ ?_; rotate_left; (intro w h; (try dsimp only at h); go_simp; try with_reducible rfl); try simp only [Act.put, zA, zB, zC]
     refine wpT_one 12 (by kernel_rfl) (stepT_early rfl rfl (fun K hK => ?_))
     go_simp
     refine hK.out _ _ ?_ (fun hHeld2 => ?_)
     ·exact ⟨⟨by go_keep, by go_keep, by go_keep, by go_keep⟩, trivial⟩
     clear hK K hHeld
     try simp only [zA, zB, zC]
     refine wpT_one 13 (by kernel_rfl) (stepT_early rfl rfl (fun K hK => ?_))
     have hsz2 : w1.heap.size < W4.heap.size := HT4.out.blk.lt
     have HOW := Lib.hid (show ((W4.alloc (.cells #[.int .i64 pz] 3)).drew).ownsRow (w1.heap.size + 1) 3 1 (.slice A2 k n2) k (ints ys) by have h := ((HT4.out.alloc (.cells #[.int .i64 pz] 3)).drew).own2; rw [HL2.out] at h; exact h)
     refine wp_append_lies _ _ _ _ (by rfl) (w1.heap.size + 1) 3 i0 _ 1 8 Try.underlying23 hi0 hz0 hz1 hz2 rfl (by omega) (.slice A2 k n2) k (ints ys) (by rfl) HOW.out ⟨W4.heap.size, 0, none⟩ 1 1 [.int .i64 pz] (by rfl) (by rfl) (World.news_of_block (cs := #[.int .i64 pz]) (t := 3) (fr := (0, 0)) ((Vw.blkn W4 W4.heap.size rfl 3 #[.int .i64 pz]).drew)) (Adj.one_one _ _) (by omega) (by unfold maxLen; omega) (by omega) (by simp; omega) (W4.heap.size + 1) (by simp) ?_
     intro gg capg w3 hown1 hgrow hat hltg
     refine hK.out _ _ ?_ (fun hHeld => ?_)
     ·exact ⟨⟨(hgrow.cell_far _ (by simp; omega) (Ne.symm (Vw.own_ne HOW.out (by simp)))).trans (by go_keep), (hgrow.cell_far _ (by simp; omega) (Ne.symm (Vw.own_ne HOW.out (by simp; omega)))).trans (by go_keep), (hgrow.cell_far _ (by simp; omega) (Ne.symm (Vw.own_ne HOW.out (by simp; omega)))).trans (by go_keep), (hgrow.cell_far _ (by simp; omega) (Ne.symm (Vw.own_ne HOW.out (by simp; omega)))).trans (by go_keep)⟩, trivial⟩
     clear hK K hHeld2
     try simp only [zA, zB, zC]
     refine wpT_tail [_, _] 14 [15] rfl (by kernel_rfl) ?_
     rw [← HL2.out] at hown1 hgrow hat
     have HTA := Lib.hid (((HT4.out.alloc _).drew).app2 hown1 hgrow hat (by simp))
     have hws : w1.heap.size < w3.heap.size := HTA.out.blk.lt
     have b1 : w3.cell? ⟨w1.heap.size, 2, none⟩ = some (.slice A2 k n2) := by rw [← HL2.out]; exact HTA.out.blk.cell 2
     have b2 := HTA.out.blk.frozen 2
     have HTB := Lib.hid (HTA.out.set2 (.slice (some ⟨gg, 0, none⟩) (ys.length + 1) capg))
     rw [HL2.out] at HTB
     clear hown1 hgrow hat hHeld
     go_wp2_with fail
     first
      | exact ⟨⟨k + 1, _, _, by omega, by go_num, by rw [HM1.out, HM2.out, HA1.out, HA2.out, HCS.out]; exact HTB.out⟩, by simp [intOf]; omega⟩
      | (go_roundw
         case rel => exact ⟨k + 1, _, _, by omega, by go_num, by rw [HM1.out, HM2.out, HA1.out, HA2.out, HCS.out]; exact HTB.out⟩
         case measure => simp [intOf]; omega)
    ·obtain rfl : k = v.dims.length := by omega
     obtain ⟨wo, rfl⟩ : ∃ wo : World, wo = W2 := ⟨_, rfl⟩
     have hcb := HALL.out
     have HT := trivial
     have HCB := trivial
     have hall := AdjV.cutAll_of hcb
     have HFL := Lib.hid (AdjV.cut_ok H0.out HL3.out hall)
     have htw := AdjV.cut_two (lo := lo) (hi := hi) (st := st) H0.out hall (AdjV.cutSt v lo v.dims.length)
     rw [List.take_of_length_le (by rw [AdjV.cutDims_length]; omega), List.take_of_length_le (by rw [AdjV.cutSteps_length]; omega)] at htwo
     obtain ⟨A1, n1, hv1, ia1, la1, ma1, ga1⟩ := Vw.own_view htwo.own1
     obtain ⟨A2, n2, hv2, ia2, la2, ma2, ga2⟩ := Vw.own_view htwo.own2
     subst hv1 hv2
     have hr := HR.out.below HBO.out (by omega)
     have e0 : wo.cell? ⟨w1.heap.size, 0, none⟩ = some (.int .i64 (AdjV.cutSt v lo v.dims.length)) := htwo.blk.cell 0
     have e1 : wo.cell? ⟨w1.heap.size, 1, none⟩ = some (.slice A1 (AdjV.cutDims v lo hi st).length n1) := htwo.blk.cell 1
     have e2 : wo.cell? ⟨w1.heap.size, 2, none⟩ = some (.slice A2 (AdjV.cutSteps v st).length n2) := htwo.blk.cell 2
     have HVA := Lib.hid (show Vw.ViewAt wo wo.heap.size (.agg #[.int .i64 (AdjV.cutSt v lo v.dims.length), .slice A1 (AdjV.cutDims v lo hi st).length n1, .slice A2 (AdjV.cutSteps v st).length n2]) ⟨AdjV.cutSt v lo v.dims.length, AdjV.cutDims v lo hi st, AdjV.cutSteps v st⟩ from
      ⟨_, _, _, _, rfl, ia1, ia2, la1, ma1, la2, ma2⟩)
     have HMD := Lib.hid (made_any _ _ _ wo (Nat.le_refl _) HVA.out htw)
     have HRR := Lib.hid hr
     have HGA := Lib.hid (And.intro ga1 ga2)
     have HMK := Lib.hid (fun (h : AdjV.wrong ⟨AdjV.cutSt v lo v.dims.length, AdjV.cutDims v lo hi st, AdjV.cutSteps v st⟩ = 4) => HFL.out.trans (if_pos h))
     have HMK' := Lib.hid (fun (h : AdjV.wrong ⟨AdjV.cutSt v lo v.dims.length, AdjV.cutDims v lo hi st, AdjV.cutSteps v st⟩ ≠ 4) => HFL.out.trans (if_neg h))
     clear htwo hr ia1 ia2 ga1 ga2 HT hcb HCB hall htw
     generalize AdjV.cutSt v lo v.dims.length = st' at *
     generalize AdjV.cutDims v lo hi st = xs at *
     generalize AdjV.cutSteps v st = ys at *
     go_wp2_with fail
     refine HMD.out.mono ?_
     rintro e w4 ⟨rfl, hb4⟩
     have hr4 := HRR.out.below hb4 HRR.out.lt
     have r0 : w4.cell? ⟨w.heap.size + 1, 0, none⟩ = some (.int .i64 0) := hr4.cell 0
     have r1 : w4.cell? ⟨w.heap.size + 1, 1, none⟩ = some (.slice none 0 0) := hr4.cell 1
     have r2 : w4.cell? ⟨w.heap.size + 1, 2, none⟩ = some (.slice none 0 0) := hr4.cell 2
     have f0 := hr4.frozen 0
     have f1 := hr4.frozen 1
     have f2 := hr4.frozen 2
     have HBX := Lib.hid (fun x y z => Vw.three (HBF.out.trans (hb4.mono HBF.out.size)) (Nat.le_succ w.heap.size) x y z)
     have HV4 := Lib.hid (HVA.out.below hb4)
     have hlt4 : wo.heap.size ≤ w4.heap.size := hb4.size
     have hlt5 : w.heap.size + 1 < wo.heap.size := HRR.out.lt
     clear hr4 hb4
     by_cases h4 : AdjV.wrong ⟨st', xs, ys⟩ = 4
     ·have HT := Lib.hid (HMK.out h4)
      rw [show Vw.madeR (.agg #[.int .i64 st', .slice A1 xs.length n1, .slice A2 ys.length n2]) ⟨st', xs, ys⟩ = .tuple #[.agg #[.int .i64 0, .slice none 0 0, .slice none 0 0], .int .i64 5] from if_pos h4]
      clear h4
      go_wp2_with fail
      refine bodyPost_ret (v := .tuple #[.agg #[.int .i64 0, .slice none 0 0, .slice none 0 0], .int .i64 5]) (by simp [results, Try.results48, go_sem, r0, r1, r2]) rfl ⟨?_, HBX.out _ _ _⟩
      rw [HT.out]; exact Vw.out_none _ _ _ _
     ·have HT := Lib.hid (HMK'.out h4)
      rw [show Vw.madeR (.agg #[.int .i64 st', .slice A1 xs.length n1, .slice A2 ys.length n2]) ⟨st', xs, ys⟩ = .tuple #[.agg #[.int .i64 st', .slice A1 xs.length n1, .slice A2 ys.length n2], .int .i64 0] from if_neg h4]
      clear h4
      go_wp2_with fail
      refine bodyPost_ret (v := .tuple #[.agg #[.int .i64 st', .slice A1 xs.length n1, .slice A2 ys.length n2], .int .i64 0]) (by simp [results, Try.results48, go_sem, r0, r1, r2]) rfl ⟨?_, HBX.out _ _ _⟩
      rw [HT.out]
      exact Vw.out_mk (Vw.view_set3 HV4.out (cc := w.heap.size + 1) rfl (fun b off e hp => by have := HGA.out.1 b off e hp; omega) (fun b off e hp => by have := HGA.out.2 b off e hp; omega) (by simp; omega) _ _ _) (fun b off e hp => by have := HGA.out.1 b off e hp; omega) (fun b off e hp => by have := HGA.out.2 b off e hp; omega)
end Go.Proofs.Ytapedmpbkffopaa
end
section
namespace AdjV
set_option linter.unusedVariables false
def spSteps (v : V) (dims l : List Int) : Nat → List Int
 | 0 => List.replicate dims.length 0
 | k + 1 => (spSteps v dims l k).set (l.getD k 0).toNat (v.steps.getD k 0)
theorem spSteps_length (v : V) (dims l : List Int) : ∀ k, (spSteps v dims l k).length = dims.length
 | 0 => by simp [spSteps]
 | k + 1 => by simp [spSteps, spSteps_length v dims l k]
theorem spSteps_next {v : V} {dims l : List Int} {k q : Nat} (h : k < l.length) (hs : k < v.steps.length) (hq : l[k] = (q : Int)) : spSteps v dims l (k + 1) = (spSteps v dims l k).set q v.steps[k] := by
 simp only [spSteps]
 rw [getD_at l k h, getD_at v.steps k hs, hq]
 simp
def spOK (v : V) (dims l : List Int) : Bool := (List.range l.length).all fun k => decide (dims.getD (l.getD k 0).toNat 0 = v.dims.getD k 0)
theorem spOK_bad {v : V} {dims l : List Int} {k q : Nat} (h : k < l.length) (hv : k < v.dims.length) (hq : l[k] = (q : Int)) (hd : q < dims.length) (hne : dims[q] ≠ v.dims[k]) : spOK v dims l = false := by
 unfold spOK
 rw [List.all_eq_false]
 refine ⟨k, List.mem_range.2 h, ?_⟩
 rw [getD_at l k h, getD_at v.dims k hv, hq, Int.toNat_natCast, getD_at dims q hd]
 simpa using hne
theorem spOK_of {v : V} {dims l : List Int} (h : ∀ k (hk : k < l.length), dims.getD (l[k]).toNat 0 = v.dims.getD k 0) : spOK v dims l = true := by
 unfold spOK
 rw [List.all_eq_true]
 intro k hk
 rw [getD_at l k (List.mem_range.1 hk), decide_eq_true_iff]
 exact h k (List.mem_range.1 hk)
def spread (v : V) (dims l : List Int) : V × Int :=
 if wrong v ≠ 0 then (none_, wrong v) else if (size dims).2 ≠ 0 then (none_, (size dims).2) else if l.length ≠ v.dims.length ∨ riseB dims.length l = false then (none_, 6)
 else if spOK v dims l then (⟨v.st, dims, spSteps v dims l l.length⟩, 0) else (none_, 6)
theorem spread_wrong {v : V} {dims l : List Int} (h : wrong v ≠ 0) : spread v dims l = (none_, wrong v) := if_pos h
theorem spread_size {v : V} {dims l : List Int} (h : wrong v = 0) (h2 : (size dims).2 ≠ 0) : spread v dims l = (none_, (size dims).2) := by unfold spread; rw [if_neg (by simp [h]), if_pos h2]
theorem spread_shape {v : V} {dims l : List Int} (h : wrong v = 0) (h2 : (size dims).2 = 0) (h3 : l.length ≠ v.dims.length ∨ riseB dims.length l = false) : spread v dims l = (none_, 6) := by
 unfold spread; rw [if_neg (by simp [h]), if_neg (by simp [h2]), if_pos h3]
theorem spread_bad {v : V} {dims l : List Int} (h : wrong v = 0) (h2 : (size dims).2 = 0) (h3 : l.length = v.dims.length) (h4 : riseB dims.length l = true) (h5 : spOK v dims l = false) : spread v dims l = (none_, 6) := by
 unfold spread; rw [if_neg (by simp [h]), if_neg (by simp [h2]), if_neg (by simp [h3, h4]), if_neg (by simp [h5])]
theorem spread_ok {v : V} {dims l : List Int} (h : wrong v = 0) (h2 : (size dims).2 = 0) (h3 : l.length = v.dims.length) (h4 : riseB dims.length l = true) (h5 : spOK v dims l = true) : spread v dims l = (⟨v.st, dims, spSteps v dims l l.length⟩, 0) := by
 unfold spread; rw [if_neg (by simp [h]), if_neg (by simp [h2]), if_neg (by simp [h3, h4]), if_pos h5]
end AdjV
end
section
namespace Adj
open Go
variable {P : Program} {ops : Array Oper} {Q : Exit → Act → World → Prop} {md : Region.Mode} {S R : World → Prop} {t0 t1 : Nat}
end Adj
namespace Go.Proofs.Ytapedmpbkffopaa
set_option linter.unusedVariables false
open Go.RowKit Adj
namespace Vw
structure Acc (N : Nat) (W0 : World) (c m : Option (Value × List Int)) (b : Option Nat) (W : World) : Prop where
 below : Below N W0 W
 low : N ≤ W.heap.size
 fc : ∀ p, c = some p → W.ownsRow N 3 1 p.1 p.2.length (ints p.2)
 fm : ∀ p, m = some p → W.ownsRow N 3 1 p.1 p.2.length (ints p.2)
 fb : ∀ k, b = some k → N ≤ k ∧ Blk W k 68 #[.int .i64 0, .slice none 0 0, .slice none 0 0]
 cm : ∀ p q, c = some p → m = some q → ∀ k, p.1.ownBlock = some k → q.1.ownBlock = some k → False
 cb : ∀ p k, c = some p → b = some k → p.1.ownBlock ≠ some k
 mb : ∀ p k, m = some p → b = some k → p.1.ownBlock ≠ some k
theorem Acc.start (W1 : World) : Acc W1.heap.size W1 none none none W1.drew :=
 ⟨(Below.refl _ _).drew, Nat.le_refl _, nofun, nofun, nofun, nofun, nofun, nofun⟩
variable {N : Nat} {W0 W W' : World} {c m : Option (Value × List Int)} {b : Option Nat}
theorem Acc.stepC (h : Acc N W0 none m b W) {v : Value} {xs : List Int} (ho : W'.ownsRow W.heap.size 3 1 v xs.length (ints xs)) (hb : Below W.heap.size W W') : Acc N W0 (some (v, xs)) m b W' := by
 refine ⟨h.below.trans (hb.mono h.low), Nat.le_trans h.low hb.size, fun p e => ?_, fun p e => own_kept (h.fm p e) hb, fun k e => ⟨(h.fb k e).1, (h.fb k e).2.below hb (h.fb k e).2.lt⟩, fun p q e e2 k k1 k2 => ?_, fun p k e e2 => ?_, h.mb⟩
 ·cases e; exact own_base ho h.low
 ·cases e; exact own_apart (h.fm q e2) ho (Nat.le_refl _) k k2 k1
 ·cases e; exact own_ne ho (h.fb k e2).2.lt
theorem Acc.stepM (h : Acc N W0 c none b W) {v : Value} {xs : List Int} (ho : W'.ownsRow W.heap.size 3 1 v xs.length (ints xs)) (hb : Below W.heap.size W W') : Acc N W0 c (some (v, xs)) b W' := by
 refine ⟨h.below.trans (hb.mono h.low), Nat.le_trans h.low hb.size, fun p e => own_kept (h.fc p e) hb, fun p e => ?_, fun k e => ⟨(h.fb k e).1, (h.fb k e).2.below hb (h.fb k e).2.lt⟩, fun p q e e2 k k1 k2 => ?_, h.cb, fun p k e e2 => ?_⟩
 ·cases e; exact own_base ho h.low
 ·cases e2; exact own_apart (h.fc p e) ho (Nat.le_refl _) k k1 k2
 ·cases e; exact own_ne ho (h.fb k e2).2.lt
theorem Acc.make (h : Acc N W0 c none b W) (n : Nat) (hn : n ≤ 65536) : Acc N W0 c (some (.slice (some ⟨W.heap.size, 0, none⟩) n n, List.replicate n 0)) b (W.alloc (.cells (ints (List.replicate n 0)).toArray 3)) := by
 refine h.stepM ?_ ((Below.refl _ _).alloc (Nat.le_refl _) _)
 have h2 := World.ownsRow_lit (base := W.heap.size) (size := 1) (e := 3) W (ints (List.replicate n 0)).toArray n (Nat.le_refl _) (by unfold maxLen; omega) (by simp [ints])
 simpa using h2
theorem Acc.stepB (h : Acc N W0 c m none W) : Acc N W0 c m (some W.heap.size) (W.alloc (.cells #[.int .i64 0, .slice none 0 0, .slice none 0 0] 68)) := by
 refine ⟨h.below.alloc h.low _, by simp; exact Nat.le_succ_of_le h.low, fun p e => (h.fc p e).alloc _, fun p e => (h.fm p e).alloc _, fun k e => ?_, h.cm, fun p k e e2 => ?_, fun p k e e2 => ?_⟩
 ·cases e; exact ⟨h.low, Blk.new W _ _⟩
 ·cases e2; exact own_lt_ne (h.fc p e) (Nat.le_refl _)
 ·cases e2; exact own_lt_ne (h.fm p e) (Nat.le_refl _)
structure Fs (B N bw : Nat) (W0 : World) (st : Int) (A1 : Option Addr) (c1 : Nat) (v2 : Value) (xs ys : List Int) (W : World) : Prop where
 blk : Blk W bw 68 #[.int .i64 st, .slice A1 xs.length c1, v2]
 i1 : IntsAt W W.heap.size A1 xs
 g1 : ∀ b off, A1 = some ⟨b, off, none⟩ → 0 < xs.length → (b < B ∨ N ≤ b) ∧ b ≠ bw ∧ v2.ownBlock ≠ some b
 l1 : xs.length ≤ c1
 l2 : c1 ≤ 9223372036854775807
 own2 : W.ownsRow N 3 1 v2 ys.length (ints ys)
 n2 : v2.ownBlock ≠ some bw
 below : Below N W0 W
 low : N ≤ bw
variable {B bw : Nat} {st : Int} {A1 : Option Addr} {c1 : Nat} {v2 : Value} {xs ys : List Int}
theorem Fs.drewN (h : Fs B N bw W0 st A1 c1 v2 xs ys W) (n : Nat) : Fs B N bw W0 st A1 c1 v2 xs ys (W.drewN n) :=
 ⟨h.blk.drewN n, h.i1, h.g1, h.l1, h.l2, h.own2, h.n2, below_drewN h.below n, h.low⟩
theorem Fs.drew (h : Fs B N bw W0 st A1 c1 v2 xs ys W) : Fs B N bw W0 st A1 c1 v2 xs ys W.drew :=
 ⟨h.blk.drew, h.i1, h.g1, h.l1, h.l2, h.own2.drew, h.n2, h.below.drew, h.low⟩
theorem Fs.store2 {g cap : Nat} (h : Fs B N bw W0 st A1 c1 (.slice (some ⟨g, 0, none⟩) ys.length cap) xs ys W) (j : Nat) (x : Int) :
    Fs B N bw W0 st A1 c1 (.slice (some ⟨g, 0, none⟩) (ys.set j x).length cap) xs (ys.set j x) (W.setCell ⟨g, j, none⟩ (.int .i64 x)) := by
 have hs := h.own2.stored j (.int .i64 x)
 have hg : g ≠ bw := fun e => h.n2 (by simp [Value.ownBlock, e])
 have hlt := h.own2.lt g rfl
 rw [List.length_set]
 refine ⟨h.blk.far (p := ⟨g, j, none⟩) (Ne.symm hg) _, ?_, h.g1, h.l1, h.l2, ?_, h.n2, h.below.setCell (p := ⟨g, j, none⟩) hlt.1 _, h.low⟩
 ·refine (h.i1.set (c := g) (fun b off e hp e2 => (h.g1 b off e hp).2.2 (by simp [Value.ownBlock, e2])) j _).up (by simp)
 ·rw [List.length_set]
  have : ints (ys.set j x) = (ints ys).set j (.int .i64 x) := by unfold ints; rw [List.map_set]
  rw [this]
  exact hs.1
theorem Fs.laid {cs : Array Value} (hb : Blk W bw 68 cs) (hcs : cs.size = 3) (i1 : IntsAt W W.heap.size A1 xs) (g1 : ∀ b off, A1 = some ⟨b, off, none⟩ → 0 < xs.length → (b < B ∨ N ≤ b) ∧ b ≠ bw ∧ v2.ownBlock ≠ some b)
    (l1 : xs.length ≤ c1) (l2 : c1 ≤ 9223372036854775807) (o2 : W.ownsRow N 3 1 v2 ys.length (ints ys)) (n2 : v2.ownBlock ≠ some bw)
    (hbel : Below N W0 W) (low : N ≤ bw) : Fs B N bw W0 st A1 c1 v2 xs ys (((W.setCell ⟨bw, 0, none⟩ (.int .i64 st)).setCell ⟨bw, 1, none⟩ (.slice A1 xs.length c1)).setCell ⟨bw, 2, none⟩ v2) := by
 have hb3 := ((hb.set_ 0 (.int .i64 st)).set_ 1 (.slice A1 xs.length c1)).set_ 2 v2
 have hc : ((cs.setIfInBounds 0 (.int .i64 st)).setIfInBounds 1 (.slice A1 xs.length c1)).setIfInBounds 2 v2 = #[.int .i64 st, .slice A1 xs.length c1, v2] := by
  apply Array.ext
  ·simp [hcs]
  ·intro i h1 h2
   have : i = 0 ∨ i = 1 ∨ i = 2 := by simp at h2; omega
   rcases this with rfl | rfl | rfl <;> simp [hcs]
 rw [hc] at hb3
 exact ⟨hb3, (i1.set3 (fun b off e hp => (g1 b off e hp).2.1) _ _ _).up (by simp), g1, l1, l2, ((o2.kept (grownBy_set _ bw 0 _) (.inr n2)).kept (grownBy_set _ bw 1 _) (.inr n2)).kept (grownBy_set _ bw 2 _) (.inr n2), n2, three hbel low _ _ _, low⟩
theorem Acc.fs (B : Nat) (st : Int) (h : Acc N W0 (some (.slice A1 xs.length c1, xs)) (some (v2, ys)) (some bw) W) :
    Fs B N bw W0 st A1 c1 v2 xs ys (((W.setCell ⟨bw, 0, none⟩ (.int .i64 st)).setCell ⟨bw, 1, none⟩ (.slice A1 xs.length c1)).setCell ⟨bw, 2, none⟩ v2) := by
 obtain ⟨A, n, e, ia, la, ma, ga⟩ := own_view (h.fc _ rfl)
 simp only [Value.slice.injEq] at e
 obtain ⟨rfl, _, rfl⟩ := e
 refine Fs.laid (h.fb _ rfl).2 rfl ia (fun b off e hp => ⟨.inr (ga b off e hp), fun e2 => h.cb _ _ rfl rfl (by subst e; simp [Value.ownBlock, e2]), fun e2 => h.cm _ _ rfl rfl b (by subst e; simp [Value.ownBlock]) e2⟩) la ma (h.fm _ rfl) (h.mb _ _ rfl rfl) h.below (h.fb _ rfl).1
theorem Acc.fs' (st : Int) (h : Acc N W0 none (some (v2, ys)) (some bw) W) (hi : IntsAt W0 B A1 xs) (hB : B ≤ N) (l1 : xs.length ≤ c1) (l2 : c1 ≤ 9223372036854775807) :
    Fs B N bw W0 st A1 c1 v2 xs ys (((W.setCell ⟨bw, 0, none⟩ (.int .i64 st)).setCell ⟨bw, 1, none⟩ (.slice A1 xs.length c1)).setCell ⟨bw, 2, none⟩ v2) := by
 refine Fs.laid (h.fb _ rfl).2 rfl ((hi.below (h.below.mono hB)).up (Nat.le_trans hB h.low)) (fun b off e hp => ?_) l1 l2 (h.fm _ rfl) (h.mb _ _ rfl rfl) h.below (h.fb _ rfl).1
 obtain ⟨b2, o2, e2, hlt, _⟩ := hi hp
 rw [e] at e2
 injection e2 with e2
 injection e2 with e2
 have hk := (h.fb _ rfl).1
 exact ⟨.inl (by omega), by omega, own_ne (h.fm _ rfl) (by omega)⟩
end Vw
end Go.Proofs.Ytapedmpbkffopaa
end
