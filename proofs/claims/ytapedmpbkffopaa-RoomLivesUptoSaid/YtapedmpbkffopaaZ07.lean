/-
  The walks of Kept and of the two Cuts. Conditions: where the theorems name them.
-/
import Derived.Test.YtapedmpbkffopaaZ02
import Derived.Test.YtapedmpbkffopaaZ06
section
namespace Go.Proofs.Ytapedmpbkffopaa
set_option linter.unusedVariables false
open Go.RowKit Adj
attribute [local go_sem ↓] Go.wp_at_zero Go.wp_at_succ
theorem Vw.Two.drewN {N bw : Nat} {W0 W : World} {st : Int} {u1 u2 v1 v2 : Value} {xs ys : List Int} (h : Vw.Two N bw W0 st u1 u2 v1 v2 xs ys W) (n : Nat) : Vw.Two N bw W0 st u1 u2 v1 v2 xs ys (W.drewN n) :=
 ⟨h.blk.drewN n, h.own1, h.own2, h.apart, below_drewN h.below n, h.low⟩
set_option maxHeartbeats 1000000 in
theorem Kept_any (lo hi st : Int) (w : World) (h0 : 0 ≤ lo) (h1 : lo ≤ hi) (h2 : hi ≤ 4096) (h3 : 1 ≤ st) (h4 : st ≤ 4096) :
    Calls Try.prog 66 #[.int .i64 lo, .int .i64 hi, .int .i64 st] w fun e w' => e = .returned (.int .i64 (AdjV.kept lo hi st)) ∧ w = w' := by
 have hkn := AdjV.kept_nonneg h1 h3
 have hkl := AdjV.kept_small h1 h3
 have HM := Lib.hid (fun n => AdjV.kept_more (lo := lo) (hi := hi) (n := n) h3)
 have HD := Lib.hid (fun n => AdjV.kept_done (lo := lo) (hi := hi) (n := n) h3)
 generalize AdjV.kept lo hi st = kk at *
 go_enter Try.func66, Try.ntmps66
 go_wp2_with fail
 go_loop [7, 8] (fun n i => ∃ (m x : Int), n = .int .i64 m ∧ i = .int .i64 x ∧ 0 ≤ m ∧ m ≤ kk ∧ x = lo + m * st ∧ lo ≤ x ∧ x ≤ 8192) (fun n _ => (kk + 1 - intOf n).toNat)
 case atStart => exact ⟨0, lo, rfl, rfl, by omega, hkn, by omega, by omega, by omega⟩
 case round =>
  obtain ⟨m, x, rfl, rfl, hm0, hmk, hx, hx1, hx2⟩ := hrel
  have HX := Lib.hid hx
  clear hx
  by_cases hlt : x < hi
  ·have hnx := HM.out m (by rw [← HX.out]; exact hlt)
   go_wp2_with fail
   go_round
   case rel => exact ⟨m + 1, x + st, rfl, rfl, by omega, by omega, by rw [HX.out, Int.add_mul]; omega, by omega, by omega⟩
   case measure => simp [intOf]; omega
  ·have HE := Lib.hid (HD.out m hmk (by rw [← HX.out]; omega))
   go_wp2_with fail
   go_ret
   exact ⟨by rw [HE.out]; rfl, rfl⟩
set_option maxRecDepth 100000 in
set_option maxHeartbeats 8000000 in
theorem Cut_any (val : Value) (v : AdjV.V) (L I T : Option Addr) (cl ci ct : Nat) (lo hi st : List Int) (B : Nat) (w : World) (hB : B ≤ w.heap.size) (h : Vw.ViewAt w B val v) (hlo : Vw.IntsAt w B L lo) (hhi : Vw.IntsAt w B I hi) (hst : Vw.IntsAt w B T st)
    (ml : lo.length ≤ cl) (ml2 : cl ≤ 9223372036854775807) (mi : hi.length ≤ ci) (mi2 : ci ≤ 9223372036854775807) (mt : st.length ≤ ct) (mt2 : ct ≤ 9223372036854775807) :
    Calls Try.prog 61 #[val, .slice L lo.length cl, .slice I hi.length ci, .slice T st.length ct] w fun e w' => Vw.ViewOut 0 w w' (AdjV.cut v lo hi st) e ∧ Below w.heap.size w w' := by
 have HW := Lib.hid (fun (W : World) (hb : Below w.heap.size w W) => Wrong_any val v B W (Nat.le_trans hB hb.size) (h.below (hb.mono hB)))
 have HLO := Lib.hid hlo
 have HHI := Lib.hid hhi
 have HST := Lib.hid hst
 obtain ⟨A, c, A', c', rfl, hd, hs, c1, c2, c3, c4⟩ := h
 have HD := Lib.hid hd
 have HS := Lib.hid hs
 have HB := Lib.hid ((((Below.refl w.heap.size w).alloc (Nat.le_refl _) (.cells #[.int .i64 v.st, .slice A v.dims.length c, .slice A' v.steps.length c'] 68))).alloc (by simp) (.cells #[.int .i64 0, .slice none 0 0, .slice none 0 0] 68))
 clear hd hs hlo hhi hst
 by_cases h0 : AdjV.wrong v = 0
 rotate_left
 ·have HT := Lib.hid (AdjV.cut_wrong (lo := lo) (hi := hi) (st := st) h0)
  have hq : (AdjV.wrong v != 0) = true := by simpa using h0
  clear h0
  go_enter Try.func61, Try.ntmps61
  go_wp2_with fail
  refine (HW.out _ HB.out).mono ?_
  rintro e w1 ⟨rfl, hb1⟩
  obtain ⟨hc, hf⟩ := bcell hb1
  have hz : w.heap.size + 1 < w1.heap.size := by have := hb1.size; simp at this; omega
  go_wp2_with fail
  refine bodyPost_ret (v := .tuple #[.agg #[.int .i64 0, .slice none 0 0, .slice none 0 0], .int .i64 (AdjV.wrong v)]) (by simp [results, Try.results61, go_sem, hc]) rfl ⟨?_, Vw.three (HB.out.trans (hb1.mono HB.out.size)) (Nat.le_succ _) _ _ _⟩
  rw [HT.out]; exact Vw.out_none _ _ _ _
 have H0 := Lib.hid h0
 obtain ⟨z1, z2, z3, z4⟩ := AdjV.wrong_fine h0
 have hn6 : v.dims.length ≤ 6 := (AdjV.size_fine z1).1
 have HLS := Lib.hid z2
 clear h0 z1 z2 z4
 by_cases hl1 : lo.length = v.dims.length
 rotate_left
 ·have HT := Lib.hid (AdjV.cut_shape (lo := lo) (hi := hi) (st := st) H0.out (.inl hl1))
  have hq1 : ((lo.length : Int) != (v.dims.length : Int)) = true := by simp; omega
  clear hl1
  go_enter Try.func61, Try.ntmps61
  go_wp2_with fail
  refine (HW.out _ HB.out).mono ?_
  rintro e w1 ⟨rfl, hb1⟩
  rw [H0.out]
  obtain ⟨hc, hf⟩ := bcell hb1
  have hz : w.heap.size + 1 < w1.heap.size := by have := hb1.size; simp at this; omega
  go_wp2_with fail
  refine bodyPost_ret (v := .tuple #[.agg #[.int .i64 0, .slice none 0 0, .slice none 0 0], .int .i64 6]) (by simp [results, Try.results61, go_sem, hc]) rfl ⟨?_, Vw.three (HB.out.trans (hb1.mono HB.out.size)) (Nat.le_succ _) _ _ _⟩
  rw [HT.out]; exact Vw.out_none _ _ _ _
 have hq1 : ((lo.length : Int) != (v.dims.length : Int)) = false := by simp; omega
 by_cases hl2 : hi.length = v.dims.length
 rotate_left
 ·have HT := Lib.hid (AdjV.cut_shape (lo := lo) (hi := hi) (st := st) H0.out (.inr (.inl hl2)))
  have hq2 : ((hi.length : Int) != (v.dims.length : Int)) = true := by simp; omega
  clear hl1 hl2
  go_enter Try.func61, Try.ntmps61
  go_wp2_with fail
  refine (HW.out _ HB.out).mono ?_
  rintro e w1 ⟨rfl, hb1⟩
  rw [H0.out]
  obtain ⟨hc, hf⟩ := bcell hb1
  have hz : w.heap.size + 1 < w1.heap.size := by have := hb1.size; simp at this; omega
  go_wp2_with fail
  refine bodyPost_ret (v := .tuple #[.agg #[.int .i64 0, .slice none 0 0, .slice none 0 0], .int .i64 6]) (by simp [results, Try.results61, go_sem, hc]) rfl ⟨?_, Vw.three (HB.out.trans (hb1.mono HB.out.size)) (Nat.le_succ _) _ _ _⟩
  rw [HT.out]; exact Vw.out_none _ _ _ _
 have hq2 : ((hi.length : Int) != (v.dims.length : Int)) = false := by simp; omega
 by_cases hl3 : st.length = v.dims.length
 rotate_left
 ·have HT := Lib.hid (AdjV.cut_shape (lo := lo) (hi := hi) (st := st) H0.out (.inr (.inr hl3)))
  have hq3 : ((st.length : Int) != (v.dims.length : Int)) = true := by simp; omega
  clear hl1 hl2 hl3
  go_enter Try.func61, Try.ntmps61
  go_wp2_with fail
  refine (HW.out _ HB.out).mono ?_
  rintro e w1 ⟨rfl, hb1⟩
  rw [H0.out]
  obtain ⟨hc, hf⟩ := bcell hb1
  have hz : w.heap.size + 1 < w1.heap.size := by have := hb1.size; simp at this; omega
  go_wp2_with fail
  refine bodyPost_ret (v := .tuple #[.agg #[.int .i64 0, .slice none 0 0, .slice none 0 0], .int .i64 6]) (by simp [results, Try.results61, go_sem, hc]) rfl ⟨?_, Vw.three (HB.out.trans (hb1.mono HB.out.size)) (Nat.le_succ _) _ _ _⟩
  rw [HT.out]; exact Vw.out_none _ _ _ _
 have hq3 : ((st.length : Int) != (v.dims.length : Int)) = false := by simp; omega
 have HL3 := Lib.hid (And.intro hl1 (And.intro hl2 hl3))
 clear hl1 hl2 hl3
 go_enter Try.func61, Try.ntmps61
 go_wp2_with fail
 refine (HW.out _ HB.out).mono ?_
 rintro e w1 ⟨rfl, hb1⟩
 rw [H0.out]
 have hx := ((Blk.new w 68 #[.int .i64 v.st, .slice A v.dims.length c, .slice A' v.steps.length c']).alloc (.cells #[.int .i64 0, .slice none 0 0, .slice none 0 0] 68)).below hb1 (by simp; omega)
 have hr := (Vw.blk2 w (.cells #[.int .i64 v.st, .slice A v.dims.length c, .slice A' v.steps.length c'] 68) 68 #[.int .i64 0, .slice none 0 0, .slice none 0 0]).below hb1 (by simp)
 have HX := Lib.hid hx
 have HR := Lib.hid hr
 have HB1 := Lib.hid (HB.out.trans (hb1.mono HB.out.size))
 have hz : w.heap.size + 1 < w1.heap.size := by have := hb1.size; simp at this; omega
 have x0 : w1.cell? ⟨w.heap.size, 0, none⟩ = some (.int .i64 v.st) := hx.cell 0
 have x1 : w1.cell? ⟨w.heap.size, 1, none⟩ = some (.slice A v.dims.length c) := hx.cell 1
 have x2 : w1.cell? ⟨w.heap.size, 2, none⟩ = some (.slice A' v.steps.length c') := hx.cell 2
 have x1a : ∀ o, (w1.alloc o).cell? ⟨w.heap.size, 1, none⟩ = some (.slice A v.dims.length c) := fun o => (HX.out.alloc o).cell 1
 obtain ⟨i0, hi0, hz0, hz1, hz2⟩ := info_parts Try.infoOf3
 clear hb1 hx hr
 go_wp2_with fail
 go_loopw [13, 14, 47] (fun _ _ i wr => ∃ (k : Nat) (v1 v2 : Value), k ≤ v.dims.length ∧ i = .int .i64 (k : Int) ∧ (∀ j, j < k → AdjV.cutB (v.dims.getD j 0) (lo.getD j 0) (hi.getD j 0) (st.getD j 0) = true) ∧
     Vw.Two w1.heap.size w1.heap.size w1 (AdjV.cutSt v lo k) v1 v2 v1 v2 ((AdjV.cutDims v lo hi st).take k) ((AdjV.cutSteps v st).take k) wr) (fun _ _ i _ => v.dims.length + 1 - (intOf i).toNat)
 case atStart => exact ⟨0, _, _, by omega, rfl, fun j h => by omega, Vw.Two.start w1 v.st _ rfl⟩
 case round =>
  obtain ⟨k, v1, v2, hk, rfl, hcb, htwo⟩ := hrel
  obtain ⟨wo, rfl⟩ : ∃ wo : World, wo = wr := ⟨_, rfl⟩
  have HT := Lib.hid htwo
  have HCB := Lib.hid hcb
  have HBO := Lib.hid htwo.below
  have hsz : w1.heap.size < wo.heap.size := htwo.blk.lt
  have hrb := HR.out.below HBO.out (by omega)
  have HBF := Lib.hid (HB1.out.trans (HBO.out.mono HB1.out.size))
  by_cases hlt : k < v.dims.length
  ·have hk1 : k < lo.length := by have := HL3.out.1; omega
   have hk2 : k < hi.length := by have := HL3.out.2.1; omega
   have hk3 : k < st.length := by have := HL3.out.2.2; omega
   have hk4 : k < v.steps.length := by have := HLS.out; omega
   obtain ⟨b, off, rfl, hb, hc⟩ := HD.out (by omega)
   obtain ⟨b', off', rfl, hb', hc'⟩ := HS.out (by omega)
   obtain ⟨lb, loff, rfl, hlb, hlc⟩ := HLO.out (by omega)
   obtain ⟨hb0, hoff, rfl, hhb, hhc⟩ := HHI.out (by omega)
   obtain ⟨sb, soff, rfl, hsb, hsc⟩ := HST.out (by omega)
   have hd1 := (HBF.out.cell (p := ⟨b, off + k, none⟩) (by simp; omega)).trans (hc k hlt)
   have hs1 := (HBF.out.cell (p := ⟨b', off' + k, none⟩) (by simp; omega)).trans (hc' k hk4)
   have hl1 := (HBF.out.cell (p := ⟨lb, loff + k, none⟩) (by simp; omega)).trans (hlc k hk1)
   have hh1 := (HBF.out.cell (p := ⟨hb0, hoff + k, none⟩) (by simp; omega)).trans (hhc k hk2)
   have ht1 := (HBF.out.cell (p := ⟨sb, soff + k, none⟩) (by simp; omega)).trans (hsc k hk3)
   have HBAD := Lib.hid (AdjV.cutAll_bad (v := v) (lo := lo) (hi := hi) (st := st) hlt)
   have hps := AdjV.part_small H0.out hlt hk4
   have HM1 := Lib.hid (AdjV.take_next (AdjV.cutDims v lo hi st) k (by rw [AdjV.cutDims_length]; exact hlt))
   have HM2 := Lib.hid (AdjV.take_next (AdjV.cutSteps v st) k (by rw [AdjV.cutSteps_length]; exact hlt))
   have HA1 := Lib.hid (AdjV.cutDims_at v lo hi st k (by rw [AdjV.cutDims_length]; exact hlt))
   have HA2 := Lib.hid (AdjV.cutSteps_at v st k (by rw [AdjV.cutSteps_length]; exact hlt))
   have HCS := Lib.hid (show AdjV.cutSt v lo (k + 1) = AdjV.cutSt v lo k + lo.getD k 0 * v.steps.getD k 0 from rfl)
   have HNX := Lib.hid (fun (h : AdjV.cutB (v.dims.getD k 0) (lo.getD k 0) (hi.getD k 0) (st.getD k 0) = true) => show ∀ j, j < k + 1 → AdjV.cutB (v.dims.getD j 0) (lo.getD j 0) (hi.getD j 0) (st.getD j 0) = true from fun j hj => by
    by_cases e : j < k
    ·exact HCB.out j e
    ·obtain rfl : j = k := by omega
     exact h)
   rw [AdjV.getD_at v.dims k hlt, AdjV.getD_at lo k hk1, AdjV.getD_at hi k hk2, AdjV.getD_at st k hk3] at HBAD HNX
   rw [AdjV.getD_at lo k hk1, AdjV.getD_at hi k hk2, AdjV.getD_at st k hk3] at HA1
   rw [AdjV.getD_at v.steps k hk4, AdjV.getD_at st k hk3] at HA2
   rw [AdjV.getD_at lo k hk1, AdjV.getD_at v.steps k hk4] at HCS
   have HCSM := Lib.hid (AdjV.cutSt_small (v := v) H0.out (lo := lo) hk (fun j hj => AdjV.cutB_small H0.out (by omega) (hcb j hj)) k (Nat.le_refl _))
   have HCE := Lib.hid (fun (W : World) (hb2 : Below w1.heap.size w1 W) => show W.cell? ⟨b', off' + k, none⟩ = some (.int .i64 v.steps[k]) ∧ W.cell? ⟨lb, loff + k, none⟩ = some (.int .i64 lo[k]) ∧ W.cell? ⟨hb0, hoff + k, none⟩ = some (.int .i64 hi[k]) ∧ W.cell? ⟨sb, soff + k, none⟩ = some (.int .i64 st[k]) ∧
       W.cell? ⟨w.heap.size, 2, none⟩ = some (.slice (some ⟨b', off', none⟩) v.steps.length c') from
    ⟨((HB1.out.trans (hb2.mono HB1.out.size)).cell (p := ⟨b', off' + k, none⟩) (by simp; omega)).trans (hc' k hk4), ((HB1.out.trans (hb2.mono HB1.out.size)).cell (p := ⟨lb, loff + k, none⟩) (by simp; omega)).trans (hlc k hk1),
     ((HB1.out.trans (hb2.mono HB1.out.size)).cell (p := ⟨hb0, hoff + k, none⟩) (by simp; omega)).trans (hhc k hk2), ((HB1.out.trans (hb2.mono HB1.out.size)).cell (p := ⟨sb, soff + k, none⟩) (by simp; omega)).trans (hsc k hk3),
     (hb2.cell (p := ⟨w.heap.size, 2, none⟩) (by simp; omega)).trans x2⟩)
   clear hc hc' hlc hhc hsc hcb
   generalize v.dims[k] = d at hd1 hps HBAD HNX
   generalize v.steps[k] = s at hs1 hps HA2 HCS HCE
   generalize lo[k] = x at hl1 HBAD HNX HA1 HCS HCE
   generalize hi[k] = y at hh1 HBAD HNX HA1 HCE
   generalize st[k] = z at ht1 HBAD HNX HA1 HA2 HCE
   have i1 : (0 : Int) ≤ (k : Int) := by omega
   have i2 : (k : Int) < (v.dims.length : Int) := by omega
   have i3 : (k : Int) < (v.steps.length : Int) := by omega
   have i4 : (k : Int) < (lo.length : Int) := by omega
   have i5 : (k : Int) < (hi.length : Int) := by omega
   have i6 : (k : Int) < (st.length : Int) := by omega
   have r0 : wo.cell? ⟨w.heap.size + 1, 0, none⟩ = some (.int .i64 0) := hrb.cell 0
   have r1 : wo.cell? ⟨w.heap.size + 1, 1, none⟩ = some (.slice none 0 0) := hrb.cell 1
   have r2 : wo.cell? ⟨w.heap.size + 1, 2, none⟩ = some (.slice none 0 0) := hrb.cell 2
   have f0 := hrb.frozen 0
   have f1 := hrb.frozen 1
   have f2 := hrb.frozen 2
   clear hrb htwo
   by_cases q1 : x < 0
   ·have HT := Lib.hid (AdjV.cut_range H0.out HL3.out (HBAD.out (by unfold AdjV.cutB; simp; omega)))
    have gq1 : decide (x < 0) = true := by simpa using q1
    go_wp2_with fail
    go_quiet (fail)
    go_wp2_with fail
    refine bodyPost_ret (v := .tuple #[.agg #[.int .i64 0, .slice none 0 0, .slice none 0 0], .int .i64 4]) (by simp [results, Try.results61, go_sem, r0, r1, r2]) rfl ⟨?_, Vw.three (below_drewN HBF.out nq) (Nat.le_succ _) _ _ _⟩
    rw [HT.out]; exact Vw.out_none _ _ _ _
   have gq1 : decide (x < 0) = false := by simpa using q1
   by_cases q2 : y < x
   ·have HT := Lib.hid (AdjV.cut_range H0.out HL3.out (HBAD.out (by unfold AdjV.cutB; simp; omega)))
    have gq2 : decide (y < x) = true := by simpa using q2
    go_wp2_with fail
    go_quiet (fail)
    go_wp2_with fail
    refine bodyPost_ret (v := .tuple #[.agg #[.int .i64 0, .slice none 0 0, .slice none 0 0], .int .i64 4]) (by simp [results, Try.results61, go_sem, r0, r1, r2]) rfl ⟨?_, Vw.three (below_drewN HBF.out nq) (Nat.le_succ _) _ _ _⟩
    rw [HT.out]; exact Vw.out_none _ _ _ _
   have gq2 : decide (y < x) = false := by simpa using q2
   by_cases q3 : d < y
   ·have HT := Lib.hid (AdjV.cut_range H0.out HL3.out (HBAD.out (by unfold AdjV.cutB; simp; omega)))
    have gq3 : decide (d < y) = true := by simpa using q3
    go_wp2_with fail
    go_quiet (fail)
    go_wp2_with fail
    refine bodyPost_ret (v := .tuple #[.agg #[.int .i64 0, .slice none 0 0, .slice none 0 0], .int .i64 4]) (by simp [results, Try.results61, go_sem, r0, r1, r2]) rfl ⟨?_, Vw.three (below_drewN HBF.out nq) (Nat.le_succ _) _ _ _⟩
    rw [HT.out]; exact Vw.out_none _ _ _ _
   have gq3 : decide (d < y) = false := by simpa using q3
   by_cases q4 : z < 1
   ·have HT := Lib.hid (AdjV.cut_range H0.out HL3.out (HBAD.out (by unfold AdjV.cutB; simp; omega)))
    have gq4 : decide (z < 1) = true := by simpa using q4
    go_wp2_with fail
    go_quiet (fail)
    go_wp2_with fail
    refine bodyPost_ret (v := .tuple #[.agg #[.int .i64 0, .slice none 0 0, .slice none 0 0], .int .i64 4]) (by simp [results, Try.results61, go_sem, r0, r1, r2]) rfl ⟨?_, Vw.three (below_drewN HBF.out nq) (Nat.le_succ _) _ _ _⟩
    rw [HT.out]; exact Vw.out_none _ _ _ _
   have gq4 : decide (z < 1) = false := by simpa using q4
   by_cases q5 : 4096 < z
   ·have HT := Lib.hid (AdjV.cut_range H0.out HL3.out (HBAD.out (by unfold AdjV.cutB; simp; omega)))
    have gq5 : decide (4096 < z) = true := by simpa using q5
    go_wp2_with fail
    go_quiet (fail)
    go_wp2_with fail
    refine bodyPost_ret (v := .tuple #[.agg #[.int .i64 0, .slice none 0 0, .slice none 0 0], .int .i64 4]) (by simp [results, Try.results61, go_sem, r0, r1, r2]) rfl ⟨?_, Vw.three (below_drewN HBF.out nq) (Nat.le_succ _) _ _ _⟩
    rw [HT.out]; exact Vw.out_none _ _ _ _
   have gq5 : decide (4096 < z) = false := by simpa using q5
   have HOKK := Lib.hid (HNX.out (AdjV.cutB_true.2 ⟨by omega, by omega, by omega, by omega, by omega⟩))
   clear r0 r1 r2 f0 f1 f2
   go_wp2_with fail
   go_quiet (fail)
   go_wp2_with fail
   clear hd1 hs1 hl1 hh1 ht1
   obtain ⟨A1, n1, rfl, hn1⟩ := Vw.own_any HT.out.own1
   obtain ⟨A2, n2, rfl, hn2⟩ := Vw.own_any HT.out.own2
   have hcs := HCSM.out
   have HT2 := Lib.hid (HT.out.drewN nq)
   have hlk1 : ((AdjV.cutDims v lo hi st).take k).length = k := by rw [List.length_take, AdjV.cutDims_length]; omega
   have hlk2 : ((AdjV.cutSteps v st).take k).length = k := by rw [List.length_take, AdjV.cutSteps_length]; omega
   generalize wo.drewN nq = W2 at HT2 ⊢
   generalize AdjV.cutSt v lo k = st0 at hcs HCS HT HT2
   generalize (AdjV.cutDims v lo hi st).take k = xs at hlk1 HM1 HT HT2 hn1
   generalize (AdjV.cutSteps v st).take k = ys at hlk2 HM2 HT HT2 hn2
   have HL1 := Lib.hid hlk1
   have HL2 := Lib.hid hlk2
   clear hlk1 hlk2 HT hsz HBO HBF
   obtain ⟨t1, t2, t3, t4, t5⟩ := HCE.out W2 HT2.out.below
   have e0 : W2.cell? ⟨w1.heap.size, 0, none⟩ = some (.int .i64 st0) := HT2.out.blk.cell 0
   have g0 := HT2.out.blk.frozen 0
   have hsm := AdjV.mul_small (a := x) (b := s) (by omega) (by omega) hps.2.2.1 hps.2.2.2.1
   generalize hP : x * s = pr at *
   have hw1 : IntKind.i64.wrap pr = pr := IntWalk.i64_in _ (by omega)
   have hw2 : IntKind.i64.wrap (st0 + pr) = st0 + pr := IntWalk.i64_in _ (by omega)
   refine wp_region_T (fun w' => w'.cell? ⟨w1.heap.size, 0, none⟩ = some (.int .i64 st0) ∧ w'.cell? ⟨lb, loff + k, none⟩ = some (.int .i64 x) ∧ w'.cell? ⟨w.heap.size, 2, none⟩ = some (.slice (some ⟨b', off', none⟩) v.steps.length c') ∧ w'.cell? ⟨b', off' + k, none⟩ = some (.int .i64 s)) 13 (fun _ => True) 13 15 rfl (by kernel_rfl) ⟨⟨e0, t2, t5, t1⟩, trivial⟩ (fun hHeld => ?_)
   simp only [List.replicate_succ, List.replicate_zero]
   refine tk (v := ?_) [] 0 91 hHeld ?_ ?_; rotate_left; (intro w h; (try dsimp only at h); go_simp; try with_reducible rfl); try simp only [Act.put, zA, zB, zC]
   refine tk (v := ?_) [] 1 92 hHeld ?_ ?_; rotate_left; (intro w h; (try dsimp only at h); go_simp; try with_reducible rfl); try simp only [Act.put, zA, zB, zC]
   refine tk (v := ?_) [] 2 93 hHeld ?_ ?_; rotate_left; (intro w h; (try dsimp only at h); go_simp; try with_reducible rfl); try simp only [Act.put, zA, zB, zC]
   refine tk (v := ?_) [] 3 94 hHeld ?_ ?_; rotate_left; (intro w h; (try dsimp only at h); go_simp; try with_reducible rfl); try simp only [Act.put, zA, zB, zC]
   refine tk (v := ?_) [] 4 95 hHeld ?_ ?_; rotate_left; (intro w h; (try dsimp only at h); go_simp; try with_reducible rfl); try simp only [Act.put, zA, zB, zC]
   refine tk (v := ?_) [] 5 96 hHeld ?_ ?_; rotate_left; (intro w h; (try dsimp only at h); go_simp; try with_reducible rfl); try simp only [Act.put, zA, zB, zC]
   refine tk (v := ?_) [] 6 97 hHeld ?_ ?_; rotate_left; (intro w h; (try dsimp only at h); go_simp; try with_reducible rfl); try simp only [Act.put, zA, zB, zC]
   refine tk (v := ?_) [] 7 98 hHeld ?_ ?_; rotate_left; (intro w h; (try dsimp only at h); go_simp; try with_reducible rfl); try simp only [Act.put, zA, zB, zC]
   refine tk (v := ?_) [] 8 99 hHeld ?_ ?_; rotate_left; (intro w h; (try dsimp only at h); go_simp; try with_reducible rfl); try simp only [Act.put, zA, zB, zC]
   refine tk (v := ?_) [] 9 100 hHeld ?_ ?_; rotate_left; (intro w h; (try dsimp only at h); go_simp; try with_reducible rfl); try simp only [Act.put, zA, zB, zC]
   refine tk (v := ?_) [] 10 101 hHeld ?_ ?_; rotate_left; (intro w h; (try dsimp only at h); go_simp; try with_reducible rfl); try simp only [Act.put, zA, zB, zC]
   refine tk (v := ?_) [] 11 102 hHeld ?_ ?_; rotate_left; (intro w h; (try dsimp only at h); go_simp; try with_reducible rfl); try simp only [Act.put, zA, zB, zC]
   refine tk (v := ?_) [] 12 103 hHeld ?_ ?_; rotate_left; (intro w h; (try dsimp only at h); go_simp; try with_reducible rfl); try simp only [Act.put, zA, zB, zC]
   refine wpT_tail [_, _] 13 [14] rfl (by kernel_rfl) ?_
   have HT3 := Lib.hid (HT2.out.set0 (st0 + pr)).drew
   clear hHeld
   go_wp2_with fail
   generalize (W2.setCell ⟨w1.heap.size, 0, none⟩ (.int .i64 (st0 + pr))).drew = W3 at HT3 ⊢
   clear t1 t2 t3 t4 t5 e0 g0 HT2 hw1 hw2
   obtain ⟨t1, t2, t3, t4, t5⟩ := HCE.out W3 HT3.out.below
   have e1 : W3.cell? ⟨w1.heap.size, 1, none⟩ = some (.slice A1 k n1) := by rw [← HL1.out]; exact HT3.out.blk.cell 1
   have hsz : w1.heap.size < W3.heap.size := HT3.out.blk.lt
   have hw1 : IntKind.i64.wrap (y - x) = y - x := IntWalk.i64_in _ (by omega)
   have hw2 : IntKind.i64.wrap (y - x + z) = y - x + z := IntWalk.i64_in _ (by omega)
   have hw3 : IntKind.i64.wrap (y - x + z - 1) = y - x + z - 1 := IntWalk.i64_in _ (by omega)
   have hkt := AdjV.kept_tdiv (lo := x) (hi := y) (st := z) (by omega) (by omega)
   have hkn := AdjV.kept_nonneg (lo := x) (hi := y) (st := z) (by omega) (by omega)
   have hks := AdjV.kept_small (lo := x) (hi := y) (st := z) (by omega) (by omega)
   generalize AdjV.kept x y z = kk at hkt hkn hks HA1
   have hw4 : IntKind.i64.wrap kk = kk := IntWalk.i64_in _ (by omega)
   have hz00 : z ≠ 0 := by omega
   refine wp_region_T (fun w' => w'.cell? ⟨w1.heap.size, 1, none⟩ = some (.slice A1 k n1) ∧ w'.cell? ⟨hb0, hoff + k, none⟩ = some (.int .i64 y) ∧ w'.cell? ⟨lb, loff + k, none⟩ = some (.int .i64 x) ∧ w'.cell? ⟨sb, soff + k, none⟩ = some (.int .i64 z)) 24 (fun _ => True) 24 26 rfl (by kernel_rfl) ⟨⟨e1, t3, t2, t4⟩, trivial⟩ (fun hHeld => ?_)
   simp only [List.replicate_succ, List.replicate_zero]
   refine tk (v := ?_) [] 0 105 hHeld ?_ ?_; rotate_left; (intro w h; (try dsimp only at h); go_simp; try with_reducible rfl); try simp only [Act.put, zA, zB, zC]
   refine tk (v := ?_) [] 1 106 hHeld ?_ ?_; rotate_left; (intro w h; (try dsimp only at h); go_simp; try with_reducible rfl); try simp only [Act.put, zA, zB, zC]
   refine tk (v := ?_) [] 2 107 hHeld ?_ ?_; rotate_left; (intro w h; (try dsimp only at h); go_simp; try with_reducible rfl); try simp only [Act.put, zA, zB, zC]
   refine tk (v := ?_) [] 3 108 hHeld ?_ ?_; rotate_left; (intro w h; (try dsimp only at h); go_simp; try with_reducible rfl); try simp only [Act.put, zA, zB, zC]
   refine tk (v := ?_) [] 4 109 hHeld ?_ ?_; rotate_left; (intro w h; (try dsimp only at h); go_simp; try with_reducible rfl); try simp only [Act.put, zA, zB, zC]
   refine tk (v := ?_) [] 5 110 hHeld ?_ ?_; rotate_left; (intro w h; (try dsimp only at h); go_simp; try with_reducible rfl); try simp only [Act.put, zA, zB, zC]
   refine tk (v := ?_) [] 6 111 hHeld ?_ ?_; rotate_left; (intro w h; (try dsimp only at h); go_simp; try with_reducible rfl); try simp only [Act.put, zA, zB, zC]
   refine tk (v := ?_) [] 7 112 hHeld ?_ ?_; rotate_left; (intro w h; (try dsimp only at h); go_simp; try with_reducible rfl); try simp only [Act.put, zA, zB, zC]
   refine tk (v := ?_) [] 8 113 hHeld ?_ ?_; rotate_left; (intro w h; (try dsimp only at h); go_simp; try with_reducible rfl); try simp only [Act.put, zA, zB, zC]
   refine tk (v := ?_) [] 9 114 hHeld ?_ ?_; rotate_left; (intro w h; (try dsimp only at h); go_simp; try with_reducible rfl); try simp only [Act.put, zA, zB, zC]
   refine tk (v := ?_) [] 10 115 hHeld ?_ ?_; rotate_left; (intro w h; (try dsimp only at h); go_simp; try with_reducible rfl); try simp only [Act.put, zA, zB, zC]
   refine tk (v := ?_) [] 11 116 hHeld ?_ ?_; rotate_left; (intro w h; (try dsimp only at h); go_simp; try with_reducible rfl); try simp only [Act.put, zA, zB, zC]
   refine tk (v := ?_) [] 12 117 hHeld ?_ ?_; rotate_left; (intro w h; (try dsimp only at h); go_simp; try with_reducible rfl); try simp only [Act.put, zA, zB, zC]
   refine tk (v := ?_) [] 13 118 hHeld ?_ ?_; rotate_left; (intro w h; (try dsimp only at h); go_simp; try with_reducible rfl); try simp only [Act.put, zA, zB, zC]
   refine tk (v := ?_) [] 14 119 hHeld ?_ ?_; rotate_left; (intro w h; (try dsimp only at h); go_simp; try with_reducible rfl); try simp only [Act.put, zA, zB, zC]
   refine tk (v := ?_) [] 15 120 hHeld ?_ ?_; rotate_left; (intro w h; (try dsimp only at h); go_simp; try with_reducible rfl); try simp only [Act.put, zA, zB, zC]
   refine tk (v := ?_) [] 16 121 hHeld ?_ ?_; rotate_left; (intro w h; (try dsimp only at h); go_simp; try with_reducible rfl); try simp only [Act.put, zA, zB, zC]
   refine tk (v := ?_) [] 17 122 hHeld ?_ ?_; rotate_left; (intro w h; (try dsimp only at h); go_simp; try with_reducible rfl); try simp only [Act.put, zA, zB, zC]
   refine tk (v := ?_) [] 18 123 hHeld ?_ ?_; rotate_left; (intro w h; (try dsimp only at h); go_simp; try with_reducible rfl); try simp only [Act.put, zA, zB, zC]
   refine tk (v := ?_) [] 19 124 hHeld ?_ ?_; rotate_left; (intro w h; (try dsimp only at h); go_simp; try with_reducible rfl); try simp only [Act.put, zA, zB, zC]
   refine tk (v := ?_) [] 20 125 hHeld ?_ ?_; rotate_left; (intro w h; (try dsimp only at h); go_simp; try with_reducible rfl); try simp only [Act.put, zA, zB, zC]
   refine tk (v := ?_) [] 21 126 hHeld ?_ ?_; rotate_left; (intro w h; (try dsimp only at h); go_simp; try with_reducible rfl); try simp only [Act.put, zA, zB, zC]
   refine wpT_one 22 (by kernel_rfl) (stepT_early rfl rfl (fun K hK => ?_))
   go_simp
   refine hK.out _ _ ?_ (fun hHeld2 => ?_)
   ·exact ⟨⟨by go_keep, by go_keep, by go_keep, by go_keep⟩, trivial⟩
   clear hK K hHeld
   try simp only [zA, zB, zC]
   refine wpT_one 23 (by kernel_rfl) (stepT_early rfl rfl (fun K hK => ?_))
   have hsz1 : w1.heap.size < W3.heap.size := HT3.out.blk.lt
   have HOW := Lib.hid (show ((W3.alloc (.cells #[.int .i64 kk] 3)).drew).ownsRow (w1.heap.size + 1) 3 1 (.slice A1 k n1) k (ints xs) by have h := ((HT3.out.alloc (.cells #[.int .i64 kk] 3)).drew).own1; rw [HL1.out] at h; exact h)
   refine wp_append_lies _ _ _ _ (by rfl) (w1.heap.size + 1) 3 i0 _ 1 8 Try.underlying23 hi0 hz0 hz1 hz2 rfl (by omega) (.slice A1 k n1) k (ints xs) (by rfl) HOW.out ⟨W3.heap.size, 0, none⟩ 1 1 [.int .i64 kk] (by rfl) (by rfl) (World.news_of_block (cs := #[.int .i64 kk]) (t := 3) (fr := (0, 0)) ((Vw.blkn W3 W3.heap.size rfl 3 #[.int .i64 kk]).drew)) (Adj.one_one _ _) (by omega) (by unfold maxLen; omega) (by omega) (by simp; omega) (W3.heap.size + 1) (by simp) ?_
   intro gg capg w3 hown1 hgrow hat hltg
   refine hK.out _ _ ?_ (fun hHeld => ?_)
   ·exact ⟨⟨(hgrow.cell_far _ (by simp; omega) (Ne.symm (Vw.own_ne HOW.out (by simp)))).trans (by go_keep), (hgrow.cell_far _ (by simp; omega) (Ne.symm (Vw.own_ne HOW.out (by simp; omega)))).trans (by go_keep), (hgrow.cell_far _ (by simp; omega) (Ne.symm (Vw.own_ne HOW.out (by simp; omega)))).trans (by go_keep), (hgrow.cell_far _ (by simp; omega) (Ne.symm (Vw.own_ne HOW.out (by simp; omega)))).trans (by go_keep)⟩, trivial⟩
   clear hK K hHeld2
   try simp only [zA, zB, zC]
   refine wpT_tail [_, _] 24 [25] rfl (by kernel_rfl) ?_
   rw [← HL1.out] at hown1 hgrow hat
   have HTA := Lib.hid (((HT3.out.alloc _).drew).app1 hown1 hgrow hat (by simp))
   have hws : w1.heap.size < w3.heap.size := HTA.out.blk.lt
   have b1 : w3.cell? ⟨w1.heap.size, 1, none⟩ = some (.slice A1 k n1) := by rw [← HL1.out]; exact HTA.out.blk.cell 1
   have b2 := HTA.out.blk.frozen 1
   have HTB := Lib.hid (HTA.out.set1 (.slice (some ⟨gg, 0, none⟩) (xs.length + 1) capg))
   rw [HL1.out] at HTB
   clear hown1 hgrow hat hHeld
   go_wp2_with fail
   have HT4 := Lib.hid HTB.out
   generalize w3.setCell ⟨w1.heap.size, 1, none⟩ (.slice (some ⟨gg, 0, none⟩) (k + 1) capg) = W4 at HT4 ⊢
   clear HTB HTA b1 b2 hws HOW t1 t2 t3 t4 t5 e1 hw1 hw2 hw3 hw4 hkt hkn hks HT3
   obtain ⟨t1, t2, t3, t4, t5⟩ := HCE.out W4 HT4.out.below
   have e2 : W4.cell? ⟨w1.heap.size, 2, none⟩ = some (.slice A2 k n2) := by rw [← HL2.out]; exact HT4.out.blk.cell 2
   have hsz4 : w1.heap.size < W4.heap.size := HT4.out.blk.lt
   have hsm2 := AdjV.mul_small (a := z) (b := s) (by omega) (by omega) hps.2.2.1 hps.2.2.2.1
   rw [Int.mul_comm] at hsm2
   generalize hP2 : s * z = pz at hsm2 HA2
   have hw1 : IntKind.i64.wrap pz = pz := IntWalk.i64_in _ (by omega)
   refine wp_region_T (fun w' => w'.cell? ⟨w1.heap.size, 2, none⟩ = some (.slice A2 k n2) ∧ w'.cell? ⟨w.heap.size, 2, none⟩ = some (.slice (some ⟨b', off', none⟩) v.steps.length c') ∧ w'.cell? ⟨b', off' + k, none⟩ = some (.int .i64 s) ∧ w'.cell? ⟨sb, soff + k, none⟩ = some (.int .i64 z)) 14 (fun _ => True) 14 16 rfl (by kernel_rfl) ⟨⟨e2, t5, t1, t4⟩, trivial⟩ (fun hHeld => ?_)
   simp only [List.replicate_succ, List.replicate_zero]
   refine tk (v := ?_) [] 0 130 hHeld ?_ ?_; rotate_left; (intro w h; (try dsimp only at h); go_simp; try with_reducible rfl); try simp only [Act.put, zA, zB, zC]
   refine tk (v := ?_) [] 1 131 hHeld ?_ ?_; rotate_left; (intro w h; (try dsimp only at h); go_simp; try with_reducible rfl); try simp only [Act.put, zA, zB, zC]
   refine tk (v := ?_) [] 2 132 hHeld ?_ ?_; rotate_left; (intro w h; (try dsimp only at h); go_simp; try with_reducible rfl); try simp only [Act.put, zA, zB, zC]
   refine tk (v := ?_) [] 3 133 hHeld ?_ ?_; rotate_left; (intro w h; (try dsimp only at h); go_simp; try with_reducible rfl); try simp only [Act.put, zA, zB, zC]
   refine tk (v := ?_) [] 4 134 hHeld ?_ ?_; rotate_left; (intro w h; (try dsimp only at h); go_simp; try with_reducible rfl); try simp only [Act.put, zA, zB, zC]
   refine tk (v := ?_) [] 5 135 hHeld ?_ ?_; rotate_left; (intro w h; (try dsimp only at h); go_simp; try with_reducible rfl); try simp only [Act.put, zA, zB, zC]
   refine tk (v := ?_) [] 6 136 hHeld ?_ ?_; rotate_left; (intro w h; (try dsimp only at h); go_simp; try with_reducible rfl); try simp only [Act.put, zA, zB, zC]
   refine tk (v := ?_) [] 7 137 hHeld ?_ ?_; rotate_left; (intro w h; (try dsimp only at h); go_simp; try with_reducible rfl); try simp only [Act.put, zA, zB, zC]
   refine tk (v := ?_) [] 8 138 hHeld ?_ ?_; rotate_left; (intro w h; (try dsimp only at h); go_simp; try with_reducible rfl); try simp only [Act.put, zA, zB, zC]
   refine tk (v := ?_) [] 9 139 hHeld ?_ ?_; rotate_left; (intro w h; (try dsimp only at h); go_simp; try with_reducible rfl); try simp only [Act.put, zA, zB, zC]
   refine tk (v := ?_) [] 10 140 hHeld ?_ ?_; rotate_left; (intro w h; (try dsimp only at h); go_simp; try with_reducible rfl); try simp only [Act.put, zA, zB, zC]
   refine tk (v := ?_) [] 11 141 hHeld ?_ ?_; rotate_left; (intro w h; (try dsimp only at h); go_simp; try with_reducible rfl); try simp only [Act.put, zA, zB, zC]
   refine wpT_one 12 (by kernel_rfl) (stepT_early rfl rfl (fun K hK => ?_))
   go_simp
   refine hK.out _ _ ?_ (fun hHeld2 => ?_)
   ·exact ⟨⟨by go_keep, by go_keep, by go_keep, by go_keep⟩, trivial⟩
   clear hK K hHeld
   try simp only [zA, zB, zC]
   refine wpT_one 13 (by kernel_rfl) (stepT_early rfl rfl (fun K hK => ?_))
   have hsz2 : w1.heap.size < W4.heap.size := HT4.out.blk.lt
   have HOW := Lib.hid (show ((W4.alloc (.cells #[.int .i64 pz] 3)).drew).ownsRow (w1.heap.size + 1) 3 1 (.slice A2 k n2) k (ints ys) by have h := ((HT4.out.alloc (.cells #[.int .i64 pz] 3)).drew).own2; rw [HL2.out] at h; exact h)
   refine wp_append_lies _ _ _ _ (by rfl) (w1.heap.size + 1) 3 i0 _ 1 8 Try.underlying23 hi0 hz0 hz1 hz2 rfl (by omega) (.slice A2 k n2) k (ints ys) (by rfl) HOW.out ⟨W4.heap.size, 0, none⟩ 1 1 [.int .i64 pz] (by rfl) (by rfl) (World.news_of_block (cs := #[.int .i64 pz]) (t := 3) (fr := (0, 0)) ((Vw.blkn W4 W4.heap.size rfl 3 #[.int .i64 pz]).drew)) (Adj.one_one _ _) (by omega) (by unfold maxLen; omega) (by omega) (by simp; omega) (W4.heap.size + 1) (by simp) ?_
   intro gg capg w3 hown1 hgrow hat hltg
   refine hK.out _ _ ?_ (fun hHeld => ?_)
   ·exact ⟨⟨(hgrow.cell_far _ (by simp; omega) (Ne.symm (Vw.own_ne HOW.out (by simp)))).trans (by go_keep), (hgrow.cell_far _ (by simp; omega) (Ne.symm (Vw.own_ne HOW.out (by simp; omega)))).trans (by go_keep), (hgrow.cell_far _ (by simp; omega) (Ne.symm (Vw.own_ne HOW.out (by simp; omega)))).trans (by go_keep), (hgrow.cell_far _ (by simp; omega) (Ne.symm (Vw.own_ne HOW.out (by simp; omega)))).trans (by go_keep)⟩, trivial⟩
   clear hK K hHeld2
   try simp only [zA, zB, zC]
   refine wpT_tail [_, _] 14 [15] rfl (by kernel_rfl) ?_
   rw [← HL2.out] at hown1 hgrow hat
   have HTA := Lib.hid (((HT4.out.alloc _).drew).app2 hown1 hgrow hat (by simp))
   have hws : w1.heap.size < w3.heap.size := HTA.out.blk.lt
   have b1 : w3.cell? ⟨w1.heap.size, 2, none⟩ = some (.slice A2 k n2) := by rw [← HL2.out]; exact HTA.out.blk.cell 2
   have b2 := HTA.out.blk.frozen 2
   have HTB := Lib.hid (HTA.out.set2 (.slice (some ⟨gg, 0, none⟩) (ys.length + 1) capg))
   rw [HL2.out] at HTB
   clear hown1 hgrow hat hHeld
   go_wp2_with fail
   first
    | exact ⟨⟨k + 1, _, _, by omega, by go_num, HOKK.out, by rw [HM1.out, HM2.out, HA1.out, HA2.out, HCS.out]; exact HTB.out⟩, by simp [intOf]; omega⟩
    | (go_roundw
       case rel => exact ⟨k + 1, _, _, by omega, by go_num, HOKK.out, by rw [HM1.out, HM2.out, HA1.out, HA2.out, HCS.out]; exact HTB.out⟩
       case measure => simp [intOf]; omega)
  ·obtain rfl : k = v.dims.length := by omega
   clear hrb
   have hall := AdjV.cutAll_of hcb
   have HFL := Lib.hid (AdjV.cut_ok H0.out HL3.out hall)
   have htw := AdjV.cut_two (lo := lo) (hi := hi) (st := st) H0.out hall (AdjV.cutSt v lo v.dims.length)
   rw [List.take_of_length_le (by rw [AdjV.cutDims_length]; omega), List.take_of_length_le (by rw [AdjV.cutSteps_length]; omega)] at htwo
   obtain ⟨A1, n1, hv1, ia1, la1, ma1, ga1⟩ := Vw.own_view htwo.own1
   obtain ⟨A2, n2, hv2, ia2, la2, ma2, ga2⟩ := Vw.own_view htwo.own2
   subst hv1 hv2
   have hr := HR.out.below HBO.out (by omega)
   have e0 : wo.cell? ⟨w1.heap.size, 0, none⟩ = some (.int .i64 (AdjV.cutSt v lo v.dims.length)) := htwo.blk.cell 0
   have e1 : wo.cell? ⟨w1.heap.size, 1, none⟩ = some (.slice A1 (AdjV.cutDims v lo hi st).length n1) := htwo.blk.cell 1
   have e2 : wo.cell? ⟨w1.heap.size, 2, none⟩ = some (.slice A2 (AdjV.cutSteps v st).length n2) := htwo.blk.cell 2
   have HVA := Lib.hid (show Vw.ViewAt wo wo.heap.size (.agg #[.int .i64 (AdjV.cutSt v lo v.dims.length), .slice A1 (AdjV.cutDims v lo hi st).length n1, .slice A2 (AdjV.cutSteps v st).length n2]) ⟨AdjV.cutSt v lo v.dims.length, AdjV.cutDims v lo hi st, AdjV.cutSteps v st⟩ from
    ⟨_, _, _, _, rfl, ia1, ia2, la1, ma1, la2, ma2⟩)
   have HMD := Lib.hid (done_any _ _ _ wo (Nat.le_refl _) HVA.out)
   have HRR := Lib.hid hr
   have HGA := Lib.hid (And.intro ga1 ga2)
   have HMK := Lib.hid (fun (h : AdjV.wrong ⟨AdjV.cutSt v lo v.dims.length, AdjV.cutDims v lo hi st, AdjV.cutSteps v st⟩ = 4) => HFL.out.trans (if_pos h))
   have HMK' := Lib.hid (fun (h : AdjV.wrong ⟨AdjV.cutSt v lo v.dims.length, AdjV.cutDims v lo hi st, AdjV.cutSteps v st⟩ ≠ 4) => HFL.out.trans (if_neg h))
   clear htwo hr ia1 ia2 ga1 ga2 HT hcb HCB hall htw
   generalize AdjV.cutSt v lo v.dims.length = st' at *
   generalize AdjV.cutDims v lo hi st = xs at *
   generalize AdjV.cutSteps v st = ys at *
   go_wp2_with fail
   refine HMD.out.mono ?_
   rintro e w4 ⟨rfl, hb4⟩
   have hr4 := HRR.out.below hb4 HRR.out.lt
   have r0 : w4.cell? ⟨w.heap.size + 1, 0, none⟩ = some (.int .i64 0) := hr4.cell 0
   have r1 : w4.cell? ⟨w.heap.size + 1, 1, none⟩ = some (.slice none 0 0) := hr4.cell 1
   have r2 : w4.cell? ⟨w.heap.size + 1, 2, none⟩ = some (.slice none 0 0) := hr4.cell 2
   have f0 := hr4.frozen 0
   have f1 := hr4.frozen 1
   have f2 := hr4.frozen 2
   have HBX := Lib.hid (fun x y z => Vw.three (HBF.out.trans (hb4.mono HBF.out.size)) (Nat.le_succ w.heap.size) x y z)
   have HV4 := Lib.hid (HVA.out.below hb4)
   have hlt4 : wo.heap.size ≤ w4.heap.size := hb4.size
   have hlt5 : w.heap.size + 1 < wo.heap.size := HRR.out.lt
   clear hr4 hb4
   by_cases h4 : AdjV.wrong ⟨st', xs, ys⟩ = 4
   ·have HT := Lib.hid (HMK.out h4)
    rw [show Vw.madeR (.agg #[.int .i64 st', .slice A1 xs.length n1, .slice A2 ys.length n2]) ⟨st', xs, ys⟩ = .tuple #[.agg #[.int .i64 0, .slice none 0 0, .slice none 0 0], .int .i64 5] from if_pos h4]
    clear h4
    go_wp2_with fail
    refine bodyPost_ret (v := .tuple #[.agg #[.int .i64 0, .slice none 0 0, .slice none 0 0], .int .i64 5]) (by simp [results, Try.results61, go_sem, r0, r1, r2]) rfl ⟨?_, HBX.out _ _ _⟩
    rw [HT.out]; exact Vw.out_none _ _ _ _
   ·have HT := Lib.hid (HMK'.out h4)
    rw [show Vw.madeR (.agg #[.int .i64 st', .slice A1 xs.length n1, .slice A2 ys.length n2]) ⟨st', xs, ys⟩ = .tuple #[.agg #[.int .i64 st', .slice A1 xs.length n1, .slice A2 ys.length n2], .int .i64 0] from if_neg h4]
    clear h4
    go_wp2_with fail
    refine bodyPost_ret (v := .tuple #[.agg #[.int .i64 st', .slice A1 xs.length n1, .slice A2 ys.length n2], .int .i64 0]) (by simp [results, Try.results61, go_sem, r0, r1, r2]) rfl ⟨?_, HBX.out _ _ _⟩
    rw [HT.out]
    exact Vw.out_mk (Vw.view_set3 HV4.out (cc := w.heap.size + 1) rfl (fun b off e hp => by have := HGA.out.1 b off e hp; omega) (fun b off e hp => by have := HGA.out.2 b off e hp; omega) (by simp; omega) _ _ _) (fun b off e hp => by have := HGA.out.1 b off e hp; omega) (fun b off e hp => by have := HGA.out.2 b off e hp; omega)
end Go.Proofs.Ytapedmpbkffopaa
end
