/-
  The walks of the reference's Wrong and made, of done, of sameView. Conditions: the views can be read.
-/
import Derived.Test.YtkbmnefjnfihbaaViewI
namespace Go.Proofs.Ytkbmnefjnfihbaa
set_option linter.unusedVariables false
open Go.RowKit Adj

set_option maxHeartbeats 2000000 in
theorem refWrong_any (val : Value) (v : AdjV.V) (B : Nat) (w : World) (hB : B ≤ w.heap.size) (h : Vw.ViewAt w B val v) :
    Calls Try.prog 23 #[val] w fun e w' => e = .returned (.int .i64 (AdjV.wrong v)) ∧ Below w.heap.size w w' := by
  obtain ⟨A, c, A', c', rfl, hd, hs, c1, c2, c3, c4⟩ := h
  have hbel : Below w.heap.size w (w.alloc (.cells #[.int .i64 v.st, .slice A v.dims.length c, .slice A' v.steps.length c'] 34)) := (Below.refl _ _).alloc (Nat.le_refl _) _
  have HB := Lib.hid hbel
  have HSZ := Lib.hid (refSize_any A c v.dims B _ (by omega) (hd.below (hbel.mono hB)))
  have HS := Lib.hid (hs.below (hbel.mono hB))
  clear hd hs hbel
  by_cases h0 : (AdjV.size v.dims).2 = 0
  · have hR : Vw.sizeR v.dims = .tuple #[.int .i64 (AdjV.size v.dims).1, .int .i64 0] := by unfold Vw.sizeR; rw [h0]
    have HR := Lib.hid hR
    have H0 := Lib.hid h0
    clear hR h0
    by_cases hlen : v.steps.length = v.dims.length
    · have hq : ((v.steps.length : Int) != (v.dims.length : Int)) = false := by simp; omega
      have HLEN := Lib.hid hlen
      clear hlen
      by_cases hst : AdjV.near v.st = true
      · have HST := Lib.hid (show (!AdjV.near v.st) = false by rw [hst]; rfl)
        have HN := Lib.hid hst
        clear hst
        go_enter Try.func23, Try.ntmps23
        go_wp2_with fail
        refine HSZ.out.mono ?_
        rintro e w1 ⟨rfl, rfl⟩
        rw [HR.out]
        go_wp2_with fail
        refine (far_any _ _).mono ?_
        rintro e w1 ⟨rfl, rfl⟩
        rw [HST.out]
        go_wp2_with fail
        go_loop [6, 29] (fun _ i => ∃ k : Nat, k ≤ v.steps.length ∧ i = .int .i64 (k : Int) ∧ (v.steps.take k).any (fun s => !AdjV.near s) = false) (fun _ i => v.steps.length + 1 - (intOf i).toNat)
        case atStart => exact ⟨0, by omega, rfl, by simp⟩
        case round =>
          obtain ⟨k, hk, rfl, hno⟩ := hrel
          have HNO := Lib.hid hno
          clear hno
          by_cases hlt : k < v.steps.length
          · obtain ⟨b, off, rfl, hb, hc⟩ := HS.out (by omega)
            have hck := hc k hlt
            have hi1 : (0 : Int) ≤ (k : Int) := by omega
            have hi2 : (k : Int) < (v.steps.length : Int) := by omega
            clear hc
            have HL := Lib.hid (AdjV.any_take_next v.steps (fun s => !AdjV.near s) k hlt)
            have HG := Lib.hid (fun h => AdjV.any_of_take (p := fun s => !AdjV.near s) hlt h)
            generalize v.steps[k] = x at hck HL HG
            by_cases hx : (!AdjV.near x) = true
            · have HX := Lib.hid hx
              have HW := Lib.hid (AdjV.wrong_far H0.out HLEN.out (by
                have := HG.out hx
                rw [AdjV.any_all] at this
                rw [HN.out, Bool.true_and]
                simpa using this))
              clear hx
              go_wp2_with fail
              refine (far_any _ _).mono ?_
              rintro e w1 ⟨rfl, rfl⟩
              rw [HX.out]
              go_wp2_with fail
              go_ret
              exact ⟨by rw [HW.out]; rfl, HB.out⟩
            · have HX := Lib.hid (show (!AdjV.near x) = false by simpa using hx)
              clear hx
              go_wp2_with fail
              refine (far_any _ _).mono ?_
              rintro e w1 ⟨rfl, rfl⟩
              rw [HX.out]
              go_wp2_with fail
              go_round
              case rel => exact ⟨k + 1, by omega, by go_num, by rw [HL.out, HNO.out, HX.out]; rfl⟩
              case measure => simp [intOf]; omega
          · obtain rfl : k = v.steps.length := by omega
            have HW := Lib.hid (AdjV.wrong_no H0.out HLEN.out (by
              have := HNO.out
              rw [List.take_length, AdjV.any_all] at this
              rw [HN.out, Bool.true_and]
              simpa using this))
            go_wp2_with fail
            go_ret
            exact ⟨by rw [HW.out]; rfl, HB.out⟩
      · have hst' : AdjV.near v.st = false := by simpa using hst
        have HW := Lib.hid (AdjV.wrong_far H0.out HLEN.out (by rw [hst', Bool.false_and]))
        have HST := Lib.hid (show (!AdjV.near v.st) = true by rw [hst']; rfl)
        clear hst hst'
        go_enter Try.func23, Try.ntmps23
        go_wp2_with fail
        refine HSZ.out.mono ?_
        rintro e w1 ⟨rfl, rfl⟩
        rw [HR.out]
        go_wp2_with fail
        refine (far_any _ _).mono ?_
        rintro e w1 ⟨rfl, rfl⟩
        rw [HST.out]
        go_wp2_with fail
        go_ret
        exact ⟨by rw [HW.out]; rfl, HB.out⟩
    · have hq : ((v.steps.length : Int) != (v.dims.length : Int)) = true := by simp; omega
      have HW := Lib.hid (AdjV.wrong_shape H0.out hlen)
      clear hlen
      go_enter Try.func23, Try.ntmps23
      go_wp2_with fail
      refine HSZ.out.mono ?_
      rintro e w1 ⟨rfl, rfl⟩
      rw [HR.out]
      go_wp2_with fail
      go_ret
      exact ⟨by rw [HW.out]; rfl, HB.out⟩
  · have HW := Lib.hid (AdjV.wrong_size h0)
    have hq : ((AdjV.size v.dims).2 != 0) = true := by simpa using h0
    clear h0
    go_enter Try.func23, Try.ntmps23
    go_wp2_with fail
    refine HSZ.out.mono ?_
    rintro e w1 ⟨rfl, rfl⟩
    unfold Vw.sizeR
    go_wp2_with fail
    go_ret
    exact ⟨by rw [HW.out]; rfl, HB.out⟩

/-- What is answered of a view that was made. -/
def Vw.madeR (val : Value) (v : AdjV.V) : Value := if AdjV.wrong v = 4 then .tuple #[.agg #[.int .i64 0, .slice none 0 0, .slice none 0 0], .int .i64 5] else .tuple #[val, .int .i64 0]

set_option maxHeartbeats 2000000 in
theorem done_any (val : Value) (v : AdjV.V) (B : Nat) (w : World) (hB : B ≤ w.heap.size) (h : Vw.ViewAt w B val v) :
    Calls Try.prog 51 #[val] w fun e w' => e = .returned (Vw.madeR val v) ∧ Below w.heap.size w w' := by
  have HW := Lib.hid (fun (W : World) (hb : Below w.heap.size w W) => Wrong_any val v B W (Nat.le_trans hB hb.size) (h.below (hb.mono hB)))
  have HV := Lib.hid h
  obtain ⟨A, c, A', c', rfl, hd, hs, c1, c2, c3, c4⟩ := h
  have HB := Lib.hid ((((Below.refl w.heap.size w).alloc (Nat.le_refl _) (.cells #[.int .i64 v.st, .slice A v.dims.length c, .slice A' v.steps.length c'] 34))).alloc (by simp) (.cells #[.int .i64 0, .slice none 0 0, .slice none 0 0] 34))
  clear hd hs
  by_cases h4 : AdjV.wrong v = 4
  · have H4 := Lib.hid h4
    clear h4
    go_enter Try.func51, Try.ntmps51
    go_wp2_with fail
    refine (HW.out _ HB.out).mono ?_
    rintro e w1 ⟨rfl, hb1⟩
    rw [H4.out]
    obtain ⟨hc, hf⟩ := bcell hb1
    have hz : w.heap.size + 1 < w1.heap.size := by have := hb1.size; simp at this; omega
    go_wp2_with fail
    refine bodyPost_ret (v := .tuple #[.agg #[.int .i64 0, .slice none 0 0, .slice none 0 0], .int .i64 5]) (by simp [results, Try.results51, go_sem, hc]) rfl ⟨?_, ?_⟩
    · unfold Vw.madeR; rw [if_pos H4.out]
    · exact Vw.three (HB.out.trans (hb1.mono (HB.out.size))) (by omega) _ _ _
  · have hq : (AdjV.wrong v == 4) = false := by simpa using h4
    have HM := Lib.hid h4
    clear h4
    go_enter Try.func51, Try.ntmps51
    go_wp2_with fail
    refine (HW.out _ HB.out).mono ?_
    rintro e w1 ⟨rfl, hb1⟩
    obtain ⟨hc, hf⟩ := bcell hb1
    have hz : w.heap.size + 1 < w1.heap.size := by have := hb1.size; simp at this; omega
    go_wp2_with fail
    have HBB := Lib.hid (Vw.three (HB.out.trans (hb1.mono (HB.out.size))) (Nat.le_succ _) (.int .i64 v.st) (.slice A v.dims.length c) (.slice A' v.steps.length c'))
    refine bodyPost_ret (v := .tuple #[.agg #[.int .i64 v.st, .slice A v.dims.length c, .slice A' v.steps.length c'], .int .i64 0]) (by simp [results, Try.results51, go_sem, hc]) rfl ⟨?_, ?_⟩
    · unfold Vw.madeR; rw [if_neg HM.out]
    · exact HBB.out

set_option maxHeartbeats 2000000 in
theorem made_any (val : Value) (v : AdjV.V) (B : Nat) (w : World) (hB : B ≤ w.heap.size) (h : Vw.ViewAt w B val v) (h2 : AdjV.wrong v = 0 ∨ AdjV.wrong v = 4) :
    Calls Try.prog 53 #[val] w fun e w' => e = .returned (Vw.madeR val v) ∧ Below w.heap.size w w' := by
  have HW := Lib.hid (fun (W : World) (hb : Below w.heap.size w W) => refWrong_any val v B W (Nat.le_trans hB hb.size) (h.below (hb.mono hB)))
  have HV := Lib.hid h
  obtain ⟨A, c, A', c', rfl, hd, hs, c1, c2, c3, c4⟩ := h
  have HB := Lib.hid ((((Below.refl w.heap.size w).alloc (Nat.le_refl _) (.cells #[.int .i64 v.st, .slice A v.dims.length c, .slice A' v.steps.length c'] 34))).alloc (by simp) (.cells #[.int .i64 0, .slice none 0 0, .slice none 0 0] 34))
  clear hd hs
  by_cases h4 : AdjV.wrong v = 4
  · have H4 := Lib.hid h4
    clear h2
    clear h4
    go_enter Try.func53, Try.ntmps53
    go_wp2_with fail
    refine (HW.out _ HB.out).mono ?_
    rintro e w1 ⟨rfl, hb1⟩
    rw [H4.out]
    obtain ⟨hc, hf⟩ := bcell hb1
    have hz : w.heap.size + 1 < w1.heap.size := by have := hb1.size; simp at this; omega
    go_wp2_with fail
    refine bodyPost_ret (v := .tuple #[.agg #[.int .i64 0, .slice none 0 0, .slice none 0 0], .int .i64 5]) (by simp [results, Try.results53, go_sem, hc]) rfl ⟨?_, ?_⟩
    · unfold Vw.madeR; rw [if_pos H4.out]
    · exact Vw.three (HB.out.trans (hb1.mono (HB.out.size))) (by omega) _ _ _
  · have H0 := Lib.hid (h2.resolve_right h4)
    clear h2
    have HM := Lib.hid h4
    clear h4
    go_enter Try.func53, Try.ntmps53
    go_wp2_with fail
    refine (HW.out _ HB.out).mono ?_
    rintro e w1 ⟨rfl, hb1⟩
    rw [H0.out]
    obtain ⟨hc, hf⟩ := bcell hb1
    have hz : w.heap.size + 1 < w1.heap.size := by have := hb1.size; simp at this; omega
    go_wp2_with fail
    have HBB := Lib.hid (Vw.three (HB.out.trans (hb1.mono (HB.out.size))) (Nat.le_succ _) (.int .i64 v.st) (.slice A v.dims.length c) (.slice A' v.steps.length c'))
    refine bodyPost_ret (v := .tuple #[.agg #[.int .i64 v.st, .slice A v.dims.length c, .slice A' v.steps.length c'], .int .i64 0]) (by simp [results, Try.results53, go_sem, hc]) rfl ⟨?_, ?_⟩
    · unfold Vw.madeR; rw [if_neg HM.out]
    · exact HBB.out

theorem Vw.same_true {args : Array Value} {l : List Int} {w : World} (h : Calls Try.prog 17 args w fun e w' => e = .returned (.bool (decide (l = l))) ∧ Below w.heap.size w w') :
    Calls Try.prog 17 args w fun e w' => e = .returned (.bool true) ∧ Below w.heap.size w w' :=
  h.mono fun e w' ⟨he, hb⟩ => ⟨by rw [he, decide_eq_true rfl], hb⟩

set_option maxHeartbeats 2000000 in
theorem sameView_eq (val val' : Value) (v : AdjV.V) (B : Nat) (w : World) (hB : B ≤ w.heap.size) (h : Vw.ViewAt w B val v) (h' : Vw.ViewAt w B val' v) :
    Calls Try.prog 21 #[val, val'] w fun e w' => e = .returned (.bool true) ∧ Below w.heap.size w w' := by
  obtain ⟨A, c, A', c', rfl, hd, hs, c1, c2, c3, c4⟩ := h
  obtain ⟨D, e, D', e', rfl, gd, gs, e1, e2, e3, e4⟩ := h'
  have hbel := (((Below.refl w.heap.size w).alloc (Nat.le_refl _) (.cells #[.int .i64 v.st, .slice A v.dims.length c, .slice A' v.steps.length c'] 34))).alloc (by simp) (.cells #[.int .i64 v.st, .slice D v.dims.length e, .slice D' v.steps.length e'] 34)
  have HB := Lib.hid hbel
  have HA := Lib.hid (fun (W : World) (hb : Below w.heap.size w W) => Vw.same_true (same_any A D c e v.dims v.dims B B W (by omega) (by omega) (hd.below (hb.mono hB)) (gd.below (hb.mono hB))))
  have HA' := Lib.hid (fun (W : World) (hb : Below w.heap.size w W) => Vw.same_true (same_any A' D' c' e' v.steps v.steps B B W (by omega) (by omega) (hs.below (hb.mono hB)) (gs.below (hb.mono hB))))
  clear hbel hd hs gd gs
  have hq : (v.st == v.st) = true := by simp
  go_enter Try.func21, Try.ntmps21
  go_wp2_with fail
  refine (HA.out _ HB.out).mono ?_
  rintro e w1 ⟨rfl, hb1⟩
  obtain ⟨hc, hf⟩ := bcell hb1
  have hz : w.heap.size + 1 < w1.heap.size := by have := hb1.size; simp at this; omega
  go_wp2_with fail
  refine (HA'.out _ (HB.out.trans (hb1.mono HB.out.size))).mono ?_
  rintro e w2 ⟨rfl, hb2⟩
  go_wp2_with fail
  go_ret
  exact ⟨rfl, (HB.out.trans (hb1.mono HB.out.size)).trans (hb2.mono (HB.out.trans (hb1.mono HB.out.size)).size)⟩

end Go.Proofs.Ytkbmnefjnfihbaa
