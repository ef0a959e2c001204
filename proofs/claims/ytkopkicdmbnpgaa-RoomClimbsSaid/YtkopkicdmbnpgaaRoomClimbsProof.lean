/-
  PROVED: RoomClimbsSaid: for every tree, its words and every order the law RoomClimbs returns true: Peak and Climb answer what the reference's answer. No condition.
-/
import Derived.Test.YtkopkicdmbnpgaaRoomP
import Derived.Test.YtkopkicdmbnpgaaRoomH
import Derived.Test.YtkopkicdmbnpgaaOpenInts
import Derived.Test.YtkopkicdmbnpgaaLawRow
import Derived.Test.YtkopkicdmbnpgaaChecked
import Derived.Test.YtkopkicdmbnpgaaRows
namespace Go.Proofs.Ytkopkicdmbnpgaa.roomClimbs
open Go.ChangeShapes Go.WideShapes Go.ChangeAt Go.RowKit Adj
set_option linter.unusedVariables false

theorem own : ownKnob Try.prog.godebug = none := by kernel_rfl
theorem laid : laidOutB Try.prog = true := by kernel_rfl

set_option maxRecDepth 100000 in
set_option maxHeartbeats 4000000 in
theorem walk (A A' A'' : Option Addr) (cap cap' cap'' : Nat) (ab ws od : List Int) (w : World) (hl : od.length ≤ 9223372036854775807) (h1 : IntsAt w w.heap.size A ab) (h2 : IntsAt w w.heap.size A' ws) (h3 : IntsAt w w.heap.size A'' od) :
    Calls Try.prog 3 #[.slice A ab.length cap, .slice A' ws.length cap', .slice A'' od.length cap''] w fun e w' => e = .returned (.bool true) ∧ Below w.heap.size w w' := by
  have HP := Lib.hid (Peak_any w ab ws od A A' A'' _ _ _ cap cap' cap'' rfl rfl rfl hl h1 h2 h3)
  have HQ := Lib.hid (fun W (hb : Below w.heap.size w W) => refPeak_any W ab ws od A A' A'' _ _ _ cap cap' cap'' rfl rfl rfl hl ((h1.below hb).up hb.size) ((h2.below hb).up hb.size) ((h3.below hb).up hb.size))
  have HC := Lib.hid (fun W (hb : Below w.heap.size w W) => Climb_any W ab ws A A' _ _ cap cap' rfl rfl ((h1.below hb).up hb.size) ((h2.below hb).up hb.size))
  have HR := Lib.hid (fun W (hb : Below w.heap.size w W) => refClimb_any W ab ws A A' _ _ cap cap' rfl rfl ((h1.below hb).up hb.size) ((h2.below hb).up hb.size))
  have HLN := Lib.hid (show (AdjR.climb ab ws).1.length ≤ 9223372036854775807 by
    unfold AdjR.climb
    split
    · simp
    · rename_i hT
      have hT2 : AdjR.treeBad ab ws = 0 := by omega
      split
      · simp
      · have h4 := AdjR.lows_visit hT2 (i := ab.length - 1) (by omega)
        have h5 := (AdjR.treeOk hT2).2.1
        unfold AdjR.lows at h4
        show (AdjR.visit _ _ _).length ≤ _
        omega)
  generalize (AdjR.peak ab ws od).1 = m1 at HP HQ
  generalize (AdjR.peak ab ws od).2 = e1 at HP HQ
  generalize AdjR.climb ab ws = C at HC HR HLN
  obtain ⟨T, m2, e2⟩ := C
  have q1 : (m1 == m1) = true := by simp
  have q2 : (e1 == e1) = true := by simp
  have q3 : (m2 == m2) = true := by simp
  have q4 : (e2 == e2) = true := by simp
  clear h1 h2 h3
  go_enter Try.func3, Try.ntmps3
  go_wp2_with fail
  refine HP.out.mono ?_
  rintro e w1 ⟨rfl, hb1⟩
  go_wp2_with fail
  refine (HQ.out w1 hb1).mono ?_
  rintro e w2 ⟨rfl, hb2⟩
  have hb12 := hb1.trans (hb2.mono hb1.size)
  clear hb1 hb2
  go_wp2_with fail
  refine (HC.out w2 hb12).mono ?_
  rintro e w3 ⟨v3, rfl, hb3, A3, c3, rfl, hi3⟩
  have hb13 := hb12.trans (hb3.mono hb12.size)
  have HI3 := Lib.hid hi3
  clear hb12 hb3 hi3
  go_wp2_with fail
  refine (HR.out w3 hb13).mono ?_
  rintro e w4 ⟨v4, rfl, hb4, A4, c4, rfl, hi4⟩
  have hb14 := hb13.trans (hb4.mono hb13.size)
  have HI4 := Lib.hid hi4
  have HI3' := Lib.hid (HI3.out.below hb4)
  clear hb13 hb4 hi4
  go_wp2_with fail
  refine (sameList_any A3 A4 c3 c4 T T _ _ w4 HLN.out HLN.out HI3'.out HI4.out).mono ?_
  rintro e w5 ⟨rfl, hb5⟩
  rw [decide_eq_true (rfl : T = T)]
  have hb15 := hb14.trans (hb5.mono hb14.size)
  go_wp2_with fail
  go_ret
  exact ⟨rfl, hb15⟩

set_option maxRecDepth 100000 in
theorem lifted (os : Os) (started : os.Started) (H : Type) (enc : TypeId × Value → H) :
    ReturnsInHanded {} Try.checked os 3 .any (Rows.roomClimbsSpec.pre6 enc Try.prog Try.f3 Rows.roomClimbsRow.domain false) (Rows.roomClimbsSpec.post enc Try.prog Try.f3 false true false false) := by
  refine Adj.law_lifted (C := Try.checked) (s := Rows.roomClimbsSpec) own started (by kernel_rfl) Try.func3 laid rfl rfl Try.underlying4
      (by rw [Try.params3]; intro t ht; simp only [List.mem_cons, List.not_mem_nil, or_false] at ht; rcases ht with rfl | rfl | rfl <;> exact ⟨by kernel_rfl, of_decide_eq_true (by kernel_rfl)⟩)
      (by intro ds hd; match ds, hd with | [d1, d2, d3], _ => exact ⟨rfl, rfl, rfl⟩)
      (ChangeSpec.witness6 (enc := enc) (C := Try.checked) false ⟨#[], #[.slice none 0 0, .slice none 0 0, .slice none 0 0], []⟩ 8 (by kernel_rfl) (by kernel_rfl) (by kernel_rfl) (by kernel_rfl)) ?_
  intro W base args ds before hval0 hA0 _ hz0
  have hval : ∀ (j : Nat) t v, Try.f3.params[j]? = some t → args[j]? = some v → Value.okWide Try.prog W .any base t v := hval0
  have hA : DataW.TrodAll enc Try.prog W 0 (fun _ => true) true Try.f3.params.toList args.toList ds before := hA0
  have hz : (DataW.weightsEach Try.prog (Try.f3.params.toList ++ []) (ds ++ [])).all (· ≤ reachBytes) = true := hz0
  rw [Try.params3] at hA hval hz
  obtain ⟨v0, v1, v2, d0, d1, d2, p0, p1, p2, rfl, rfl, rfl, h0, h1, h2⟩ := trodAll_three hA
  obtain ⟨A, l, cap, rfl, hm, hc1, hc2⟩ := open_numbers Try.underlying22 Try.underlying3 Try.cellsI (hval 0 22 v0 rfl rfl) h0
  obtain ⟨A', m, cap', rfl, hm', hc1', hc2'⟩ := open_numbers Try.underlying22 Try.underlying3 Try.cellsI (hval 1 22 v1 rfl rfl) h1
  obtain ⟨A'', q, cap'', rfl, hm'', hc1'', hc2''⟩ := open_numbers Try.underlying22 Try.underlying3 Try.cellsI (hval 2 22 v2 rfl rfl) h2
  exact walk A A' A'' cap cap' cap'' l m q W (by omega) hm hm' hm''

theorem proved : Rows.RoomClimbsSaid :=
  OpenClaim.holds_of_wide 3 Try.f3 rfl rfl rfl rfl rfl rfl rfl ⟨rfl, rfl, rfl, rfl, rfl⟩ rfl rfl rfl rfl rfl (by kernel_rfl) Try.func3 (by kernel_rfl)
    (of_decide_eq_true (by kernel_rfl)) (by unfold Func.isWrapper; first | (rw [if_pos (by decide +kernel)]; kernel_rfl) | (rw [if_neg (by decide +kernel)]; exact ⟨rfl, rfl⟩))
    (fun os started H enc _ => lifted os started H enc)
#print axioms proved
end Go.Proofs.Ytkopkicdmbnpgaa.roomClimbs
