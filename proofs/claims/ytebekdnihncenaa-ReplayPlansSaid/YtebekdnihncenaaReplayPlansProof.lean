/-
  PROVED: ReplayPlansSaid: for every n and every number of slots the law ReplayPlans returns true: a plan can be played to the end, and costs the least. No condition.
-/
import Derived.Test.YtebekdnihncenaaReplayI
import Derived.Test.YtebekdnihncenaaReplayB
import Derived.Test.YtebekdnihncenaaLawRow
namespace Go.Proofs.Ytebekdnihncenaa.replayPlans
set_option linter.unusedVariables false
open Go.ChangeShapes Go.WideShapes Go.ChangeAt Go.RowKit

theorem own : ownKnob Try.prog.godebug = none := by kernel_rfl
theorem laid : laidOutB Try.prog = true := by kernel_rfl

theorem moves_keep {w w' : World} {A : Option Addr} {L : List (Int × Int)} (h : Rp.MovesAt w w.heap.size A L) (hb : Below w.heap.size w w') : Rp.MovesAt w' w'.heap.size A L := by
  intro hpos
  obtain ⟨b, off, hA, hlt, hc⟩ := h hpos
  exact ⟨b, off, hA, Nat.lt_of_lt_of_le hlt hb.size, fun i hi => ⟨(hb.cell (p := ⟨b, off + i * 2, none⟩) hlt).trans (hc i hi).1, (hb.cell (p := ⟨b, off + i * 2 + 1, none⟩) hlt).trans (hc i hi).2⟩⟩

set_option maxHeartbeats 1000000 in
theorem walk (n s : Int) (w : World) :
    Calls Try.prog 8 #[.int .i64 n, .int .i64 s] w fun e w' => e = .returned (.bool true) ∧ Below w.heap.size w w' := by
  go_enter Try.func8, Try.ntmps8
  go_wp2_with fail
  refine (Plan_any n s w).mono ?_
  rintro e w1 (⟨h0, rfl, rfl⟩ | ⟨h0, A, L, cap, rfl, hm, hl, ha, hb⟩)
  · have hR : Rp.leastR n s = .tuple #[.int .i64 0, .int .i64 (Rp.wrong n s)] := by unfold Rp.leastR; rw [if_neg h0]
    have HR := Lib.hid hR
    have hq : (Rp.wrong n s != 0) = true := by simpa using h0
    clear hR h0
    go_wp2_with (go_at_call 10; refine (refLeast_any _ _ _).mono ?_; rintro e w' ⟨rfl, hb⟩; rw [HR.out])
    go_ret
    exact ⟨rfl, hb⟩
  · obtain ⟨b1, b2, b3, b4, b5⟩ := Rp.wrong_ok h0
    have hR : Rp.leastR n s = .tuple #[.int .i64 ((Adj8.T n.toNat s.toNat : Nat) : Int), .int .i64 0] := by unfold Rp.leastR; rw [if_pos h0, h0]
    have HR := Lib.hid hR
    have HM := Lib.hid hm
    have HA := Lib.hid ha
    clear hR h0 hm ha
    obtain ⟨n, rfl⟩ := Int.eq_ofNat_of_zero_le b1
    obtain ⟨s, rfl⟩ := Int.eq_ofNat_of_zero_le b3
    go_wp2_with fail
    refine (refLeast_any _ _ _).mono ?_
    rintro e w2 ⟨rfl, hb2⟩
    rw [HR.out]
    have HM2 := Lib.hid (moves_keep HM.out hb2)
    go_wp2_with fail
    refine (Play_in n s A cap L w2 (by omega) (by omega) (by omega) (by omega) HM2.out).mono ?_
    rintro e w3 ⟨rfl, hb3⟩
    rw [show Adj8.answer (n : Int) s L = (((Adj8.T (n : Int).toNat (s : Int).toNat : Nat) : Int), 0) from HA.out]
    go_wp2_with fail
    go_ret
    exact ⟨rfl, (hb.trans (hb2.mono hb.size)).trans (hb3.mono (Nat.le_trans hb.size hb2.size))⟩

theorem lifted (os : Os) (started : os.Started) (H : Type) (enc : TypeId × Value → H) :
    ReturnsInHanded {} Try.checked os 8 .any (Rows.replayPlansSpec.pre6 enc Try.prog Try.f8 Rows.replayPlansRow.domain false) (Rows.replayPlansSpec.post enc Try.prog Try.f8 false true false false) := by
  refine Adj.law_lifted (C := Try.checked) (s := Rows.replayPlansSpec) own started (by kernel_rfl) Try.func8 laid rfl rfl Try.underlying4
      (by rw [Try.params8]; intro t ht; simp only [List.mem_cons, List.not_mem_nil, or_false] at ht; rcases ht with rfl | rfl <;> exact ⟨by kernel_rfl, of_decide_eq_true (by kernel_rfl)⟩)
      (by intro ds hd; match ds, hd with | [d1, d2], _ => exact ⟨rfl, rfl, rfl⟩)
      (ChangeSpec.witness6 (enc := enc) (C := Try.checked) false ⟨#[], #[.int .i64 0, .int .i64 0], []⟩ 8 (by kernel_rfl) (by kernel_rfl) (by kernel_rfl) (by kernel_rfl)) ?_
  intro W base args ds before hval0 hA0 _ _
  have hval : ∀ (j : Nat) t v, Try.f8.params[j]? = some t → args[j]? = some v → Value.okWide Try.prog W .any base t v := hval0
  have hA : DataW.TrodAll enc Try.prog W 0 (fun _ => true) true Try.f8.params.toList args.toList ds before := hA0
  rw [Try.params8] at hA hval
  obtain ⟨v0, v1, d0, d1, p0, p1, rfl, rfl, rfl, h0, h1⟩ := trodAll_two hA
  obtain ⟨a0, rfl, rfl, rfl, w0⟩ := open_int Try.underlying3 (hval 0 3 v0 rfl rfl) h0
  obtain ⟨a1, rfl, rfl, rfl, w1⟩ := open_int Try.underlying3 (hval 1 3 v1 rfl rfl) h1
  exact walk a0 a1 W

theorem proved : Rows.ReplayPlansSaid :=
  OpenClaim.holds_of_wide 8 Try.f8 rfl rfl rfl rfl rfl rfl rfl ⟨rfl, rfl, rfl, rfl, rfl⟩ rfl rfl rfl rfl rfl (by kernel_rfl) Try.func8 (by kernel_rfl)
    (of_decide_eq_true (by kernel_rfl)) (by unfold Func.isWrapper; first | (rw [if_pos (by decide +kernel)]; kernel_rfl) | (rw [if_neg (by decide +kernel)]; exact ⟨rfl, rfl⟩))
    (fun os started H enc _ => lifted os started H enc)
#print axioms proved
end Go.Proofs.Ytebekdnihncenaa.replayPlans
