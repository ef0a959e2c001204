/-
  The walk of alive. No condition.
-/
import Derived.Test.YtebekdnihncenaaReplayA
namespace Go.Proofs.Ytebekdnihncenaa
open Go.RowKit

set_option maxHeartbeats 400000 in
theorem alive_any (w : World) :
    Calls Try.prog 11 #[] w fun e w' => e = .returned (.bool true) ∧ w = w' := by
  have hx := Lib.hid (show Rp.leastR 3 1 = .tuple #[.int .i64 3, .int .i64 0] by
    have h1 : Rp.wrong 3 1 = 0 := by unfold Rp.wrong; decide
    have h2 : Adj8.T (3 : Int).toNat (1 : Int).toNat = 3 := by decide +kernel
    unfold Rp.leastR
    rw [if_pos h1, h1, h2]
    rfl)
  go_enter Try.func11, Try.ntmps11
  go_wp2_with (go_at_call 9; refine (Least_any _ _ _).mono ?_; rintro e w' ⟨rfl, rfl⟩; rw [hx.out])
  go_ret
  exact ⟨rfl, rfl⟩

end Go.Proofs.Ytebekdnihncenaa
