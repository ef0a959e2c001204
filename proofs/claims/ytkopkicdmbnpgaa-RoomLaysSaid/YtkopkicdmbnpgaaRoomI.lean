/-
  The sort of nothing; rows that are read and turned in place. Conditions: those each theorem names.
-/
import Derived.Test.YtkopkicdmbnpgaaRoomD
namespace Go.Proofs.Ytkopkicdmbnpgaa
set_option linter.unusedVariables false
open Go.RowKit Adj

set_option maxRecDepth 100000 in
set_option maxHeartbeats 2000000 in
theorem insertion_nil (w : World) (A : Option Addr) (c : Nat) (F : Value) :
    Calls Try.prog 67 #[.slice A 0 c, .int .i64 0, .int .i64 0, F] w fun e w' => e = .returned (.tuple #[]) ∧ w' = w := by
  go_enter Try.func67, Try.ntmps67
  go_wp2_with fail
  go_loopw [8] (fun i wr => i = .int .i64 1 ∧ wr = w) (fun _ _ => 0)
  case atStart => exact ⟨rfl, rfl⟩
  case round =>
    obtain ⟨rfl, rfl⟩ := hrel
    go_wp2_with fail
    go_end0
    exact ⟨rfl, rfl⟩
set_option maxRecDepth 100000 in
set_option maxHeartbeats 2000000 in
theorem stable_nil (w : World) (A : Option Addr) (c : Nat) (F : Value) :
    Calls Try.prog 52 #[.slice A 0 c, .int .i64 0, F] w fun e w' => e = .returned (.tuple #[]) ∧ w' = w := by
  go_enter Try.func52, Try.ntmps52
  go_wp2_with fail
  go_loopw [7, 8] (fun a b wr => a = .int .i64 0 ∧ b = .int .i64 20 ∧ wr = w) (fun _ _ _ => 0)
  case atStart => exact ⟨rfl, rfl, rfl⟩
  case round =>
    obtain ⟨rfl, rfl, rfl⟩ := hrel
    go_wp2_with fail
    ((with_reducible refine (insertion_nil wr A c F).mono ?_); rintro e w5 ⟨rfl, rfl⟩)
    go_wp2_with fail
    go_loopw [6] (fun s wr => s = .int .i64 20 ∧ wr = w5) (fun _ _ => 0)
    case atStart => exact ⟨rfl, rfl⟩
    case round =>
      obtain ⟨rfl, rfl⟩ := hrel
      go_wp2_with fail
      go_end0
      exact ⟨rfl, rfl⟩
set_option maxRecDepth 100000 in
theorem sortStable_nil (w : World) (A : Option Addr) (c : Nat) (F : Value) :
    Calls Try.prog 28 #[.slice A 0 c, F] w fun e w' => e = .returned (.tuple #[]) ∧ w' = w := by
  go_enter Try.func28, Try.ntmps28
  go_wp2_with fail
  ((with_reducible refine (stable_nil w A c F).mono ?_); rintro e w5 ⟨rfl, rfl⟩)
  go_wp2_with fail
  go_end0
  exact ⟨rfl, rfl⟩
end Go.Proofs.Ytkopkicdmbnpgaa
