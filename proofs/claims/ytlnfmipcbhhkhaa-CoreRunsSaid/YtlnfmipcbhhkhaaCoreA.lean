/-
  The walks of within, overlap, belongs, far and of the reference's inside, meet. Conditions: numbers as small as those of right code.
-/
import Derived.Test.YtlnfmipcbhhkhaaProg
import Derived.Test.YtlnfmipcbhhkhaaCorePlain
import Derived.Test.YtlnfmipcbhhkhaaMem
import Derived.IntWalk
import Derived.Outline
namespace Go.Proofs.Ytlnfmipcbhhkhaa
set_option linter.unusedVariables false
open Go.RowKit Adj

set_option maxHeartbeats 1000000 in
theorem within_any (at_ n size : Int) (w : World) (h1 : -1048576 ≤ at_) (h2 : at_ ≤ 1048576) (h3 : 0 ≤ n) (h4 : n ≤ 4096) :
    Calls Try.prog 38 #[.agg #[.int .i64 at_, .int .i64 n], .int .i64 size] w fun e w' => e = .returned (.bool (AdjC.inside (at_, n) size)) ∧ Below w.heap.size w w' := by
  go_enter Try.func38, Try.ntmps38
  go_wp2
  all_goals
    go_ret
    exact ⟨ret_bool (by rw [Bool.eq_iff_iff]; simp [AdjC.inside]; omega), (Below.refl _ _).alloc (Nat.le_refl _) _⟩

set_option maxHeartbeats 2000000 in
theorem overlap_any (p q : Int × Int) (w : World) (h1 : -1048576 ≤ p.1) (h2 : p.1 ≤ 1048576) (h3 : 0 ≤ p.2) (h4 : p.2 ≤ 4096) (g1 : -1048576 ≤ q.1) (g2 : q.1 ≤ 1048576) (g3 : 0 ≤ q.2) (g4 : q.2 ≤ 4096) :
    Calls Try.prog 28 #[.agg #[.int .i64 p.1, .int .i64 p.2], .agg #[.int .i64 q.1, .int .i64 q.2]] w fun e w' => e = .returned (.bool (AdjC.meet p q)) ∧ Below w.heap.size w w' := by
  obtain ⟨a, n⟩ := p
  obtain ⟨b, m⟩ := q
  simp only at *
  go_enter Try.func28, Try.ntmps28
  go_wp2
  all_goals
    go_ret
    exact ⟨ret_bool (by rw [Bool.eq_iff_iff]; simp [AdjC.meet]; omega), ((Below.refl _ _).alloc (Nat.le_refl _) _).alloc (by simp) _⟩

set_option maxHeartbeats 1000000 in
theorem belongs_any (d : Int) (mv : Bool) (w : World) :
    Calls Try.prog 36 #[.int .i64 d, .int .i64 (if mv then 0 else 1)] w fun e w' => e = .returned (.bool (AdjC.belongs d mv)) ∧ w = w' := by
  cases mv
  all_goals
    simp only [if_true, Bool.false_eq_true, if_false]
    go_enter Try.func36, Try.ntmps36
    go_wp2
    all_goals
      go_ret
      exact ⟨ret_bool (by rw [Bool.eq_iff_iff]; simp [AdjC.belongs]; first | done | omega | (simp only [beq_eq_false_iff_ne, ne_eq, beq_iff_eq] at *; omega)), rfl⟩

theorem farC_any (n : Int) (w : World) : Calls Try.prog 37 #[.int .i64 n] w fun e w' => e = .returned (.bool (AdjC.far n)) ∧ w = w' := by
  go_enter Try.func37, Try.ntmps37
  go_wp2
  all_goals
    go_ret
    exact ⟨ret_bool (by rw [Bool.eq_iff_iff]; simp [AdjC.far]; try omega), rfl⟩

set_option maxHeartbeats 1000000 in
theorem inside_any (at_ n size : Int) (w : World) (h1 : -1048576 ≤ at_) (h2 : at_ ≤ 1048576) (h3 : 0 ≤ n) (h4 : n ≤ 4096) :
    Calls Try.prog 39 #[.agg #[.int .i64 at_, .int .i64 n], .int .i64 size] w fun e w' => e = .returned (.bool (AdjC.inside (at_, n) size)) ∧ Below w.heap.size w w' := by
  go_enter Try.func39, Try.ntmps39
  go_wp2
  all_goals
    go_ret
    exact ⟨ret_bool (by rw [Bool.eq_iff_iff]; simp [AdjC.inside]; omega), (Below.refl _ _).alloc (Nat.le_refl _) _⟩

set_option maxHeartbeats 2000000 in
theorem meet_any (p q : Int × Int) (w : World) (h1 : -1048576 ≤ p.1) (h2 : p.1 ≤ 1048576) (h3 : 0 ≤ p.2) (h4 : p.2 ≤ 4096) (g1 : -1048576 ≤ q.1) (g2 : q.1 ≤ 1048576) (g3 : 0 ≤ q.2) (g4 : q.2 ≤ 4096) :
    Calls Try.prog 33 #[.agg #[.int .i64 p.1, .int .i64 p.2], .agg #[.int .i64 q.1, .int .i64 q.2]] w fun e w' => e = .returned (.bool (AdjC.meet p q)) ∧ Below w.heap.size w w' := by
  obtain ⟨a, n⟩ := p
  obtain ⟨b, m⟩ := q
  simp only at *
  go_enter Try.func33, Try.ntmps33
  go_wp2
  all_goals
    go_ret
    exact ⟨ret_bool (by rw [Bool.eq_iff_iff]; simp [AdjC.meet]; omega), ((Below.refl _ _).alloc (Nat.le_refl _) _).alloc (by simp) _⟩
end Go.Proofs.Ytlnfmipcbhhkhaa
