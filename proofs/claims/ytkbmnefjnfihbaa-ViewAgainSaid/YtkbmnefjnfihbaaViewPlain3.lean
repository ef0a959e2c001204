/-
  Views, in plain Lean: what is wrong with one; Turn; Flip; Cut; Spread. No program in sight. No condition.
-/
import Derived.Test.YtkbmnefjnfihbaaViewPlain2
namespace AdjV
set_option linter.unusedVariables false
/-- A view. -/
structure V where
  st : Int
  dims : List Int
  steps : List Int
/-- What is answered beside a fault. -/
def none_ : V := ⟨0, [], []⟩
def near (n : Int) : Bool := decide (-1099511627776 ≤ n) && decide (n ≤ 1099511627776)
theorem near_true {n : Int} : near n = true ↔ -1099511627776 ≤ n ∧ n ≤ 1099511627776 := by unfold near; simp
theorem near_false {n : Int} : near n = false ↔ n < -1099511627776 ∨ 1099511627776 < n := by
  unfold near; rw [Bool.and_eq_false_iff, decide_eq_false_iff_not, decide_eq_false_iff_not]; omega
/-- What is wrong with a view. -/
def wrong (v : V) : Int :=
  if (size v.dims).2 ≠ 0 then (size v.dims).2 else if v.steps.length ≠ v.dims.length then 6 else if near v.st && v.steps.all near then 0 else 4
theorem wrong_size {v : V} (h : (size v.dims).2 ≠ 0) : wrong v = (size v.dims).2 := if_pos h
theorem wrong_shape {v : V} (h : (size v.dims).2 = 0) (h2 : v.steps.length ≠ v.dims.length) : wrong v = 6 := by unfold wrong; rw [if_neg (by simp [h]), if_pos h2]
theorem wrong_far {v : V} (h : (size v.dims).2 = 0) (h2 : v.steps.length = v.dims.length) (h3 : (near v.st && v.steps.all near) = false) : wrong v = 4 := by
  unfold wrong; rw [if_neg (by simp [h]), if_neg (by simp [h2]), if_neg (by simp [h3])]
theorem wrong_no {v : V} (h : (size v.dims).2 = 0) (h2 : v.steps.length = v.dims.length) (h3 : (near v.st && v.steps.all near) = true) : wrong v = 0 := by
  unfold wrong; rw [if_neg (by simp [h]), if_neg (by simp [h2]), if_pos h3]
/-- A view that is right. -/
theorem wrong_fine {v : V} (h : wrong v = 0) : (size v.dims).2 = 0 ∧ v.steps.length = v.dims.length ∧ (-1099511627776 ≤ v.st ∧ v.st ≤ 1099511627776) ∧ ∀ s ∈ v.steps, -1099511627776 ≤ s ∧ s ≤ 1099511627776 := by
  by_cases h1 : (size v.dims).2 = 0
  · by_cases h2 : v.steps.length = v.dims.length
    · by_cases h3 : (near v.st && v.steps.all near) = true
      · rw [Bool.and_eq_true] at h3
        exact ⟨h1, h2, near_true.1 h3.1, fun s hs => near_true.1 (List.all_eq_true.1 h3.2 s hs)⟩
      · rw [wrong_far h1 h2 (by simpa using h3)] at h; cases h
    · rw [wrong_shape h1 h2] at h; cases h
  · rw [wrong_size h1] at h; exact absurd h h1
theorem any_all (l : List Int) : l.any (fun s => !near s) = !l.all near := by
  induction l with
  | nil => rfl
  | cons a l ih => simp [ih]
/-- A view that was made, if nothing of it is too far. -/
def made (v : V) : V × Int := if wrong v = 4 then (none_, 5) else (v, 0)
theorem wrong_two {v : V} (h : (size v.dims).2 = 0) (h2 : v.steps.length = v.dims.length) : wrong v = 0 ∨ wrong v = 4 := by
  by_cases h3 : (near v.st && v.steps.all near) = true
  · exact .inl (wrong_no h h2 h3)
  · exact .inr (wrong_far h h2 (by simpa using h3))
end AdjV
