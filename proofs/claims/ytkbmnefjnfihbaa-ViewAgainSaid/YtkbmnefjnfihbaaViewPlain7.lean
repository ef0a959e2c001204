/-
  Spread, in plain Lean. No program in sight. No condition.
-/
import Derived.Test.YtkbmnefjnfihbaaViewPlain6
namespace AdjV
set_option linter.unusedVariables false
/-- The steps of what is the same all along new dimensions, the first ones only laid. -/
def spSteps (v : V) (dims l : List Int) : Nat → List Int
  | 0 => List.replicate dims.length 0
  | k + 1 => (spSteps v dims l k).set (l.getD k 0).toNat (v.steps.getD k 0)
theorem spSteps_length (v : V) (dims l : List Int) : ∀ k, (spSteps v dims l k).length = dims.length
  | 0 => by simp [spSteps]
  | k + 1 => by simp [spSteps, spSteps_length v dims l k]
theorem spSteps_next {v : V} {dims l : List Int} {k q : Nat} (h : k < l.length) (hs : k < v.steps.length) (hq : l[k] = (q : Int)) : spSteps v dims l (k + 1) = (spSteps v dims l k).set q v.steps[k] := by
  simp only [spSteps]
  rw [getD_at l k h, getD_at v.steps k hs, hq]
  simp
def spOK (v : V) (dims l : List Int) : Bool := (List.range l.length).all fun k => decide (dims.getD (l.getD k 0).toNat 0 = v.dims.getD k 0)
theorem spOK_bad {v : V} {dims l : List Int} {k q : Nat} (h : k < l.length) (hv : k < v.dims.length) (hq : l[k] = (q : Int)) (hd : q < dims.length) (hne : dims[q] ≠ v.dims[k]) : spOK v dims l = false := by
  unfold spOK
  rw [List.all_eq_false]
  refine ⟨k, List.mem_range.2 h, ?_⟩
  rw [getD_at l k h, getD_at v.dims k hv, hq, Int.toNat_natCast, getD_at dims q hd]
  simpa using hne
theorem spOK_of {v : V} {dims l : List Int} (h : ∀ k (hk : k < l.length), dims.getD (l[k]).toNat 0 = v.dims.getD k 0) : spOK v dims l = true := by
  unfold spOK
  rw [List.all_eq_true]
  intro k hk
  rw [getD_at l k (List.mem_range.1 hk), decide_eq_true_iff]
  exact h k (List.mem_range.1 hk)
/-- What Spread says. -/
def spread (v : V) (dims l : List Int) : V × Int :=
  if wrong v ≠ 0 then (none_, wrong v) else if (size dims).2 ≠ 0 then (none_, (size dims).2) else if l.length ≠ v.dims.length ∨ riseB dims.length l = false then (none_, 6)
  else if spOK v dims l then (⟨v.st, dims, spSteps v dims l l.length⟩, 0) else (none_, 6)
theorem spread_wrong {v : V} {dims l : List Int} (h : wrong v ≠ 0) : spread v dims l = (none_, wrong v) := if_pos h
theorem spread_size {v : V} {dims l : List Int} (h : wrong v = 0) (h2 : (size dims).2 ≠ 0) : spread v dims l = (none_, (size dims).2) := by unfold spread; rw [if_neg (by simp [h]), if_pos h2]
theorem spread_shape {v : V} {dims l : List Int} (h : wrong v = 0) (h2 : (size dims).2 = 0) (h3 : l.length ≠ v.dims.length ∨ riseB dims.length l = false) : spread v dims l = (none_, 6) := by
  unfold spread; rw [if_neg (by simp [h]), if_neg (by simp [h2]), if_pos h3]
theorem spread_bad {v : V} {dims l : List Int} (h : wrong v = 0) (h2 : (size dims).2 = 0) (h3 : l.length = v.dims.length) (h4 : riseB dims.length l = true) (h5 : spOK v dims l = false) : spread v dims l = (none_, 6) := by
  unfold spread; rw [if_neg (by simp [h]), if_neg (by simp [h2]), if_neg (by simp [h3, h4]), if_neg (by simp [h5])]
theorem spread_ok {v : V} {dims l : List Int} (h : wrong v = 0) (h2 : (size dims).2 = 0) (h3 : l.length = v.dims.length) (h4 : riseB dims.length l = true) (h5 : spOK v dims l = true) : spread v dims l = (⟨v.st, dims, spSteps v dims l l.length⟩, 0) := by
  unfold spread; rw [if_neg (by simp [h]), if_neg (by simp [h2]), if_neg (by simp [h3, h4]), if_pos h5]
end AdjV
