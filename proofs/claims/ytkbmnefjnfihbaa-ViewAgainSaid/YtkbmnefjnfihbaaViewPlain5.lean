/-
  Flip, in plain Lean. No program in sight. No condition.
-/
import Derived.Test.YtkbmnefjnfihbaaViewPlain4
namespace AdjV
set_option linter.unusedVariables false
/-- The number ahead of one; -1: there is none. -/
def prev (l : List Int) (i : Nat) : Int := if i = 0 then -1 else l.getD (i - 1) 0
/-- Numbers of dimensions, each once, the least first. -/
def riseB (n : Nat) (l : List Int) : Bool := (List.range l.length).all fun i => decide (prev l i < l.getD i 0) && decide (l.getD i 0 < (n : Int))
theorem getD_at (l : List Int) (i : Nat) (h : i < l.length) : l.getD i 0 = l[i] := by simp [List.getD_eq_getElem?_getD, h]
theorem riseB_true {n : Nat} {l : List Int} (h : riseB n l = true) : ∀ i (hi : i < l.length), prev l i < l[i] ∧ l[i] < (n : Int) := by
  intro i hi
  have := List.all_eq_true.1 h i (List.mem_range.2 hi)
  rw [Bool.and_eq_true, decide_eq_true_iff, decide_eq_true_iff, getD_at l i hi] at this
  exact this
theorem riseB_of {n : Nat} {l : List Int} (h : ∀ i (hi : i < l.length), prev l i < l[i] ∧ l[i] < (n : Int)) : riseB n l = true := by
  unfold riseB
  rw [List.all_eq_true]
  intro i hi
  have hi' := List.mem_range.1 hi
  rw [Bool.and_eq_true, decide_eq_true_iff, decide_eq_true_iff, getD_at l i hi']
  exact h i hi'
theorem riseB_bad {n : Nat} {l : List Int} {i : Nat} (hi : i < l.length) (h : ¬ (prev l i < l[i] ∧ l[i] < (n : Int))) : riseB n l = false := by
  cases hb : riseB n l with
  | false => rfl
  | true => exact absurd (riseB_true hb i hi) h
theorem prev_zero (l : List Int) : prev l 0 = -1 := rfl
theorem prev_next (l : List Int) (i : Nat) (h : i < l.length) : prev l (i + 1) = l[i] := by unfold prev; rw [if_neg (by omega)]; exact getD_at l i h
theorem rise_pos {n : Nat} {l : List Int} (h : ∀ i (hi : i < l.length), prev l i < l[i] ∧ l[i] < (n : Int)) : ∀ i (hi : i < l.length), 0 ≤ l[i]
  | 0, hi => by have := (h 0 hi).1; rw [prev_zero] at this; omega
  | i + 1, hi => by
    have := (h (i + 1) hi).1
    rw [prev_next l i (by omega)] at this
    have := rise_pos h i (by omega)
    omega
theorem rise_lt {n : Nat} {l : List Int} (h : ∀ i (hi : i < l.length), prev l i < l[i] ∧ l[i] < (n : Int)) {i : Nat} : ∀ j (hj : j < l.length) (hij : i < j), l[i]'(by omega) < l[j]
  | 0, _, hij => by omega
  | j + 1, hj, hij => by
    have h1 := (h (j + 1) hj).1
    rw [prev_next l j (by omega)] at h1
    by_cases e : i = j
    · subst e; exact h1
    · have := rise_lt h (i := i) j (by omega) (by omega)
      omega
theorem rise_pos_to {n m : Nat} {l : List Int} (h : ∀ i (hi : i < l.length), i < m → prev l i < l[i] ∧ l[i] < (n : Int)) : ∀ i (hi : i < l.length), i < m → 0 ≤ l[i]
  | 0, hi, hm => by have := (h 0 hi hm).1; rw [prev_zero] at this; omega
  | i + 1, hi, hm => by
    have := (h (i + 1) hi hm).1
    rw [prev_next l i (by omega)] at this
    have := rise_pos_to h i (by omega) (by omega)
    omega
/-- Where a view that is flipped begins, the first dimensions only gone through. -/
def flSt (v : V) (l : List Int) : Nat → Int
  | 0 => v.st
  | k + 1 => flSt v l k + (if (k : Int) ∈ l then (if 0 < v.dims.getD k 0 then (v.dims.getD k 0 - 1) * v.steps.getD k 0 else 0) else 0)
def flSteps (v : V) (l : List Int) (c : Nat) : List Int := (List.range v.steps.length).map fun j : Nat => if j < c ∧ (j : Int) ∈ l then -(v.steps.getD j 0) else v.steps.getD j 0
theorem flSteps_length (v : V) (l : List Int) (c : Nat) : (flSteps v l c).length = v.steps.length := by simp [flSteps]
theorem flSteps_at (v : V) (l : List Int) (c j : Nat) (h : j < (flSteps v l c).length) : (flSteps v l c)[j] = if j < c ∧ (j : Int) ∈ l then -(v.steps.getD j 0) else v.steps.getD j 0 := by simp [flSteps]
theorem flSteps_zero (v : V) (l : List Int) : flSteps v l 0 = v.steps := by
  apply List.ext_getElem
  · simp [flSteps]
  · intro i h1 h2
    rw [flSteps_at, if_neg (by omega), getD_at _ _ h2]
theorem flSt_skip {v : V} {l : List Int} {c : Nat} : ∀ {c' : Nat}, c ≤ c' → (∀ j : Nat, c ≤ j → j < c' → (j : Int) ∉ l) → flSt v l c' = flSt v l c
  | 0, h, _ => by
    obtain rfl : c = 0 := by omega
    rfl
  | c' + 1, h, hj => by
    by_cases e : c = c' + 1
    · subst e; rfl
    · rw [← flSt_skip (c' := c') (by omega) (fun j a b => hj j a (by omega))]
      simp only [flSt]
      rw [if_neg (hj c' (by omega) (by omega)), Int.add_zero]
theorem flSteps_skip {v : V} {l : List Int} {c c' : Nat} (h : c ≤ c') (hj : ∀ j : Nat, c ≤ j → j < c' → (j : Int) ∉ l) : flSteps v l c' = flSteps v l c := by
  apply List.ext_getElem
  · simp [flSteps]
  · intro i h1 h2
    rw [flSteps_at, flSteps_at]
    by_cases hi : i < c
    · have : i < c' := by omega
      simp [hi, this]
    · by_cases hi' : i < c'
      · rw [if_neg (fun hh => hj i (by omega) hi' hh.2), if_neg (by omega)]
      · rw [if_neg (by omega), if_neg (by omega)]
theorem flSteps_here (v : V) (l : List Int) (q : Nat) (h : q < v.steps.length) : (flSteps v l q)[q]'(by rw [flSteps_length]; exact h) = v.steps[q] := by
  rw [flSteps_at, if_neg (by omega), getD_at _ _ h]
theorem flSteps_set {v : V} {l : List Int} {q : Nat} (h : q < v.steps.length) (hq : (q : Int) ∈ l) : (flSteps v l q).set q (-(v.steps[q])) = flSteps v l (q + 1) := by
  apply List.ext_getElem
  · simp [flSteps]
  · intro i h1 h2
    rw [List.getElem_set]
    by_cases e : q = i
    · subst e
      rw [if_pos rfl, flSteps_at, if_pos ⟨by omega, hq⟩, getD_at _ _ h]
    · rw [if_neg e, flSteps_at, flSteps_at]
      by_cases hi : i < q
      · have : i < q + 1 := by omega
        simp [hi, this]
      · rw [if_neg (by omega), if_neg (by omega)]
theorem flSt_next {v : V} {l : List Int} {q : Nat} (h : q < v.dims.length) (hs : q < v.steps.length) (hq : (q : Int) ∈ l) : flSt v l (q + 1) = flSt v l q + (if 0 < v.dims[q] then (v.dims[q] - 1) * v.steps[q] else 0) := by
  simp only [flSt]
  rw [if_pos hq, getD_at _ _ h, getD_at _ _ hs]
theorem flSt_same {v : V} {l : List Int} {q : Nat} (hq : (q : Int) ∉ l) : flSt v l (q + 1) = flSt v l q := by
  simp only [flSt]
  rw [if_neg hq, Int.add_zero]
theorem mul_abs {a b x y : Int} (h1 : -x ≤ a) (h2 : a ≤ x) (h3 : -y ≤ b) (h4 : b ≤ y) (hx : 0 ≤ x) : -(x * y) ≤ a * b ∧ a * b ≤ x * y := by
  rcases Int.le_total 0 a with ha | ha
  · have p1 := Int.mul_le_mul_of_nonneg_left h4 ha
    have p2 := Int.mul_le_mul_of_nonneg_left h3 ha
    have p3 := Int.mul_le_mul_of_nonneg_right h2 (show 0 ≤ y by omega)
    rw [Int.mul_neg] at p2
    omega
  · have p1 := Int.mul_le_mul_of_nonpos_left ha h4
    have p2 := Int.mul_le_mul_of_nonpos_left ha h3
    have p3 := Int.mul_le_mul_of_nonneg_right h1 (show 0 ≤ y by omega)
    rw [Int.mul_neg] at p2
    rw [Int.neg_mul] at p3
    omega
/-- What one dimension adds is no great number. -/
theorem part_small {v : V} (h : wrong v = 0) {k : Nat} (hk : k < v.dims.length) (hs : k < v.steps.length) : 0 ≤ v.dims[k] ∧ v.dims[k] ≤ 4096 ∧ -1099511627776 ≤ v.steps[k] ∧ v.steps[k] ≤ 1099511627776 ∧
    -4503599627370496 ≤ (v.dims[k] - 1) * v.steps[k] ∧ (v.dims[k] - 1) * v.steps[k] ≤ 4503599627370496 := by
  obtain ⟨z1, z2, z3, z4⟩ := wrong_fine h
  have hd := (size_fine z1).2.1 _ (List.getElem_mem hk)
  have hss := z4 _ (List.getElem_mem hs)
  have := mul_abs (a := v.dims[k] - 1) (b := v.steps[k]) (x := 4096) (y := 1099511627776) (by omega) (by omega) hss.1 hss.2 (by omega)
  exact ⟨hd.1, hd.2, hss.1, hss.2, by omega, by omega⟩
theorem flSt_small {v : V} (h : wrong v = 0) (l : List Int) : ∀ k, k ≤ v.dims.length → -1099511627776 - 4503599627370496 * (k : Int) ≤ flSt v l k ∧ flSt v l k ≤ 1099511627776 + 4503599627370496 * (k : Int)
  | 0, _ => by
    have := (wrong_fine h).2.2.1
    simp only [flSt]; omega
  | k + 1, hk => by
    have ih := flSt_small h l k (by omega)
    obtain ⟨z1, z2, _⟩ := wrong_fine h
    have hp := part_small h (k := k) (by omega) (by omega)
    by_cases hq : (k : Int) ∈ l
    · rw [flSt_next (by omega) (by omega) hq]
      split <;> omega
    · rw [flSt_same hq]; omega
/-- What Flip says. -/
def flip (v : V) (l : List Int) : V × Int :=
  if wrong v ≠ 0 then (none_, wrong v) else if riseB v.dims.length l then made ⟨flSt v l v.dims.length, v.dims, flSteps v l v.dims.length⟩ else (none_, 6)
theorem flip_wrong {v : V} {p : List Int} (h : wrong v ≠ 0) : flip v p = (none_, wrong v) := if_pos h
theorem flip_bad {v : V} {p : List Int} (h : wrong v = 0) (h2 : riseB v.dims.length p = false) : flip v p = (none_, 6) := by unfold flip; rw [if_neg (by simp [h]), if_neg (by simp [h2])]
theorem flip_ok {v : V} {p : List Int} (h : wrong v = 0) (h2 : riseB v.dims.length p = true) : flip v p = made ⟨flSt v p v.dims.length, v.dims, flSteps v p v.dims.length⟩ := by unfold flip; rw [if_neg (by simp [h]), if_pos h2]
theorem flip_two {v : V} (h : wrong v = 0) (p : List Int) (st : Int) (c : Nat) : wrong ⟨st, v.dims, flSteps v p c⟩ = 0 ∨ wrong ⟨st, v.dims, flSteps v p c⟩ = 4 := by
  obtain ⟨z1, z2, _⟩ := wrong_fine h
  exact wrong_two z1 (by show (flSteps v p c).length = _; rw [flSteps_length]; exact z2)
end AdjV
