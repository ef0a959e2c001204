/-
  Cut and Spread, in plain Lean. No program in sight. No condition.
-/
import Derived.Test.YtkbmnefjnfihbaaViewPlain5
namespace AdjV
set_option linter.unusedVariables false
/-- A part of one dimension that may be. -/
def cutB (d lo hi st : Int) : Bool := decide (0 ≤ lo) && (decide (lo ≤ hi) && (decide (hi ≤ d) && (decide (1 ≤ st) && decide (st ≤ 4096))))
theorem cutB_true {d lo hi st : Int} : cutB d lo hi st = true ↔ 0 ≤ lo ∧ lo ≤ hi ∧ hi ≤ d ∧ 1 ≤ st ∧ st ≤ 4096 := by unfold cutB; simp
def cutAll (v : V) (lo hi st : List Int) : Bool := (List.range v.dims.length).all fun k => cutB (v.dims.getD k 0) (lo.getD k 0) (hi.getD k 0) (st.getD k 0)
theorem cutAll_true {v : V} {lo hi st : List Int} (h : cutAll v lo hi st = true) {k : Nat} (hk : k < v.dims.length) : cutB (v.dims.getD k 0) (lo.getD k 0) (hi.getD k 0) (st.getD k 0) = true :=
  List.all_eq_true.1 h k (List.mem_range.2 hk)
theorem cutAll_bad {v : V} {lo hi st : List Int} {k : Nat} (hk : k < v.dims.length) (h : cutB (v.dims.getD k 0) (lo.getD k 0) (hi.getD k 0) (st.getD k 0) = false) : cutAll v lo hi st = false := by
  unfold cutAll
  rw [List.all_eq_false]
  exact ⟨k, List.mem_range.2 hk, by rw [h]; simp⟩
theorem cutAll_of {v : V} {lo hi st : List Int} (h : ∀ k, k < v.dims.length → cutB (v.dims.getD k 0) (lo.getD k 0) (hi.getD k 0) (st.getD k 0) = true) : cutAll v lo hi st = true :=
  List.all_eq_true.2 fun k hk => h k (List.mem_range.1 hk)
/-- How many of lo, lo + st, .. are below hi. -/
def kept (lo hi st : Int) : Int := (hi - lo + st - 1) / st
theorem kept_tdiv {lo hi st : Int} (h1 : lo ≤ hi) (h2 : 1 ≤ st) : (hi - lo + st - 1).tdiv st = kept lo hi st := Int.tdiv_eq_ediv_of_nonneg (by omega)
/-- Counted one by one: with n of them found, the next one is lo + n * st. -/
theorem kept_more {lo hi st n : Int} (h2 : 1 ≤ st) (h : lo + n * st < hi) : n + 1 ≤ kept lo hi st := by
  unfold kept
  refine (Int.le_ediv_iff_mul_le (by omega)).2 ?_
  rw [Int.add_mul, Int.one_mul]
  omega
theorem kept_done {lo hi st n : Int} (h2 : 1 ≤ st) (h : n ≤ kept lo hi st) (h3 : ¬ lo + n * st < hi) : kept lo hi st = n := by
  have : kept lo hi st < n + 1 := by
    unfold kept
    refine (Int.ediv_lt_iff_lt_mul (by omega)).2 ?_
    rw [Int.add_mul, Int.one_mul]
    omega
  omega
theorem kept_nonneg {lo hi st : Int} (h1 : lo ≤ hi) (h2 : 1 ≤ st) : 0 ≤ kept lo hi st := Int.ediv_nonneg (by omega) (by omega)
theorem kept_le {lo hi st : Int} (h1 : lo ≤ hi) (h2 : 1 ≤ st) : kept lo hi st ≤ hi - lo + st - 1 := Int.ediv_le_self _ (by omega)
/-- Where a part begins, the first dimensions only gone through. -/
def cutSt (v : V) (lo : List Int) : Nat → Int
  | 0 => v.st
  | k + 1 => cutSt v lo k + lo.getD k 0 * v.steps.getD k 0
def cutDims (v : V) (lo hi st : List Int) : List Int := (List.range v.dims.length).map fun k => kept (lo.getD k 0) (hi.getD k 0) (st.getD k 0)
def cutSteps (v : V) (st : List Int) : List Int := (List.range v.dims.length).map fun k => v.steps.getD k 0 * st.getD k 0
theorem cutDims_length (v : V) (lo hi st : List Int) : (cutDims v lo hi st).length = v.dims.length := by simp [cutDims]
theorem cutSteps_length (v : V) (st : List Int) : (cutSteps v st).length = v.dims.length := by simp [cutSteps]
theorem cutDims_at (v : V) (lo hi st : List Int) (k : Nat) (h : k < (cutDims v lo hi st).length) : (cutDims v lo hi st)[k] = kept (lo.getD k 0) (hi.getD k 0) (st.getD k 0) := by simp [cutDims]
theorem cutSteps_at (v : V) (st : List Int) (k : Nat) (h : k < (cutSteps v st).length) : (cutSteps v st)[k] = v.steps.getD k 0 * st.getD k 0 := by simp [cutSteps]
/-- What Cut says. -/
def cut (v : V) (lo hi st : List Int) : V × Int :=
  if wrong v ≠ 0 then (none_, wrong v) else if lo.length ≠ v.dims.length ∨ hi.length ≠ v.dims.length ∨ st.length ≠ v.dims.length then (none_, 6)
  else if cutAll v lo hi st then made ⟨cutSt v lo v.dims.length, cutDims v lo hi st, cutSteps v st⟩ else (none_, 4)
theorem cut_wrong {v : V} {lo hi st : List Int} (h : wrong v ≠ 0) : cut v lo hi st = (none_, wrong v) := if_pos h
theorem cut_shape {v : V} {lo hi st : List Int} (h : wrong v = 0) (h2 : lo.length ≠ v.dims.length ∨ hi.length ≠ v.dims.length ∨ st.length ≠ v.dims.length) : cut v lo hi st = (none_, 6) := by
  unfold cut; rw [if_neg (by simp [h]), if_pos h2]
theorem cut_range {v : V} {lo hi st : List Int} (h : wrong v = 0) (h2 : lo.length = v.dims.length ∧ hi.length = v.dims.length ∧ st.length = v.dims.length) (h3 : cutAll v lo hi st = false) : cut v lo hi st = (none_, 4) := by
  unfold cut; rw [if_neg (by simp [h]), if_neg (by simp [h2]), if_neg (by simp [h3])]
theorem cut_ok {v : V} {lo hi st : List Int} (h : wrong v = 0) (h2 : lo.length = v.dims.length ∧ hi.length = v.dims.length ∧ st.length = v.dims.length) (h3 : cutAll v lo hi st = true) :
    cut v lo hi st = made ⟨cutSt v lo v.dims.length, cutDims v lo hi st, cutSteps v st⟩ := by
  unfold cut; rw [if_neg (by simp [h]), if_neg (by simp [h2]), if_pos h3]
theorem mul_small {a b : Int} (h1 : 0 ≤ a) (h2 : a ≤ 4096) (h3 : -1099511627776 ≤ b) (h4 : b ≤ 1099511627776) : -4503599627370496 ≤ a * b ∧ a * b ≤ 4503599627370496 := by
  have := mul_abs (a := a) (b := b) (x := 4096) (y := 1099511627776) (by omega) (by omega) h3 h4 (by omega)
  omega
theorem cutSt_small {v : V} (h : wrong v = 0) {lo : List Int} {m : Nat} (hm : m ≤ v.dims.length) (hc : ∀ k, k < m → 0 ≤ lo.getD k 0 ∧ lo.getD k 0 ≤ 4096) : ∀ k, k ≤ m → -1099511627776 - 4503599627370496 * (k : Int) ≤ cutSt v lo k ∧ cutSt v lo k ≤ 1099511627776 + 4503599627370496 * (k : Int)
  | 0, _ => by
    have := (wrong_fine h).2.2.1
    simp only [cutSt]; omega
  | k + 1, hk => by
    have ih := cutSt_small h hm hc k (by omega)
    obtain ⟨z1, z2, _, z4⟩ := wrong_fine h
    have hs := z4 _ (List.getElem_mem (show k < v.steps.length by omega))
    have hl := hc k (by omega)
    simp only [cutSt]
    rw [getD_at v.steps k (by omega)]
    have := mul_small hl.1 hl.2 hs.1 hs.2
    omega
theorem cutB_small {v : V} (h : wrong v = 0) {lo hi st : List Int} {j : Nat} (hj : j < v.dims.length) (hc : cutB (v.dims.getD j 0) (lo.getD j 0) (hi.getD j 0) (st.getD j 0) = true) : 0 ≤ lo.getD j 0 ∧ lo.getD j 0 ≤ 4096 := by
  have h1 := cutB_true.1 hc
  rw [getD_at v.dims j hj] at h1
  have := (size_fine (wrong_fine h).1).2.1 _ (List.getElem_mem hj)
  omega
/-- Pointwise no greater, and not below 0. -/
def le2 : List Int → List Int → Prop
  | [], [] => True
  | a :: l, b :: m => (0 ≤ a ∧ a ≤ b) ∧ le2 l m
  | _, _ => False
theorem le2_of : ∀ {l m : List Int}, l.length = m.length → (∀ k (h : k < l.length) (h2 : k < m.length), 0 ≤ l[k] ∧ l[k] ≤ m[k]) → le2 l m
  | [], [], _, _ => trivial
  | a :: l, b :: m, hl, h => ⟨h 0 (by simp) (by simp), le2_of (by simpa using hl) (fun k h1 h2 => by have := h (k + 1) (by simpa using h1) (by simpa using h2); simpa using this)⟩
  | [], _ :: _, hl, _ => by simp at hl
  | _ :: _, [], hl, _ => by simp at hl
theorem le2_prod : ∀ {l m : List Int}, le2 l m → 0 ≤ prod l ∧ prod l ≤ prod m
  | [], [], _ => by simp [prod]
  | a :: l, b :: m, h => by
    have ih := le2_prod h.2
    simp only [prod]
    exact ⟨Int.mul_nonneg h.1.1 ih.1, Int.mul_le_mul h.1.2 ih.2 ih.1 (by have := h.1; omega)⟩
  | [], _ :: _, h => h.elim
  | _ :: _, [], h => h.elim
theorem le2_mem : ∀ {l m : List Int}, le2 l m → ∀ a ∈ l, ∃ b ∈ m, 0 ≤ a ∧ a ≤ b
  | a :: l, b :: m, h, x, hx => by
    rcases List.mem_cons.1 hx with rfl | hx
    · exact ⟨b, by simp, h.1⟩
    · obtain ⟨y, hy, h2⟩ := le2_mem h.2 x hx
      exact ⟨y, by simp [hy], h2⟩
  | [], [], _, _, hx => by simp at hx
  | [], _ :: _, h, _, _ => h.elim
  | _ :: _, [], h, _, _ => h.elim
theorem le2_zero : ∀ {l m : List Int}, le2 l m → (0 : Int) ∈ m → (0 : Int) ∈ l
  | a :: l, b :: m, h, hx => by
    rcases List.mem_cons.1 hx with h0 | hx
    · have : a = 0 := by have := h.1; omega
      subst this; simp
    · simp [le2_zero h.2 hx]
  | [], [], _, hx => by simp at hx
  | [], _ :: _, h, _ => h.elim
  | _ :: _, [], h, _ => h.elim
theorem size_less {l m : List Int} (hl : l.length = m.length) (h : le2 l m) (hm : (size m).2 = 0) : (size l).2 = 0 := by
  obtain ⟨z1, z2, z3, z4, z5⟩ := size_fine hm
  have h1 : ¬ 6 < l.length := by omega
  have h2 : l.any bad = false := by
    rw [List.any_eq_false]
    intro a ha
    obtain ⟨b, hb, h3⟩ := le2_mem h a ha
    have := z2 b hb
    rw [bad_false.2 (by omega)]; simp
  by_cases h3 : (0 : Int) ∈ l
  · rw [size_none h1 h2 h3]
  · have hp := le2_prod h
    rw [size_ok h1 h2 h3 (by omega)]
theorem kept_small {lo hi st : Int} (h1 : lo ≤ hi) (h2 : 1 ≤ st) : kept lo hi st ≤ hi - lo := by
  unfold kept
  have : (hi - lo + st - 1) / st < hi - lo + 1 := by
    refine (Int.ediv_lt_iff_lt_mul (by omega)).2 ?_
    have e := Int.mul_le_mul_of_nonneg_left h2 (show 0 ≤ hi - lo by omega)
    rw [Int.mul_one] at e
    rw [Int.add_mul, Int.one_mul]
    omega
  omega
/-- A part is as right as what it is a part of, but for the numbers. -/
theorem cut_two {v : V} {lo hi st : List Int} (h : wrong v = 0) (h3 : cutAll v lo hi st = true) (s : Int) : wrong ⟨s, cutDims v lo hi st, cutSteps v st⟩ = 0 ∨ wrong ⟨s, cutDims v lo hi st, cutSteps v st⟩ = 4 := by
  obtain ⟨z1, z2, _⟩ := wrong_fine h
  have hl : (cutDims v lo hi st).length = v.dims.length := cutDims_length v lo hi st
  refine wrong_two (size_less hl (le2_of hl fun k h1 h2 => ?_) z1) (by show (cutSteps v st).length = (cutDims v lo hi st).length; rw [cutSteps_length, hl])
  have hb := cutB_true.1 (cutAll_true h3 h2)
  rw [getD_at v.dims k h2] at hb
  rw [cutDims_at]
  have a1 := kept_nonneg (lo := lo.getD k 0) (hi := hi.getD k 0) (st := st.getD k 0) (by omega) (by omega)
  have a2 := kept_small (lo := lo.getD k 0) (hi := hi.getD k 0) (st := st.getD k 0) (by omega) (by omega)
  omega
end AdjV
