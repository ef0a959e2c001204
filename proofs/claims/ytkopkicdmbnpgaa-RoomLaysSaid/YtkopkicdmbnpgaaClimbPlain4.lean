/-
  Plain: a visit makes no more than all. No program in sight. Conditions: those each theorem names.
-/
import Derived.Test.YtkopkicdmbnpgaaClimbPlain3
namespace AdjR
set_option linter.unusedVariables false

theorem below_all {ab ws : List Int} (h : treeBad ab ws = 0) (i : Nat) : ∀ m, i ≤ m → m ≤ ab.length → belowTo ab m i = belowTo ab i i := by
  intro m
  induction m with
  | zero => intro h1 _; obtain rfl : i = 0 := by omega
            rfl
  | succ m ih =>
    intro h1 h2
    by_cases e : i = m + 1
    · subst e; rfl
    · have h3 := (treeOk h).2.2 m (by omega)
      rw [← ih (by omega) (by omega)]
      conv => lhs; unfold belowTo
      rw [if_neg]
      by_cases e2 : m + 1 = ab.length
      · rw [h3.1 e2]; omega
      · have := h3.2.1 (by omega); omega
theorem below_lt {ab ws : List Int} (h : treeBad ab ws = 0) {i : Nat} (hi : i < ab.length) {x : Int} (hx : x ∈ belowTo ab ab.length i) : 0 ≤ x ∧ x < (i : Int) := by
  rw [below_all h i ab.length (by omega) (Nat.le_refl _)] at hx
  obtain ⟨k, rfl, hk, _⟩ := belowTo_mem.1 hx
  omega
theorem sum_below (ab : List Int) (f : Nat → Nat) (i : Nat) : ∀ m, (((belowTo ab m i).map (fun x => f x.toNat)).sum : Int) = sumTo (fun k => if ab.getD k 0 = (i : Int) then (f k : Int) else 0) m
  | 0 => rfl
  | m + 1 => by
    have ih := sum_below ab f i m
    unfold belowTo sumTo
    split
    · rw [List.map_append, List.sum_append, ← ih]; simp
    · rw [ih]; simp
theorem sumTo_same {f g : Nat → Int} : ∀ {n : Nat}, (∀ k, k < n → f k = g k) → sumTo f n = sumTo g n
  | 0, _ => rfl
  | n + 1, h => by unfold sumTo; rw [sumTo_same (fun k hk => h k (by omega)), h n (by omega)]
theorem sumTo_nonneg {f : Nat → Int} : ∀ {n : Nat}, (∀ k, k < n → 0 ≤ f k) → 0 ≤ sumTo f n
  | 0, _ => Int.le_refl _
  | n + 1, h => by
    have h1 := sumTo_nonneg (f := f) (n := n) (fun k hk => h k (by omega))
    have h2 := h n (by omega)
    unfold sumTo; omega
section
variable {ab ws : List Int} {F : Nat → List Int} (hT : treeBad ab ws = 0) (hF : ∀ s, (F s).Perm (belowTo ab ab.length s))
include hT hF
/-- How many are made. -/
theorem visit_count {G : Nat → List Int} (hG : ∀ i x, x ∈ G i → 0 ≤ x ∧ x < (i : Int)) (hGF : ∀ i, i < ab.length → G i = F i) {i : Nat} (hi : i < ab.length) : (((visit G i i).length : Nat) : Int) = 1 + sumTo (fun k => if ab.getD k 0 = (i : Int) then ((visit G k k).length : Int) else 0) i := by
  rw [visit_one hG i, List.length_append, List.length_flatten, List.map_map, hGF i hi]
  have h1 : ((F i).map (List.length ∘ fun x => visit G x.toNat x.toNat)).sum = ((belowTo ab ab.length i).map (fun x => (visit G x.toNat x.toNat).length)).sum := ((hF i).map _).sum_nat
  rw [h1]
  have h2 := sum_below ab (fun k => (visit G k k).length) i i
  rw [below_all hT i ab.length (by omega) (Nat.le_refl _)]
  simp only [List.length_singleton] at h2 ⊢
  omega
theorem visit_held {G : Nat → List Int} (hG : ∀ i x, x ∈ G i → 0 ≤ x ∧ x < (i : Int)) (hGF : ∀ i, i < ab.length → G i = F i) : ∀ i : Nat, i < ab.length → sumTo (fun k => if (i : Int) ≤ ab.getD k 0 then ((visit G k k).length : Int) else 0) i = (i : Int)
  | 0, _ => rfl
  | i + 1, hi => by
    have ih := visit_held hG hGF i (by omega)
    have h1 := visit_count hT hF hG hGF (i := i) (by omega)
    have h2 := sumTo_split (n := i) (f := fun k => if (i : Int) ≤ ab.getD k 0 then ((visit G k k).length : Int) else 0) (g := fun k => if ab.getD k 0 = (i : Int) then ((visit G k k).length : Int) else 0) (h := fun k => if ((i + 1 : Nat) : Int) ≤ ab.getD k 0 then ((visit G k k).length : Int) else 0) (fun k hk => by
      try dsimp only
      by_cases e : ab.getD k 0 = (i : Int)
      · rw [if_pos (by omega), if_pos e, if_neg (by omega)]; omega
      · by_cases e2 : (i : Int) ≤ ab.getD k 0
        · rw [if_pos e2, if_neg e, if_pos (by omega)]; omega
        · rw [if_neg e2, if_neg e, if_neg (by omega)]; omega)
    have h3 := (treeOk hT).2.2 i (by omega)
    show sumTo _ i + (if ((i + 1 : Nat) : Int) ≤ ab.getD i 0 then ((visit G i i).length : Int) else 0) = _
    have h4 := (h3.2.1 (by omega)).1
    rw [if_pos (by omega)]
    omega
/-- A visit makes no more than it may. -/
theorem visit_length' {G : Nat → List Int} (hG : ∀ i x, x ∈ G i → 0 ≤ x ∧ x < (i : Int)) (hGF : ∀ i, i < ab.length → G i = F i) {i : Nat} (hi : i < ab.length) : (visit G i i).length ≤ i + 1 := by
  have h1 := visit_count hT hF hG hGF hi
  have h2 := visit_held hT hF hG hGF i hi
  have h3 := sumTo_split (n := i) (f := fun k => if (i : Int) ≤ ab.getD k 0 then ((visit G k k).length : Int) else 0) (g := fun k => if ab.getD k 0 = (i : Int) then ((visit G k k).length : Int) else 0) (h := fun k => if ((i + 1 : Nat) : Int) ≤ ab.getD k 0 then ((visit G k k).length : Int) else 0) (fun k hk => by
      try dsimp only
      by_cases e : ab.getD k 0 = (i : Int)
      · rw [if_pos (by omega), if_pos e, if_neg (by omega)]; omega
      · by_cases e2 : (i : Int) ≤ ab.getD k 0
        · rw [if_pos e2, if_neg e, if_pos (by omega)]; omega
        · rw [if_neg e2, if_neg e, if_neg (by omega)]; omega)
  have h4 := sumTo_nonneg (n := i) (f := fun k => if ((i + 1 : Nat) : Int) ≤ ab.getD k 0 then ((visit G k k).length : Int) else 0) (fun k hk => by split <;> omega)
  omega
end
end AdjR
namespace AdjR
theorem climb_lt {ab ws : List Int} (h : treeBad ab ws = 0) (j : Nat) : ∀ i x, x ∈ (climbTo ab ws j).2 i → 0 ≤ x ∧ x < (i : Int) := by
  intro i x hx
  have h1 := (climbTo_perm ab ws j i).subset hx
  by_cases hi : i < ab.length
  · exact below_lt h hi h1
  · obtain ⟨k, rfl, hk, e⟩ := belowTo_mem.1 h1
    have h3 := (treeOk h).2.2 k hk
    by_cases e2 : k + 1 = ab.length
    · have := h3.1 e2; omega
    · have := h3.2.1 (by omega); omega
/-- What Climb answers: the order, how much is needed, what is wrong. -/
def climb (ab ws : List Int) : List Int × Int × Int :=
  if treeBad ab ws ≠ 0 then ([], 0, treeBad ab ws)
  else if ab.length = 0 then ([], 0, 0)
  else (visit (climbTo ab ws ab.length).2 (ab.length - 1) (ab.length - 1), (climbTo ab ws ab.length).1.getD (ab.length - 1) 0, 0)
end AdjR
