/-
  What Index and rowMajor do from behind, in plain Lean. No program in sight. No condition.
-/
import Derived.Test.YtkbmnefjnfihbaaViewPlain
namespace AdjV
set_option linter.unusedVariables false
/-- One round of Index: what is left of the place, what has been laid. -/
def ixStep (l : List Int) (s : Int × List Int) (q : Nat) : Int × List Int := (s.1 / l.getD q 1, s.2.set q (s.1 % l.getD q 1))
def ixRun (l : List Int) (p : Int) (qs : List Nat) : Int × List Int := qs.foldl (ixStep l) (p, List.replicate l.length 0)
theorem ixRun_snoc (l : List Int) (p : Int) (qs : List Nat) (q : Nat) : ixRun l p (qs ++ [q]) = ixStep l (ixRun l p qs) q := by simp [ixRun]
theorem getD_pos {l : List Int} (hpos : ∀ d ∈ l, 1 ≤ d) (q : Nat) : 1 ≤ l.getD q 1 := by
  rw [List.getD_eq_getElem?_getD]
  rcases Nat.lt_or_ge q l.length with h | h
  · rw [List.getElem?_eq_getElem h]; exact hpos _ (List.getElem_mem h)
  · rw [List.getElem?_eq_none h]; exact Int.le_refl _
theorem ixFold_fine {l : List Int} (hpos : ∀ d ∈ l, 1 ≤ d) {p : Int} : ∀ (qs : List Nat) (s : Int × List Int), 0 ≤ s.1 ∧ s.1 ≤ p ∧ s.2.length = l.length →
    0 ≤ (qs.foldl (ixStep l) s).1 ∧ (qs.foldl (ixStep l) s).1 ≤ p ∧ (qs.foldl (ixStep l) s).2.length = l.length
  | [], s, h => h
  | q :: qs, s, ⟨h1, h2, h3⟩ => by
    have hd := getD_pos hpos q
    refine ixFold_fine hpos qs (ixStep l s q) ⟨Int.ediv_nonneg h1 (by omega), ?_, by simp [ixStep, h3]⟩
    exact Int.le_trans (Int.ediv_le_self (l.getD q 1) h1) h2
theorem ixRun_fine {l : List Int} (hpos : ∀ d ∈ l, 1 ≤ d) {p : Int} (hp : 0 ≤ p) (qs : List Nat) : 0 ≤ (ixRun l p qs).1 ∧ (ixRun l p qs).1 ≤ p ∧ (ixRun l p qs).2.length = l.length :=
  ixFold_fine hpos qs _ ⟨hp, Int.le_refl _, by simp⟩
theorem drop_prod {l : List Int} {q : Nat} (h : q < l.length) : prod (l.drop q) = l.getD q 1 * prod (l.drop (q + 1)) := by
  rw [List.drop_eq_getElem_cons h]
  simp [prod, List.getD_eq_getElem?_getD, h]
theorem back_set {α : Type} (c : List α) (z : α) (q : Nat) (h : q < c.length) : (List.replicate (q + 1) z ++ c.drop (q + 1)).set q c[q] = List.replicate q z ++ c.drop q := by
  rw [List.drop_eq_getElem_cons h, List.replicate_succ', List.append_assoc]
  have : q = (List.replicate q z).length := by simp
  rw [List.set_append_right _ _ (by simp)]
  simp
theorem ixRun_down {l : List Int} (hpos : ∀ d ∈ l, 1 ≤ d) {p : Int} (hp : 0 ≤ p) : ∀ k, k ≤ l.length →
    ixRun l p ((List.range k).map fun j => l.length - 1 - j) = (p / prod (l.drop (l.length - k)), List.replicate (l.length - k) 0 ++ (idx l p).drop (l.length - k))
  | 0, _ => by
    simp only [List.range_zero, List.map_nil, ixRun, List.foldl_nil, Nat.sub_zero, List.drop_length, prod, Int.ediv_one]
    rw [List.drop_of_length_le (by rw [idx_length]; exact Nat.le_refl _)]
    simp
  | k + 1, h => by
    have ih := ixRun_down hpos hp k (by omega)
    rw [List.range_succ, List.map_append, List.map_singleton, ixRun_snoc, ih]
    obtain ⟨q, hq⟩ : ∃ q, l.length = k + 1 + q := ⟨l.length - (k + 1), by omega⟩
    rw [show l.length - 1 - k = q by omega, show l.length - k = q + 1 by omega, show l.length - (k + 1) = q by omega]
    have hql : q < l.length := by omega
    have hpp : 0 ≤ prod (l.drop (q + 1)) := by have := prod_pos (l.drop (q + 1)) (fun d hd => hpos d (List.mem_of_mem_drop hd)); omega
    unfold ixStep
    refine Prod.ext ?_ ?_
    · show p / prod (l.drop (q + 1)) / l.getD q 1 = p / prod (l.drop q)
      rw [drop_prod hql, Int.ediv_ediv_of_nonneg hpp, Int.mul_comm]
    · show (List.replicate (q + 1) 0 ++ (idx l p).drop (q + 1)).set q (p / prod (l.drop (q + 1)) % l.getD q 1) = List.replicate q 0 ++ (idx l p).drop q
      have hx : (idx l p)[q]'(by rw [idx_length]; exact hql) = p / prod (l.drop (q + 1)) % l.getD q 1 := by
        simp [idx, List.getD_eq_getElem?_getD, hql]
      rw [← hx, back_set]
theorem ixRun_all {l : List Int} (hpos : ∀ d ∈ l, 1 ≤ d) {p : Int} (hp : 0 ≤ p) : (ixRun l p ((List.range l.length).map fun j => l.length - 1 - j)).2 = idx l p := by
  rw [ixRun_down hpos hp l.length (Nat.le_refl _)]
  simp
/-- One round of rowMajor. -/
def rmStep (l : List Int) (s : Int × List Int) (q : Nat) : Int × List Int := (s.1 * l.getD q 1, s.2.set q s.1)
def rmRun (l : List Int) (qs : List Nat) : Int × List Int := qs.foldl (rmStep l) (1, List.replicate l.length 0)
end AdjV
