/-
  Plain: what is wrong with a tree; chapter 12. No program in sight. No condition.
-/
namespace AdjR
set_option linter.unusedVariables false

def nodeBad (n i : Nat) (a w : Int) : Int := if (i + 1 = n ∧ a ≠ -1) ∨ (i + 1 < n ∧ (a ≤ (i : Int) ∨ (n : Int) ≤ a)) then 7 else if w < 0 ∨ 1048576 < w then 4 else 0
/-- The first that is not 0. -/
def firstBad (f : Nat → Int) : Nat → Int
  | 0 => 0
  | k + 1 => if firstBad f k ≠ 0 then firstBad f k else f k
theorem firstBad_at {f : Nat → Int} : ∀ {n k : Nat}, k < n → firstBad f k = 0 → f k ≠ 0 → firstBad f n = f k
  | 0, k, h, _, _ => by omega
  | n + 1, k, h, h0, h1 => by
    by_cases e : k = n
    · subst e; unfold firstBad; rw [if_neg (by simp [h0])]
    · have h2 := firstBad_at (n := n) (by omega) h0 h1
      unfold firstBad; rw [if_pos (by rw [h2]; exact h1), h2]
theorem firstBad_next {f : Nat → Int} {k : Nat} (h0 : firstBad f k = 0) (h1 : f k = 0) : firstBad f (k + 1) = 0 := by
  unfold firstBad; rw [if_neg (by simp [h0]), h1]
theorem firstBad_none {f : Nat → Int} : ∀ {n : Nat}, firstBad f n = 0 → ∀ k, k < n → f k = 0
  | 0, _, k, h => by omega
  | n + 1, h0, k, h => by
    unfold firstBad at h0
    by_cases e : firstBad f n = 0
    · rw [if_neg (by simp [e])] at h0
      by_cases e2 : k = n
      · subst e2; exact h0
      · exact firstBad_none e k (by omega)
    · rw [if_pos e] at h0; exact absurd h0 e
/-- What is wrong at a place of a tree. -/
def at_ (ab ws : List Int) (i : Nat) : Int := nodeBad ab.length i (ab.getD i 0) (ws.getD i 0)
def treeBad (ab ws : List Int) : Int := if ab.length ≠ ws.length ∨ 4096 < ab.length then 2 else firstBad (at_ ab ws) ab.length
theorem treeOk {ab ws : List Int} (h : treeBad ab ws = 0) : ws.length = ab.length ∧ ab.length ≤ 4096 ∧ ∀ k, k < ab.length → (k + 1 = ab.length → ab.getD k 0 = -1) ∧ (k + 1 < ab.length → (k : Int) < ab.getD k 0 ∧ ab.getD k 0 < (ab.length : Int)) ∧ 0 ≤ ws.getD k 0 ∧ ws.getD k 0 ≤ 1048576 := by
  unfold treeBad at h
  by_cases e : ab.length ≠ ws.length ∨ 4096 < ab.length
  · rw [if_pos e] at h; cases h
  · rw [if_neg e] at h
    refine ⟨by omega, by omega, fun k hk => ?_⟩
    have h2 := firstBad_none h k hk
    unfold at_ nodeBad at h2
    (repeat' split at h2) <;> omega
/-- Sums, and whether any. -/
def sumTo (f : Nat → Int) : Nat → Int
  | 0 => 0
  | k + 1 => sumTo f k + f k
def anyTo (f : Nat → Bool) : Nat → Bool
  | 0 => false
  | k + 1 => anyTo f k || f k
theorem anyTo_at {f : Nat → Bool} {n k : Nat} (hk : k < n) (h : f k = true) : anyTo f n = true := by
  induction n with
  | zero => omega
  | succ n ih =>
    unfold anyTo
    by_cases e : k = n
    · subst e; rw [h]; simp
    · rw [ih (by omega)]; rfl
theorem sumTo_bound {f : Nat → Int} {n : Nat} (h : ∀ k, k < n → 0 ≤ f k ∧ f k ≤ 1048576) : ∀ k, k ≤ n → 0 ≤ sumTo f k ∧ sumTo f k ≤ (k : Int) * 1048576
  | 0, _ => by simp [sumTo]
  | k + 1, hk => by
    have h1 := sumTo_bound h k (by omega)
    have h2 := h k (by omega)
    unfold sumTo
    omega
/-- What is needed of k while i is made. -/
def term (ab ws : List Int) (M : List Bool) (i : Int) (k : Nat) : Int := if M.getD k false = true ∧ ((k : Int) = i ∨ ab.getD k 0 = i ∨ ab.getD k 0 < 0 ∨ M.getD (ab.getD k 0).toNat false = false) then ws.getD k 0 else 0
/-- Is k below i, and not made? -/
def lacks (ab : List Int) (M : List Bool) (i : Int) (k : Nat) : Bool := (ab.getD k 0 == i) && !(M.getD k false)
def peakGo (ab ws : List Int) : List Int → List Bool → Int → Int × Int
  | [], _, most => (most, 0)
  | i :: rest, M, most =>
    if i < 0 ∨ (ab.length : Int) ≤ i ∨ M.getD i.toNat false = true then (0, 10)
    else if anyTo (lacks ab (M.set i.toNat true) i) ab.length = true then (0, 10)
    else peakGo ab ws rest (M.set i.toNat true) (if most < sumTo (term ab ws (M.set i.toNat true) i) ab.length then sumTo (term ab ws (M.set i.toNat true) i) ab.length else most)
def peak (ab ws order : List Int) : Int × Int :=
  if treeBad ab ws ≠ 0 then (0, treeBad ab ws)
  else if (peakGo ab ws order (List.replicate ab.length false) 0).2 ≠ 0 then peakGo ab ws order (List.replicate ab.length false) 0
  else if order.length ≠ ab.length then (0, 10)
  else peakGo ab ws order (List.replicate ab.length false) 0
theorem peak_of {ab ws order : List Int} {r : Int × Int} (h0 : treeBad ab ws = 0) (h : peakGo ab ws order (List.replicate ab.length false) 0 = r) (hr : r.2 ≠ 0) : peak ab ws order = r := by
  unfold peak
  rw [if_neg (by simp [h0]), h, if_pos hr]
theorem peak_len {ab ws order : List Int} {r : Int × Int} (h0 : treeBad ab ws = 0) (h : peakGo ab ws order (List.replicate ab.length false) 0 = r) (hr : r.2 = 0) : peak ab ws order = if order.length ≠ ab.length then (0, 10) else r := by
  unfold peak
  rw [if_neg (by simp [h0]), h, if_neg (by simp [hr])]
theorem peak_bad {ab ws order : List Int} (h0 : treeBad ab ws ≠ 0) : peak ab ws order = (0, treeBad ab ws) := by
  unfold peak; rw [if_pos h0]
theorem term_range {ab ws : List Int} (h : treeBad ab ws = 0) (M : List Bool) (i : Int) (k : Nat) (hk : k < ab.length) : 0 ≤ term ab ws M i k ∧ term ab ws M i k ≤ 1048576 := by
  have h2 := (treeOk h).2.2 k hk
  unfold term; split <;> omega
theorem term_yes {ab ws : List Int} {M : List Bool} {i : Int} {k : Nat} (h1 : M.getD k false = true) (h2 : (k : Int) = i ∨ ab.getD k 0 = i ∨ ab.getD k 0 < 0 ∨ M.getD (ab.getD k 0).toNat false = false) : term ab ws M i k = ws.getD k 0 := by unfold term; rw [if_pos ⟨h1, h2⟩]
theorem term_no {ab ws : List Int} {M : List Bool} {i : Int} {k : Nat} (h : ¬ (M.getD k false = true ∧ ((k : Int) = i ∨ ab.getD k 0 = i ∨ ab.getD k 0 < 0 ∨ M.getD (ab.getD k 0).toNat false = false))) : term ab ws M i k = 0 := by unfold term; rw [if_neg h]
/-- Those of the first k that stand below s. -/
def belowTo (ab : List Int) : Nat → Nat → List Int
  | 0, _ => []
  | k + 1, s => if ab.getD k 0 = (s : Int) then belowTo ab k s ++ [(k : Int)] else belowTo ab k s
theorem belowTo_length (ab : List Int) : ∀ (k s : Nat), (belowTo ab k s).length ≤ k
  | 0, _ => Nat.le_refl _
  | k + 1, s => by
    have h := belowTo_length ab k s
    unfold belowTo
    split
    · rw [List.length_append]; simp; omega
    · omega
theorem belowTo_mem {ab : List Int} : ∀ {k s : Nat} {x : Int}, x ∈ belowTo ab k s ↔ ∃ i : Nat, x = (i : Int) ∧ i < k ∧ ab.getD i 0 = (s : Int)
  | 0, s, x => by simp [belowTo]
  | k + 1, s, x => by
    have h := belowTo_mem (ab := ab) (k := k) (s := s) (x := x)
    unfold belowTo
    split
    · rename_i e
      rw [List.mem_append, h]
      constructor
      · rintro (⟨i, h1, h2, h3⟩ | h1)
        · exact ⟨i, h1, by omega, h3⟩
        · exact ⟨k, by simpa using h1, by omega, e⟩
      · rintro ⟨i, h1, h2, h3⟩
        by_cases e2 : i = k
        · right; simp [h1, e2]
        · left; exact ⟨i, h1, by omega, h3⟩
    · rename_i e
      rw [h]
      constructor
      · rintro ⟨i, h1, h2, h3⟩; exact ⟨i, h1, by omega, h3⟩
      · rintro ⟨i, h1, h2, h3⟩
        by_cases e2 : i = k
        · subst e2; exact absurd h3 e
        · exact ⟨i, h1, by omega, h3⟩
theorem belowTo_asc (ab : List Int) : ∀ (k s : Nat), (belowTo ab k s).Pairwise (· < ·)
  | 0, _ => List.Pairwise.nil
  | k + 1, s => by
    unfold belowTo
    split
    · refine List.pairwise_append.2 ⟨belowTo_asc ab k s, List.pairwise_singleton _ _, fun x hx y hy => ?_⟩
      obtain ⟨i, rfl, hi, _⟩ := belowTo_mem.1 hx
      simp at hy; subst hy; omega
    · exact belowTo_asc ab k s
end AdjR
