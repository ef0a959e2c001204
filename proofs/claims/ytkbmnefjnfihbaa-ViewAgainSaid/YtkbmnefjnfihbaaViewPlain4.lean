/-
  Turn, in plain Lean: an order of dimensions: each once. No program in sight. No condition.
-/
import Derived.Test.YtkbmnefjnfihbaaViewPlain3
namespace AdjV
set_option linter.unusedVariables false
theorem nodup_le {α : Type} [DecidableEq α] : ∀ {l m : List α}, l.Nodup → (∀ x ∈ l, x ∈ m) → l.length ≤ m.length
  | [], _, _, _ => Nat.zero_le _
  | a :: l, m, hn, hs => by
    rw [List.nodup_cons] at hn
    have ha : a ∈ m := hs a (by simp)
    have ih := nodup_le (m := m.erase a) hn.2 (fun x hx => by
      have hne : x ≠ a := fun e => hn.1 (e ▸ hx)
      exact (List.mem_erase_of_ne hne).2 (hs x (by simp [hx])))
    have := List.length_erase_of_mem ha
    have := List.length_pos_of_mem ha
    simp; omega
theorem nodup_all {α : Type} [DecidableEq α] {l m : List α} (hn : l.Nodup) (hs : ∀ x ∈ l, x ∈ m) (hl : m.length ≤ l.length) : ∀ x ∈ m, x ∈ l := by
  intro x hx
  apply Classical.byContradiction
  intro hxl
  have := nodup_le (l := x :: l) (m := m) (List.nodup_cons.2 ⟨hxl, hn⟩) (fun y hy => by
    rcases List.mem_cons.1 hy with rfl | hy
    · exact hx
    · exact hs y hy)
  simp at this
  omega
theorem cover_nodup {α : Type} [DecidableEq α] : ∀ {r p : List α}, r.Nodup → (∀ x ∈ r, x ∈ p) → p.length ≤ r.length → p.Nodup ∧ ∀ x ∈ p, x ∈ r
  | [], p, _, _, hl => by
    obtain rfl : p = [] := by simpa using hl
    simp
  | a :: r, p, hn, hs, hl => by
    rw [List.nodup_cons] at hn
    have ha : a ∈ p := hs a (by simp)
    have h1 := List.length_erase_of_mem ha
    have h2 := List.length_pos_of_mem ha
    obtain ⟨i1, i2⟩ := cover_nodup (r := r) (p := p.erase a) hn.2 (fun x hx => by
      have hne : x ≠ a := fun e => hn.1 (e ▸ hx)
      exact (List.mem_erase_of_ne hne).2 (hs x (by simp [hx]))) (by simp at hl; omega)
    have hp : p.Perm (a :: p.erase a) := List.perm_cons_erase ha
    have hna : a ∉ p.erase a := fun h => hn.1 (i2 a h)
    refine ⟨hp.nodup_iff.2 (List.nodup_cons.2 ⟨hna, i1⟩), fun x hx => ?_⟩
    rcases List.mem_cons.1 (hp.mem_iff.1 hx) with rfl | h
    · simp
    · simp [i2 x h]
def rangeZ (n : Nat) : List Int := (List.range n).map fun k : Nat => (k : Int)
theorem rangeZ_length (n : Nat) : (rangeZ n).length = n := by simp [rangeZ]
theorem rangeZ_mem {n : Nat} {x : Int} : x ∈ rangeZ n ↔ 0 ≤ x ∧ x < n := by
  unfold rangeZ
  rw [List.mem_map]
  constructor
  · rintro ⟨k, hk, rfl⟩; have := List.mem_range.1 hk; omega
  · intro h; exact ⟨x.toNat, List.mem_range.2 (by omega), by omega⟩
theorem rangeZ_nodup (n : Nat) : (rangeZ n).Nodup := by
  unfold rangeZ
  unfold List.Nodup
  rw [List.pairwise_map]
  exact (List.nodup_range (n := n)).imp fun {a b} h e => h (by omega)
/-- Each of n dimensions once. -/
def permOK (n : Nat) (p : List Int) : Bool := decide (p.length = n) && (rangeZ n).all (fun k => decide (k ∈ p))
theorem permOK_len {n : Nat} {p : List Int} (h : p.length ≠ n) : permOK n p = false := by unfold permOK; simp [h]
theorem permOK_lacks {n : Nat} {p : List Int} {k : Int} (h1 : 0 ≤ k) (h2 : k < n) (h : k ∉ p) : permOK n p = false := by
  unfold permOK
  rw [Bool.and_eq_false_iff]
  right
  rw [List.all_eq_false]
  exact ⟨k, rangeZ_mem.2 ⟨h1, h2⟩, by simpa using h⟩
theorem permOK_has {n : Nat} {p : List Int} (h1 : p.length = n) (h : ∀ k : Nat, k < n → (k : Int) ∈ p) : permOK n p = true := by
  unfold permOK
  rw [Bool.and_eq_true, decide_eq_true_iff, List.all_eq_true]
  refine ⟨h1, fun x hx => ?_⟩
  obtain ⟨a, b⟩ := rangeZ_mem.1 hx
  have := h x.toNat (by omega)
  rw [show ((x.toNat : Nat) : Int) = x by omega] at this
  simpa using this
theorem permOK_true {n : Nat} {p : List Int} (h : permOK n p = true) : p.length = n ∧ p.Nodup ∧ (∀ x ∈ p, 0 ≤ x ∧ x < n) ∧ ∀ x : Int, 0 ≤ x → x < n → x ∈ p := by
  unfold permOK at h
  rw [Bool.and_eq_true, decide_eq_true_iff, List.all_eq_true] at h
  have hc : ∀ x ∈ rangeZ n, x ∈ p := fun x hx => by simpa using h.2 x hx
  obtain ⟨h1, h2⟩ := cover_nodup (rangeZ_nodup n) hc (by rw [rangeZ_length]; omega)
  exact ⟨h.1, h1, fun x hx => rangeZ_mem.1 (h2 x hx), fun x a b => hc x (rangeZ_mem.2 ⟨a, b⟩)⟩
theorem permOK_of {n : Nat} {p : List Int} (h1 : p.length = n) (h2 : p.Nodup) (h3 : ∀ x ∈ p, 0 ≤ x ∧ x < n) : permOK n p = true := by
  have := nodup_all h2 (fun x hx => rangeZ_mem.2 (h3 x hx)) (by rw [rangeZ_length]; omega)
  exact permOK_has h1 fun k hk => this k (rangeZ_mem.2 (by omega))
theorem permOK_twice {n : Nat} {p : List Int} {k : Nat} (hk : k < p.length) (h : p[k] ∈ p.take k) : permOK n p = false := by
  cases hb : permOK n p with
  | false => rfl
  | true =>
    exfalso
    have hn := (permOK_true hb).2.1
    rw [← List.take_append_drop k p, List.nodup_append] at hn
    exact hn.2.2 _ h p[k] (List.mem_iff_getElem.2 ⟨0, by simp; omega, by simp⟩) rfl
theorem permOK_out {n : Nat} {p : List Int} {k : Nat} (hk : k < p.length) (h : p[k] < 0 ∨ (n : Int) ≤ p[k]) : permOK n p = false := by
  cases hb : permOK n p with
  | false => rfl
  | true =>
    exfalso
    have := (permOK_true hb).2.2.1 p[k] (List.getElem_mem hk)
    omega
/-- One of a list, by its number. -/
def pick (l : List Int) (k : Int) : Int := l.getD k.toNat 0
theorem pick_nat (l : List Int) (q : Nat) (h : q < l.length) : pick l (q : Int) = l[q] := by simp [pick, List.getD_eq_getElem?_getD, h]
/-- What Turn says. -/
def turn (v : V) (p : List Int) : V × Int :=
  if wrong v ≠ 0 then (none_, wrong v) else if permOK v.dims.length p then (⟨v.st, p.map (pick v.dims), p.map (pick v.steps)⟩, 0) else (none_, 6)
theorem turn_wrong {v : V} {p : List Int} (h : wrong v ≠ 0) : turn v p = (none_, wrong v) := if_pos h
theorem turn_bad {v : V} {p : List Int} (h : wrong v = 0) (h2 : permOK v.dims.length p = false) : turn v p = (none_, 6) := by unfold turn; rw [if_neg (by simp [h]), if_neg (by simp [h2])]
theorem turn_ok {v : V} {p : List Int} (h : wrong v = 0) (h2 : permOK v.dims.length p = true) : turn v p = (⟨v.st, p.map (pick v.dims), p.map (pick v.steps)⟩, 0) := by unfold turn; rw [if_neg (by simp [h]), if_pos h2]
theorem map_take_next {α β : Type} (f : α → β) (p : List α) (k : Nat) (h : k < p.length) : (p.take (k + 1)).map f = (p.take k).map f ++ [f p[k]] := by rw [take_next p k h, List.map_append]; rfl
end AdjV
