/-
  Plain: the running sum of Peak is the sum that is reckoned anew. No program in sight. Conditions: the tree is right.
-/
import Derived.Test.YtkopkicdmbnpgaaClimbPlain
namespace AdjR
set_option linter.unusedVariables false

theorem sumTo_split {f g h : Nat → Int} : ∀ {n : Nat}, (∀ k, k < n → f k = g k + h k) → sumTo f n = sumTo g n + sumTo h n
  | 0, _ => by simp [sumTo]
  | n + 1, H => by
    have h1 := sumTo_split (n := n) (fun k hk => H k (by omega))
    have h2 := H n (by omega)
    unfold sumTo
    omega
theorem sumTo_none {f : Nat → Int} : ∀ {n : Nat}, (∀ k, k < n → f k = 0) → sumTo f n = 0
  | 0, _ => rfl
  | n + 1, H => by
    unfold sumTo
    rw [sumTo_none (fun k hk => H k (by omega)), H n (by omega)]; rfl
theorem sumTo_one {i : Nat} {c : Int} : ∀ {n : Nat}, i < n → sumTo (fun k => if k = i then c else 0) n = c
  | 0, h => by omega
  | n + 1, h => by
    unfold sumTo
    by_cases e : n = i
    · rw [if_pos e, sumTo_none (fun k hk => if_neg (by omega))]; omega
    · rw [if_neg e, sumTo_one (by omega)]; omega
/-- What is held of k between two steps. -/
def held (ab ws : List Int) (M : List Bool) (k : Nat) : Int := if M.getD k false = true ∧ (ab.getD k 0 < 0 ∨ M.getD (ab.getD k 0).toNat false = false) then ws.getD k 0 else 0
def own (ab ws : List Int) (i : Nat) (k : Nat) : Int := if ab.getD k 0 = (i : Int) then ws.getD k 0 else 0
/-- What is made has all that stands below it made. -/
def Inv (ab : List Int) (M : List Bool) : Prop := ∀ k, k < ab.length → 0 ≤ ab.getD k 0 → M.getD (ab.getD k 0).toNat false = true → M.getD k false = true
theorem getD_set (M : List Bool) (i k : Nat) (hi : i < M.length) : (M.set i true).getD k false = if k = i then true else M.getD k false := by
  rw [List.getD_eq_getElem?_getD, List.getElem?_set]
  by_cases e : i = k
  · subst e; simp [hi]
  · rw [if_neg e, if_neg (Ne.symm e), List.getD_eq_getElem?_getD]
section
variable {ab ws : List Int} {M : List Bool} {i : Nat} (hT : treeBad ab ws = 0) (hM : M.length = ab.length) (hi : i < ab.length) (hmi : M.getD i false = false) (hI : Inv ab M)
include hT hM hi hmi
theorem lacks_eq (k : Nat) (hk : k < ab.length) : lacks ab (M.set i true) (i : Int) k = ((ab.getD k 0 == (i : Int)) && !(M.getD k false)) := by
  have h := (treeOk hT).2.2 k hk
  unfold lacks
  rw [getD_set M i k (by omega)]
  by_cases e : k = i
  · subst e
    have : (ab.getD k 0 == (k : Int)) = false := by rw [beq_eq_false_iff_ne]; intro h0; omega
    rw [this]; rfl
  · rw [if_neg e]
theorem any_eq : anyTo (lacks ab (M.set i true) (i : Int)) ab.length = (belowTo ab ab.length i).any (fun x => !(M.getD x.toNat false)) := by
  have key : ∀ n, n ≤ ab.length → anyTo (lacks ab (M.set i true) (i : Int)) n = (belowTo ab n i).any (fun x => !(M.getD x.toNat false)) := by
    intro n
    induction n with
    | zero => intro _; rfl
    | succ n ih =>
      intro hn
      unfold anyTo belowTo
      rw [ih (by omega), lacks_eq hT hM hi hmi n (by omega)]
      by_cases e : ab.getD n 0 = (i : Int)
      · rw [if_pos e, List.any_append, e]; simp
      · rw [if_neg e]
        have : (ab.getD n 0 == (i : Int)) = false := by rw [beq_eq_false_iff_ne]; exact e
        rw [this]; simp
  exact key _ (Nat.le_refl _)
theorem need_eq (hall : ∀ k, k < ab.length → ab.getD k 0 = (i : Int) → M.getD k false = true) : sumTo (term ab ws (M.set i true) (i : Int)) ab.length = sumTo (held ab ws M) ab.length + ws.getD i 0 := by
  rw [← sumTo_one (i := i) (c := ws.getD i 0) hi]
  refine sumTo_split (fun k hk => ?_)
  have h := (treeOk hT).2.2 k hk
  unfold term held
  rw [getD_set M i k (by omega), getD_set M i (ab.getD k 0).toNat (by omega)]
  by_cases e : k = i
  · subst e
    rw [hmi]
    generalize ab.getD k 0 = a at *
    generalize ws.getD k 0 = y at *
    rw [if_pos rfl, if_pos rfl, if_pos ⟨rfl, .inl rfl⟩, if_neg (by simp)]; omega
  · have e1 : ¬ (k : Int) = (i : Int) := by omega
    rw [if_neg e, if_neg e]
    by_cases e2 : ab.getD k 0 = (i : Int)
    · rw [e2, Int.toNat_natCast, hmi]
      simp
    · generalize ab.getD k 0 = a at *
      generalize hma : M.getD a.toNat false = ma
      generalize M.getD k false = mk
      generalize ws.getD k 0 = y
      by_cases e3 : a < 0
      · simp [e3]
      · have e4 : ¬ a.toNat = i := by omega
        rw [if_neg e4]
        simp [e1, e2, e3]
include hI
theorem held_next (hall : ∀ k, k < ab.length → ab.getD k 0 = (i : Int) → M.getD k false = true) : sumTo (term ab ws (M.set i true) (i : Int)) ab.length = sumTo (held ab ws (M.set i true)) ab.length + sumTo (own ab ws i) ab.length := by
  refine sumTo_split (fun k hk => ?_)
  have h := (treeOk hT).2.2 k hk
  have hinv := hI k hk
  unfold term held own
  rw [getD_set M i k (by omega), getD_set M i (ab.getD k 0).toNat (by omega)]
  by_cases e : k = i
  · subst e
    have e2 : ¬ ab.getD k 0 = (k : Int) := by omega
    clear hall
    generalize ab.getD k 0 = a at *
    by_cases e3 : a < 0
    · rw [if_pos rfl, if_neg e2, if_pos ⟨rfl, .inl rfl⟩, if_pos ⟨rfl, .inl e3⟩]; omega
    · have e4 : ¬ a.toNat = k := by omega
      have e5 : M.getD a.toNat false = false := by
        cases hm : M.getD a.toNat false with
        | false => rfl
        | true => rw [hinv (by omega) hm] at hmi; cases hmi
      rw [if_pos rfl, if_neg e2, if_neg e4, e5, if_pos ⟨rfl, .inl rfl⟩, if_pos ⟨rfl, .inr rfl⟩]; omega
  · have e1 : ¬ (k : Int) = (i : Int) := by omega
    rw [if_neg e]
    by_cases e2 : ab.getD k 0 = (i : Int)
    · have e3 := hall k hk e2
      have e6 : ¬ (i : Int) < 0 := by omega
      rw [e2, Int.toNat_natCast, e3, if_pos rfl, if_pos rfl, if_pos ⟨rfl, .inr (.inl rfl)⟩, if_neg (by simp)]; omega
    · rw [if_neg e2]
      generalize ab.getD k 0 = a at *
      generalize (if a.toNat = i then true else M.getD a.toNat false) = ma
      generalize M.getD k false = mk
      generalize ws.getD k 0 = y
      simp [e1, e2]
omit hT hmi in
theorem inv_next (hall : ∀ k, k < ab.length → ab.getD k 0 = (i : Int) → M.getD k false = true) : Inv ab (M.set i true) := by
  intro k hk h0 hm
  rw [getD_set M i _ (by omega)] at hm ⊢
  by_cases e : k = i
  · rw [if_pos e]
  · rw [if_neg e]
    by_cases e2 : (ab.getD k 0).toNat = i
    · exact hall k hk (by omega)
    · rw [if_neg e2] at hm
      exact hI k hk h0 hm
end
/-- The sum over a list of places. -/
def sumL (ws : List Int) (l : List Int) : Int := (l.map fun x => ws.getD x.toNat 0).sum
theorem sumL_snoc (ws l : List Int) (x : Int) : sumL ws (l ++ [x]) = sumL ws l + ws.getD x.toNat 0 := by simp [sumL, List.sum_append]
theorem sumL_below (ab ws : List Int) (i : Nat) : ∀ n, sumL ws (belowTo ab n i) = sumTo (own ab ws i) n
  | 0 => rfl
  | n + 1 => by
    unfold belowTo sumTo own
    by_cases e : ab.getD n 0 = (i : Int)
    · rw [if_pos e, if_pos e, sumL_snoc, sumL_below ab ws i n, Int.toNat_natCast]; rfl
    · rw [if_neg e, if_neg e, sumL_below ab ws i n, Int.add_zero]; rfl
theorem held_zero (ab ws : List Int) (n : Nat) : sumTo (held ab ws (List.replicate n false)) ab.length = 0 := by
  refine sumTo_none (fun k hk => ?_)
  unfold held
  rw [if_neg]
  rintro ⟨h, _⟩
  rw [List.getD_eq_getElem?_getD, List.getElem?_replicate] at h
  split at h <;> simp at h
theorem inv_zero (ab : List Int) (n : Nat) : Inv ab (List.replicate n false) := by
  intro k hk h0 h
  rw [List.getD_eq_getElem?_getD, List.getElem?_replicate] at h
  split at h <;> simp at h
theorem held_range {ab ws : List Int} (h : treeBad ab ws = 0) (M : List Bool) (k : Nat) (hk : k < ab.length) : 0 ≤ held ab ws M k ∧ held ab ws M k ≤ 1048576 := by
  have h2 := (treeOk h).2.2 k hk
  unfold held; split <;> omega
end AdjR
