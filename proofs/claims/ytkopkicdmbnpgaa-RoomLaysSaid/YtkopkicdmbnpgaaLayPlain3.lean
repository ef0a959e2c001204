/-
  Plain: the laws RoomApart and RoomTight. No program in sight. Conditions: those each theorem names.
-/
import Derived.Test.YtkopkicdmbnpgaaLayPlain2
import Derived.Test.YtkopkicdmbnpgaaLiuPlain2
namespace AdjL
set_option linter.unusedVariables false
open AdjR (sumTo sumTo_split sumTo_none sumTo_one sumTo_mono sumTo_const sumTo_same sumTo_nonneg)

theorem sumTo_scale (c : Int) (f : Nat → Int) : ∀ n, sumTo (fun k => c * f k) n = c * sumTo f n
  | 0 => by simp [sumTo]
  | n + 1 => by
    have := sumTo_scale c f n
    show sumTo _ n + c * f n = c * (sumTo f n + f n)
    rw [this, Int.mul_add]
theorem sumTo_swap (f : Nat → Nat → Int) (m : Nat) : ∀ n, sumTo (fun k => sumTo (f k) m) n = sumTo (fun p => sumTo (fun k => f k p) n) m
  | 0 => (sumTo_none (fun p _ => rfl)).symm
  | n + 1 => by
    have ih := sumTo_swap f m n
    show sumTo _ n + sumTo (f n) m = _
    rw [ih]
    exact (sumTo_split (fun p _ => rfl)).symm
theorem sumTo_most {f : Nat → Int} : ∀ {n : Nat}, (∀ k, k < n → f k = 0 ∨ f k = 1) → (∀ k j, k < n → j < n → f k = 1 → f j = 1 → k = j) → sumTo f n ≤ 1
  | 0, _, _ => by show (0 : Int) ≤ 1; omega
  | n + 1, h, h1 => by
    have ih := sumTo_most (f := f) (n := n) (fun k hk => h k (by omega)) (fun k j hk hj => h1 k j (by omega) (by omega))
    show sumTo f n + f n ≤ 1
    rcases h n (by omega) with e | e
    · omega
    · have h0 : sumTo f n = 0 := sumTo_none (fun k hk => by
        rcases h k (by omega) with e2 | e2
        · exact e2
        · have := h1 k n (by omega) (by omega) e2 e; omega)
      omega
theorem sumTo_span {a w : Int} (ha : 0 ≤ a) (hw : 0 ≤ w) : ∀ m : Nat, sumTo (fun p => if a ≤ (p : Int) ∧ (p : Int) < a + w then (1 : Int) else 0) m = if (m : Int) ≤ a then 0 else if (m : Int) ≤ a + w then (m : Int) - a else w
  | 0 => by rw [if_pos (by omega)]; rfl
  | m + 1 => by
    have ih := sumTo_span ha hw m
    show sumTo _ m + (if a ≤ (m : Int) ∧ (m : Int) < a + w then (1 : Int) else 0) = _
    rw [ih]
    (repeat' split) <;> omega
theorem loadAt_sum (t : Int) : ∀ (l : List Life), loadAt l t = sumTo (fun k => if (get l k).f ≤ t ∧ t < (get l k).t then (get l k).w else 0) l.length := by
  intro l
  have key : ∀ m, m ≤ l.length → ((l.take m).map fun y => if y.f ≤ t ∧ t < y.t then y.w else 0).sum = sumTo (fun k => if (get l k).f ≤ t ∧ t < (get l k).t then (get l k).w else 0) m := by
    intro m
    induction m with
    | zero => intro _; rfl
    | succ m ih =>
      intro hm
      have hg : get l m = l[m] := by unfold get; rw [List.getD_eq_getElem?_getD, List.getElem?_eq_getElem (by omega)]; rfl
      rw [List.take_succ_eq_append_getElem (by omega), List.map_append, List.sum_append, ih (by omega)]
      show _ = sumTo _ m + (if (get l m).f ≤ t ∧ t < (get l m).t then (get l m).w else 0)
      rw [hg]; simp
  have := key l.length (Nat.le_refl _)
  rw [List.take_length] at this
  exact this
/-- Disjoint spans below M hold no more than M. -/
theorem spans_le {n : Nat} {M : Int} {a w : Nat → Int} {q : Nat → Bool} (hM : 0 ≤ M) (h : ∀ k, k < n → q k = true → 0 ≤ a k ∧ 0 ≤ w k ∧ a k + w k ≤ M) (hd : ∀ k j, k < n → j < n → k ≠ j → q k = true → q j = true → a k + w k ≤ a j ∨ a j + w j ≤ a k) : sumTo (fun k => if q k then w k else 0) n ≤ M := by
  obtain ⟨m, rfl⟩ : ∃ m : Nat, M = (m : Int) := ⟨M.toNat, by omega⟩
  have h1 : sumTo (fun k => if q k then w k else 0) n = sumTo (fun k => sumTo (fun p => if q k = true ∧ a k ≤ (p : Int) ∧ (p : Int) < a k + w k then (1 : Int) else 0) m) n := sumTo_same (fun k hk => by
    cases hq : q k with
    | false => rw [if_neg (by simp)]; exact (sumTo_none (fun p _ => by rw [if_neg (by simp)])).symm
    | true =>
      have h2 := h k hk hq
      have h3 := sumTo_span h2.1 h2.2.1 m
      rw [if_pos rfl]
      have h4 : sumTo (fun p => if true = true ∧ a k ≤ (p : Int) ∧ (p : Int) < a k + w k then (1 : Int) else 0) m = sumTo (fun p => if a k ≤ (p : Int) ∧ (p : Int) < a k + w k then (1 : Int) else 0) m := sumTo_same (fun p _ => by simp)
      rw [h4, h3]
      (repeat' split) <;> omega)
  rw [h1, sumTo_swap]
  have h5 : sumTo (fun p => sumTo (fun k => if q k = true ∧ a k ≤ (p : Int) ∧ (p : Int) < a k + w k then (1 : Int) else 0) n) m ≤ sumTo (fun _ => (1 : Int)) m := sumTo_mono (fun p _ => sumTo_most (fun k _ => by
    by_cases e : q k = true ∧ a k ≤ (p : Int) ∧ (p : Int) < a k + w k
    · rw [if_pos e]; exact .inr rfl
    · rw [if_neg e]; exact .inl rfl) (fun k j hk hj e1 e2 => by
    by_cases c1 : q k = true ∧ a k ≤ (p : Int) ∧ (p : Int) < a k + w k
    · by_cases c2 : q j = true ∧ a j ≤ (p : Int) ∧ (p : Int) < a j + w j
      · refine Decidable.byContradiction (fun hne => ?_)
        have := hd k j hk hj hne c1.1 c2.1
        omega
      · rw [if_neg c2] at e2; omega
    · rw [if_neg c1] at e1; omega))
  rw [sumTo_const] at h5
  exact h5
section
variable {l : List Life} (hl : ∀ x ∈ l, ¬ bad x)
include hl
theorem run_ok : ∀ (T : List Int) (D : List Bool) (s : St), Ok l T D s → (∀ k, k < l.length → (k : Int) ∉ T → (D.getD k false = true ↔ nothing (get l k) = false)) → ∃ D', Ok l [] D' (layGo l T s) ∧ ∀ k, k < l.length → (D'.getD k false = true ↔ nothing (get l k) = false)
  | [], D, s, h, hD => ⟨D, h, fun k hk => hD k hk (by simp)⟩
  | i :: T, D, s, h, hD => by
    have hr := h.rng i (List.mem_cons_self ..)
    obtain ⟨z, rfl⟩ : ∃ z : Nat, i = (z : Int) := ⟨i.toNat, by omega⟩
    have hfz := h.fresh _ (List.mem_cons_self ..)
    rw [Int.toNat_natCast] at hfz
    have h2 := ok_step hl h
    have hz := ok_i h
    show ∃ D', Ok l [] D' (layGo l T (step l ((z : Int)).toNat s)) ∧ _
    rw [Int.toNat_natCast]
    refine run_ok T _ _ h2 (fun k hk hkT => ?_)
    by_cases e : k = z
    · subst e
      cases hn : nothing (get l k) with
      | true => rw [if_pos rfl, hfz]; simp
      | false => rw [if_neg (by decide), AdjR.getD_set D k k (by rw [h.dl]; exact hk), if_pos rfl]; simp
    · have h3 := hD k hk (fun hm => (List.mem_cons.1 hm).elim (fun e2 => e (by omega)) hkT)
      cases hn : nothing (get l z) with
      | true => rw [if_pos rfl]; exact h3
      | false => rw [if_neg (by decide), AdjR.getD_set D z k (by rw [h.dl]; exact hz), if_neg e]; exact h3
theorem lay_ok : ∃ D, Ok l [] D (laySt l) ∧ ∀ k, k < l.length → (D.getD k false = true ↔ nothing (get l k) = false) :=
  run_ok hl _ _ _ (ok_start l) (fun k hk hn => absurd ((order_perm l).symm.subset (upToN_mem.2 ⟨by omega, by omega⟩)) hn)
theorem out_len : (laySt l).out.length = l.length := by
  obtain ⟨D, h, _⟩ := lay_ok hl
  exact h.outl
theorem all_pos : 0 ≤ (laySt l).all := by
  obtain ⟨D, h, _⟩ := lay_ok hl
  exact h.all0
/-- RoomApart: places are right, and within what is said. -/
theorem apart_one {k : Nat} (hk : k < l.length) : 0 ≤ (laySt l).out.getD k 0 ∧ ((get l k).f < (get l k).t → (laySt l).out.getD k 0 + (get l k).w ≤ (laySt l).all) := by
  obtain ⟨D, h, hD⟩ := lay_ok hl
  have hb := hl _ (get_mem hk)
  cases hc : D.getD k false with
  | true =>
    have h1 := h.some_ k hk hc
    exact ⟨h1.2.1, fun _ => h1.2.2.1⟩
  | false =>
    have h1 := h.none_ k hk hc
    have h2 : nothing (get l k) = true := by
      cases hn : nothing (get l k) with
      | true => rfl
      | false => rw [(hD k hk).2 hn] at hc; cases hc
    rw [h1]
    refine ⟨Int.le_refl _, fun ht => ?_⟩
    unfold nothing at h2
    simp only [Bool.or_eq_true, beq_iff_eq] at h2
    have := h.all0
    omega
theorem apart_two {k j : Nat} (hk : k < l.length) (hj : j < l.length) (hkj : k ≠ j) (h1 : (get l k).f < (get l j).t) (h2 : (get l j).f < (get l k).t) (h3 : (get l k).f < (get l k).t) (h4 : (get l j).f < (get l j).t) : ¬ ((laySt l).out.getD k 0 < (laySt l).out.getD j 0 + (get l j).w ∧ (laySt l).out.getD j 0 < (laySt l).out.getD k 0 + (get l k).w) := by
  obtain ⟨D, h, hD⟩ := lay_ok hl
  have pk := (apart_one hl hk).1
  have pj := (apart_one hl hj).1
  have zero : ∀ k, k < l.length → (get l k).f < (get l k).t → D.getD k false = false → (laySt l).out.getD k 0 = 0 ∧ (get l k).w = 0 := fun k hk ht hc => by
    refine ⟨h.none_ k hk hc, ?_⟩
    have h2 : nothing (get l k) = true := by
      cases hn : nothing (get l k) with
      | true => rfl
      | false => rw [(hD k hk).2 hn] at hc; cases hc
    unfold nothing at h2
    simp only [Bool.or_eq_true, beq_iff_eq] at h2
    omega
  cases hc : D.getD k false with
  | false => have := zero k hk h3 hc; omega
  | true =>
    cases hd : D.getD j false with
    | false => have := zero j hj h4 hd; omega
    | true =>
      have := h.two k j hk hj hkj hc hd h1 h2
      omega
/-- What is said is not less than what is needed at one time. -/
theorem load_le : load l ≤ (laySt l).all := by
  obtain ⟨D, h, hD⟩ := lay_ok hl
  refine loadGo_le h.all0 (fun x hx => ?_)
  rw [loadAt_sum]
  have h1 : sumTo (fun k => if (get l k).f ≤ x.f ∧ x.f < (get l k).t then (get l k).w else 0) l.length = sumTo (fun k => if (D.getD k false && decide ((get l k).f ≤ x.f ∧ x.f < (get l k).t)) then (get l k).w else 0) l.length := sumTo_same (fun k hk => by
    cases hc : D.getD k false with
    | true => simp
    | false =>
      have h2 : nothing (get l k) = true := by
        cases hn : nothing (get l k) with
        | true => rfl
        | false => rw [(hD k hk).2 hn] at hc; cases hc
      unfold nothing at h2
      simp only [Bool.or_eq_true, beq_iff_eq] at h2
      rw [Bool.false_and]
      show _ = (if false = true then _ else 0)
      rw [if_neg (by decide : ¬ (false = true))]
      by_cases e : (get l k).f ≤ x.f ∧ x.f < (get l k).t
      · rw [if_pos e]; omega
      · rw [if_neg e])
  rw [h1]
  refine spans_le (a := fun k => (laySt l).out.getD k 0) h.all0 (fun k hk hq => ?_) (fun k j hk hj hkj hqk hqj => ?_)
  · have hc := (Bool.and_eq_true _ _ ▸ hq : _ ∧ _).1
    have h2 := h.some_ k hk hc
    have h3 := hl _ (get_mem hk)
    unfold bad at h3
    exact ⟨h2.2.1, by omega, h2.2.2.1⟩
  · have h2 := (Bool.and_eq_true _ _ ▸ hqk : _ ∧ _)
    have h3 := (Bool.and_eq_true _ _ ▸ hqj : _ ∧ _)
    have h4 := of_decide_eq_true h2.2
    have h5 := of_decide_eq_true h3.2
    exact h.two k j hk hj hkj h2.1 h3.1 (by omega) (by omega)
end
end AdjL
