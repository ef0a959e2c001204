/-
  Plain: a step of Lay keeps what holds; the document picks the same place. No program in sight. Conditions: those each theorem names.
-/
import Derived.Test.YtkopkicdmbnpgaaLayPlain
namespace AdjL
set_option linter.unusedVariables false

def meet (x y : Life) : Bool := decide (0 < x.w ∧ 0 < y.w ∧ x.f < x.t ∧ y.f < y.t ∧ x.f < y.t ∧ y.f < x.t)
def hits (l : List Life) (out : List Int) (D : List Bool) (i : Nat) (p : Int) (k : Nat) : Bool :=
  D.getD k false && meet (get l i) (get l k) && decide (p < out.getD k 0 + (get l k).w) && decide (out.getD k 0 < p + (get l i).w)
def freeTo (l : List Life) (out : List Int) (D : List Bool) (i : Nat) (p : Int) : Nat → Bool
  | 0 => true
  | k + 1 => freeTo l out D i p k && !(hits l out D i p k)
def bestTo (l : List Life) (out : List Int) (D : List Bool) (i : Nat) : Nat → Int
  | 0 => if freeTo l out D i 0 l.length then 0 else -1
  | k + 1 => if D.getD k false && (decide (bestTo l out D i k < 0) || decide (out.getD k 0 + (get l k).w < bestTo l out D i k)) && freeTo l out D i (out.getD k 0 + (get l k).w) l.length then out.getD k 0 + (get l k).w else bestTo l out D i k
theorem freeTo_iff {l : List Life} {out : List Int} {D : List Bool} {i : Nat} {p : Int} : ∀ {n : Nat}, freeTo l out D i p n = true ↔ ∀ k, k < n → hits l out D i p k = false
  | 0 => ⟨fun _ k h => by omega, fun _ => rfl⟩
  | n + 1 => by
    have ih := freeTo_iff (l := l) (out := out) (D := D) (i := i) (p := p) (n := n)
    unfold freeTo
    rw [Bool.and_eq_true, ih, Bool.not_eq_true']
    constructor
    · rintro ⟨h1, h2⟩ k hk
      by_cases e : k = n
      · subst e; exact h2
      · exact h1 k (by omega)
    · intro h
      exact ⟨fun k hk => h k (by omega), h n (by omega)⟩
theorem get_mem {l : List Life} {k : Nat} (hk : k < l.length) : get l k ∈ l := by
  unfold get
  rw [List.getD_eq_getElem?_getD, List.getElem?_eq_getElem hk]; exact List.getElem_mem hk
section
variable {l : List Life} (hl : ∀ x ∈ l, ¬ bad x) {i : Nat} {T : List Int} {D : List Bool} {s : St} (h : Ok l ((i : Int) :: T) D s)
include hl h
omit hl in
theorem ok_i : i < l.length := by have := h.rng _ (List.mem_cons_self ..); omega
theorem ok_pos (hn : nothing (get l i) = false) : 0 < (get l i).w ∧ (get l i).f < (get l i).t := not_nothing (hl _ (get_mem (ok_i h))) hn
theorem ok_posk {k : Nat} (hk : k < l.length) (hD : D.getD k false = true) : 0 < (get l k).w ∧ (get l k).f < (get l k).t := not_nothing (hl _ (get_mem hk)) (h.some_ k hk hD).1
/-- What is free for the document is free for Lay. -/
theorem free_iff (hn : nothing (get l i) = false) (q : Int) : Free (now (get l i) s.lies) (get l i).w q ↔ freeTo l s.out D i q l.length = true := by
  rw [freeTo_iff]
  have hp := ok_pos hl h hn
  constructor
  · intro hf k hk
    cases hD : D.getD k false with
    | false => unfold hits; rw [hD]; rfl
    | true =>
      have hpk := ok_posk hl h hk hD
      by_cases ht : (get l i).f < (get l k).t
      · have h1 := h.lie k hk hD ⟨(i : Int), List.mem_cons_self .., by unfold fromOf; rw [Int.toNat_natCast]; exact ht⟩
        have h2 := hf _ (List.mem_filter.2 ⟨h1, decide_eq_true ht⟩)
        simp only at h2
        unfold hits
        by_cases e1 : q < s.out.getD k 0 + (get l k).w
        · have e2 : ¬ (s.out.getD k 0 < q + (get l i).w) := by omega
          rw [decide_eq_false e2, Bool.and_false]
        · rw [decide_eq_false e1, Bool.and_false, Bool.false_and]
      · have hm : meet (get l i) (get l k) = false := by
          unfold meet
          exact decide_eq_false (fun h => ht h.2.2.2.2.1)
        unfold hits
        rw [hm, Bool.and_false]; rfl
  · intro hf y hy
    obtain ⟨hy1, hy2⟩ := List.mem_filter.1 hy
    obtain ⟨k, hk, hD, rfl⟩ := h.from_ y hy1
    have hpk := ok_posk hl h hk hD
    have ht : (get l i).f < (get l k).t := of_decide_eq_true hy2
    have h1 := hf k hk
    have h2 := (h.some_ k hk hD).2.2.2 (i : Int) (List.mem_cons_self ..)
    unfold fromOf at h2
    rw [Int.toNat_natCast] at h2
    have hm : meet (get l i) (get l k) = true := by
      unfold meet
      exact decide_eq_true ⟨hp.1, hpk.1, hp.2, hpk.2, ht, by omega⟩
    unfold hits at h1
    rw [hD, hm] at h1
    simp only [Bool.true_and, Bool.and_eq_false_iff, decide_eq_false_iff_not] at h1
    show q + (get l i).w ≤ s.out.getD k 0 ∨ s.out.getD k 0 + (get l k).w ≤ q
    omega
theorem place_spec (hn : nothing (get l i) = false) : 0 ≤ lowest (now (get l i) s.lies) (get l i).w 0 ∧ (lowest (now (get l i) s.lies) (get l i).w 0 = 0 ∨ ∃ k, k < l.length ∧ D.getD k false = true ∧ lowest (now (get l i) s.lies) (get l i).w 0 = s.out.getD k 0 + (get l k).w ∧ (get l i).f < (get l k).t) ∧
    freeTo l s.out D i (lowest (now (get l i) s.lies) (get l i).w 0) l.length = true ∧ ∀ q, 0 ≤ q → freeTo l s.out D i q l.length = true → lowest (now (get l i) s.lies) (get l i).w 0 ≤ q := by
  obtain ⟨h1, h2, h3, h4⟩ := lowest_spec (ok_pos hl h hn).1 (r := now (get l i) s.lies) (p := 0) (filter_apart h.apart _)
  refine ⟨h1, ?_, (free_iff hl h hn _).1 h3, fun q hq hf => h4 q hq ((free_iff hl h hn q).2 hf)⟩
  rcases h2 with h2 | ⟨y, hy, h2⟩
  · exact .inl h2
  · obtain ⟨hy1, hy2⟩ := List.mem_filter.1 hy
    obtain ⟨k, hk, hD, rfl⟩ := h.from_ y hy1
    exact .inr ⟨k, hk, hD, h2, of_decide_eq_true hy2⟩
/-- The document picks the same place. -/
theorem best_eq (hn : nothing (get l i) = false) : bestTo l s.out D i l.length = lowest (now (get l i) s.lies) (get l i).w 0 := by
  obtain ⟨p0, p1, p2, p3⟩ := place_spec hl h hn
  generalize lowest (now (get l i) s.lies) (get l i).w 0 = p at p0 p1 p2 p3
  have key : ∀ k, k ≤ l.length → (bestTo l s.out D i k = -1 ∨ p ≤ bestTo l s.out D i k) ∧ ((p = 0 ∨ ∃ j, j < k ∧ D.getD j false = true ∧ p = s.out.getD j 0 + (get l j).w) → bestTo l s.out D i k = p) := by
    intro k
    induction k with
    | zero =>
      intro _
      unfold bestTo
      by_cases e : freeTo l s.out D i 0 l.length = true
      · rw [if_pos e]
        have := p3 0 (Int.le_refl _) e
        exact ⟨.inr (by omega), fun _ => by omega⟩
      · rw [if_neg e]
        refine ⟨.inl rfl, fun hh => ?_⟩
        rcases hh with hh | ⟨j, hj, _⟩
        · rw [hh] at p2; exact absurd p2 e
        · omega
    | succ k ih =>
      intro hk
      obtain ⟨i1, i2⟩ := ih (by omega)
      have hu : bestTo l s.out D i (k + 1) = if D.getD k false && (decide (bestTo l s.out D i k < 0) || decide (s.out.getD k 0 + (get l k).w < bestTo l s.out D i k)) && freeTo l s.out D i (s.out.getD k 0 + (get l k).w) l.length then s.out.getD k 0 + (get l k).w else bestTo l s.out D i k := rfl
      rw [hu]
      by_cases e : (D.getD k false && (decide (bestTo l s.out D i k < 0) || decide (s.out.getD k 0 + (get l k).w < bestTo l s.out D i k)) && freeTo l s.out D i (s.out.getD k 0 + (get l k).w) l.length) = true
      · rw [if_pos e]
        simp only [Bool.and_eq_true, Bool.or_eq_true, decide_eq_true_eq] at e
        obtain ⟨⟨e1, e2⟩, e3⟩ := e
        have h1 := (h.some_ k (by omega) e1).2.1
        have h2 := ok_posk hl h (by omega) e1
        have h3 := p3 _ (by omega) e3
        refine ⟨.inr h3, fun hh => ?_⟩
        by_cases hp : p = 0 ∨ ∃ j, j < k ∧ D.getD j false = true ∧ p = s.out.getD j 0 + (get l j).w
        · have h5 := i2 hp
          rw [h5] at e2
          clear hh hp p1 i2
          exfalso; omega
        · rcases hh with hh | ⟨j, hj, hj2, hj3⟩
          · exact absurd (.inl hh) hp
          · by_cases ej : j = k
            · subst ej; exact hj3.symm
            · exact absurd (.inr ⟨j, by omega, hj2, hj3⟩) hp
      · rw [if_neg e]
        refine ⟨i1, fun hh => ?_⟩
        by_cases hp : p = 0 ∨ ∃ j, j < k ∧ D.getD j false = true ∧ p = s.out.getD j 0 + (get l j).w
        · exact i2 hp
        · rcases hh with hh | ⟨j, hj, hj2, hj3⟩
          · exact absurd (.inl hh) hp
          · by_cases ej : j = k
            · subst ej
              rw [← hj3, hj2, p2] at e
              simp only [Bool.true_and, Bool.and_true, Bool.or_eq_true, decide_eq_true_eq, not_or] at e
              omega
            · exact absurd (.inr ⟨j, by omega, hj2, hj3⟩) hp
  refine (key l.length (Nat.le_refl _)).2 ?_
  rcases p1 with p1 | ⟨k, hk, hD, p1, _⟩
  · exact .inl p1
  · exact .inr ⟨k, hk, hD, p1⟩
omit hl in
theorem srt_first {j : Int} (hj : j ∈ T) : (get l i).f ≤ fromOf l j ∧ j ≠ (i : Int) := by
  have h1 := (List.pairwise_cons.1 h.srt).1 j hj
  unfold AdjS.lt at h1
  have h2 : fromOf l (i : Int) = (get l i).f := by unfold fromOf; rw [Int.toNat_natCast]
  refine ⟨by omega, fun e => ?_⟩
  rw [e] at h1
  omega
/-- A step keeps it. -/
theorem ok_step : Ok l T (if nothing (get l i) then D else D.set i true) (step l i s) := by
  have hi := ok_i h
  have hfi : D.getD i false = false := by
    have := h.fresh _ (List.mem_cons_self ..)
    rwa [Int.toNat_natCast] at this
  have hsub : ∀ j ∈ T, j ∈ (i : Int) :: T := fun j hj => List.mem_cons_of_mem _ hj
  cases hn : nothing (get l i) with
  | true =>
    rw [if_pos rfl]
    unfold step
    rw [if_pos hn]
    exact ⟨fun j hj => h.fresh j (hsub j hj), (List.pairwise_cons.1 h.srt).2, fun j hj => h.rng j (hsub j hj), h.outl, h.dl, fun k hk hD => ⟨(h.some_ k hk hD).1, (h.some_ k hk hD).2.1, (h.some_ k hk hD).2.2.1, fun j hj => (h.some_ k hk hD).2.2.2 j (hsub j hj)⟩, h.none_, h.from_, fun k hk hD ⟨j, hj, ht⟩ => h.lie k hk hD ⟨j, hsub j hj, ht⟩, h.apart, h.all0, h.two⟩
  | false =>
    rw [if_neg (by decide)]
    obtain ⟨p0, p1, p2, p3⟩ := place_spec hl h hn
    have hfree := (free_iff hl h hn _).2 p2
    have hpi := ok_pos hl h hn
    unfold step
    rw [if_neg (by rw [hn]; decide)]
    generalize lowest (now (get l i) s.lies) (get l i).w 0 = p at p0 p1 p2 p3 hfree
    have hset : ∀ k, k < l.length → (D.set i true).getD k false = if k = i then true else D.getD k false := fun k hk => AdjR.getD_set D i k (by rw [h.dl]; exact hi)
    have hout : ∀ k, (s.out.set i p).getD k 0 = if k = i then p else s.out.getD k 0 := fun k => getD_set s.out i k p (by rw [h.outl]; exact hi)
    have hold : ∀ k, k < l.length → k ≠ i → (D.set i true).getD k false = true → D.getD k false = true := fun k hk e hD => by rwa [hset k hk, if_neg e] at hD
    refine ⟨fun j hj => ?_, (List.pairwise_cons.1 h.srt).2, fun j hj => h.rng j (hsub j hj), by simpa using h.outl, by simpa using h.dl, fun k hk hD => ?_, fun k hk hD => ?_, fun y hy => ?_, fun k hk hD hx => ?_, ?_, by have := h.all0; show 0 ≤ max s.all (p + (get l i).w); omega, fun k j hk hj hkj hDk hDj ht1 ht2 => ?_⟩
    · have h1 := h.rng j (hsub j hj)
      have h2 := (srt_first h hj).2
      rw [hset j.toNat (by omega), if_neg (by omega)]
      exact h.fresh j (hsub j hj)
    · show nothing (get l k) = false ∧ 0 ≤ (s.out.set i p).getD k 0 ∧ (s.out.set i p).getD k 0 + (get l k).w ≤ max s.all (p + (get l i).w) ∧ _
      rw [hout k]
      by_cases e : k = i
      · subst e
        rw [if_pos rfl]
        exact ⟨hn, p0, by omega, fun j hj => (srt_first h hj).1⟩
      · rw [if_neg e]
        have h1 := h.some_ k hk (hold k hk e hD)
        exact ⟨h1.1, h1.2.1, by have := h1.2.2.1; omega, fun j hj => h1.2.2.2 j (hsub j hj)⟩
    · show (s.out.set i p).getD k 0 = 0
      rw [hset k hk] at hD
      rw [hout k]
      by_cases e : k = i
      · rw [if_pos e] at hD; cases hD
      · rw [if_neg e] at hD ⊢
        exact h.none_ k hk hD
    · rcases put_mem.1 hy with rfl | hy
      · exact ⟨i, hi, by rw [hset i hi, if_pos rfl], by rw [hout i, if_pos rfl]⟩
      · obtain ⟨k, hk, hD, e⟩ := h.from_ y (List.mem_filter.1 hy).1
        have hki : k ≠ i := fun e => by rw [e, hfi] at hD; cases hD
        exact ⟨k, hk, by rw [hset k hk, if_neg hki]; exact hD, by rw [hout k, if_neg hki]; exact e⟩
    · obtain ⟨j, hj, ht⟩ := hx
      show (⟨(s.out.set i p).getD k 0, (s.out.set i p).getD k 0 + (get l k).w, (get l k).t⟩ : Laid) ∈ put _ _
      rw [hout k]
      by_cases e : k = i
      · subst e
        rw [if_pos rfl]
        exact put_mem.2 (.inl rfl)
      · rw [if_neg e]
        have h1 := h.lie k hk (hold k hk e hD) ⟨j, hsub j hj, ht⟩
        have h2 := (srt_first h hj).1
        exact put_mem.2 (.inr (List.mem_filter.2 ⟨h1, decide_eq_true (show (get l i).f < (get l k).t by omega)⟩))
    · exact put_apart ⟨p0, by show p < p + (get l i).w; omega⟩ (filter_apart h.apart _) (fun z hz => by
        have := hfree z hz
        show p + (get l i).w ≤ z.at_ ∨ z.end_ ≤ p
        exact this)
    · show (s.out.set i p).getD k 0 + _ ≤ (s.out.set i p).getD j 0 ∨ (s.out.set i p).getD j 0 + _ ≤ (s.out.set i p).getD k 0
      rw [hout k, hout j]
      have hlaid : ∀ k, k < l.length → k ≠ i → D.getD k false = true → (get l i).f < (get l k).t → p + (get l i).w ≤ s.out.getD k 0 ∨ s.out.getD k 0 + (get l k).w ≤ p := fun k hk e hD ht => by
        have h1 := h.lie k hk hD ⟨(i : Int), List.mem_cons_self .., by unfold fromOf; rw [Int.toNat_natCast]; exact ht⟩
        exact hfree _ (List.mem_filter.2 ⟨h1, decide_eq_true ht⟩)
      by_cases e1 : k = i
      · subst e1
        rw [if_pos rfl, if_neg (Ne.symm hkj)]
        have := hlaid j hj (Ne.symm hkj) (hold j hj (Ne.symm hkj) hDj) ht1
        omega
      · rw [if_neg e1]
        by_cases e2 : j = i
        · subst e2
          rw [if_pos rfl]
          have := hlaid k hk e1 (hold k hk e1 hDk) ht2
          omega
        · rw [if_neg e2]
          exact h.two k j hk hj hkj (hold k hk e1 hDk) (hold j hj e2 hDj) ht1 ht2
end
end AdjL
