/-
  Plain: a list in runs of one length, each in order. No program in sight. No condition.
-/
import Derived.Test.YtkopkicdmbnpgaaSortPlain
namespace AdjS
set_option linter.unusedVariables false

/-- Runs of s, all whole. -/
inductive Full (k : Int → Int) (s : Nat) : List Int → List Int → Prop
  | nil : Full k s [] []
  | snoc {D d A B : List Int} : Full k s D d → A.length = s → B.Perm A → Srt k B → Full k s (D ++ A) (d ++ B)
/-- Runs of s, the last of which may be short. -/
inductive Runs (k : Int → Int) (s : Nat) : List Int → List Int → Prop
  | last {D d : List Int} : D.length ≤ s → d.Perm D → Srt k d → Runs k s D d
  | more {A B D d : List Int} : A.length = s → B.Perm A → Srt k B → Runs k s D d → Runs k s (A ++ D) (B ++ d)
theorem Full.runs {k : Int → Int} {s : Nat} {D d : List Int} (h : Full k s D d) : ∀ {D2 d2 : List Int}, Runs k s D2 d2 → Runs k s (D ++ D2) (d ++ d2) := by
  induction h with
  | nil => intro D2 d2 h2; exact h2
  | snoc h1 hl hp hs ih =>
    intro D2 d2 h2
    rw [List.append_assoc, List.append_assoc]
    exact ih (.more hl hp hs h2)
theorem Full.length {k : Int → Int} {s : Nat} {D d : List Int} (h : Full k s D d) : d.length = D.length := by
  induction h with
  | nil => rfl
  | snoc h1 hl hp hs ih => rw [List.length_append, List.length_append, ih, hp.length_eq]
theorem Runs.perm {k : Int → Int} {s : Nat} {D d : List Int} (h : Runs k s D d) : d.Perm D := by
  induction h with
  | last _ hp _ => exact hp
  | more _ hp _ _ ih => exact hp.append ih
theorem Runs.short {k : Int → Int} {s : Nat} {D d : List Int} (h : Runs k s D d) (hl : D.length ≤ s) : Srt k d := by
  cases h with
  | last _ _ hs => exact hs
  | more ha hp hs h2 =>
    rename_i A B D d
    have h0 : D = [] := by
      rw [List.length_append] at hl
      exact List.length_eq_zero_iff.1 (by omega)
    subst h0
    have h1 := h2.perm.length_eq
    have h3 : d = [] := List.length_eq_zero_iff.1 h1
    subst h3
    rw [List.append_nil]; exact hs
theorem Runs.cut {k : Int → Int} {s : Nat} {D d : List Int} (h : Runs k s D d) (hl : s < D.length) : ∃ A B D' d', D = A ++ D' ∧ d = B ++ d' ∧ A.length = s ∧ B.length = s ∧ B.Perm A ∧ Srt k B ∧ Runs k s D' d' := by
  cases h with
  | last h0 _ _ => omega
  | more ha hp hs h2 => exact ⟨_, _, _, _, rfl, rfl, ha, by rw [hp.length_eq, ha], hp, hs, h2⟩
theorem Runs.cut2 {k : Int → Int} {s : Nat} {D d : List Int} (h : Runs k s D d) (hs : 0 < s) (hl : s + s ≤ D.length) : ∃ A B A2 B2 D' d', D = A ++ (A2 ++ D') ∧ d = B ++ (B2 ++ d') ∧ A.length = s ∧ B.length = s ∧ A2.length = s ∧ B2.length = s ∧ B.Perm A ∧ B2.Perm A2 ∧ Srt k B ∧ Srt k B2 ∧ Runs k s D' d' := by
  obtain ⟨A, B, D', d', rfl, rfl, h1, h2, h3, h4, h5⟩ := h.cut (by omega)
  rw [List.length_append] at hl
  by_cases e : s < D'.length
  · obtain ⟨A2, B2, D2, d2, rfl, rfl, g1, g2, g3, g4, g5⟩ := h5.cut e
    exact ⟨A, B, A2, B2, D2, d2, rfl, rfl, h1, h2, g1, g2, h3, g3, h4, g4, g5⟩
  · have e2 : D'.length = s := by omega
    exact ⟨A, B, D', d', [], [], by simp, by simp, h1, h2, e2, by rw [h5.perm.length_eq, e2], h3, h5.perm, h4, h5.short (by omega), .last (by simp) (List.Perm.refl _) List.Pairwise.nil⟩
theorem asc_cross {A A2 B B2 : List Int} (h : (A ++ A2).Pairwise (· < ·)) (hp : B.Perm A) (hp2 : B2.Perm A2) : ∀ x ∈ B, ∀ y ∈ B2, x < y :=
  fun x hx y hy => (List.pairwise_append.1 h).2.2 x (hp.subset hx) y (hp2.subset hy)
end AdjS
