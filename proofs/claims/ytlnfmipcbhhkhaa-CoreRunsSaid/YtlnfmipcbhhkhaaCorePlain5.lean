/-
  Plain: the first race; what is known of right code. No program in sight. No condition.
-/
import Derived.Test.YtlnfmipcbhhkhaaCorePlain4
import Derived.Test.YtlnfmipcbhhkhaaCorePlain2
namespace AdjC
set_option linter.unusedVariables false

theorem firstBad_all {f : I → Int} : ∀ {l : List I}, firstBad f l = 0 → ∀ x ∈ l, f x = 0
  | y :: l, h, x, hx => by
    have h' : (if f y ≠ 0 then f y else firstBad f l) = 0 := h
    by_cases hy : f y ≠ 0
    · rw [if_pos hy] at h'; exact absurd h' hy
    · rw [if_neg hy] at h'
      rcases List.mem_cons.1 hx with rfl | hx
      · simpa using hy
      · exact firstBad_all h' x hx
theorem wrong_zero {c : Code} (h : wrong c = 0) : (0 ≤ c.pad ∧ c.pad ≤ 4096 ∧ 0 ≤ c.mem ∧ c.mem ≤ 1048576) ∧ (c.mover.length ≤ 262144 ∧ c.maker.length ≤ 262144) ∧ (∀ x ∈ c.mover, wrongI c.pad c.mem true x = 0) ∧ (∀ x ∈ c.maker, wrongI c.pad c.mem false x = 0) ∧ sems.any (tangled c) = false := by
  unfold wrong at h
  by_cases h1 : c.pad < 0 ∨ 4096 < c.pad ∨ c.mem < 0 ∨ 1048576 < c.mem
  · rw [if_pos h1] at h; cases h
  · rw [if_neg h1] at h
    by_cases h2 : 262144 < c.mover.length ∨ 262144 < c.maker.length
    · rw [if_pos h2] at h; cases h
    · rw [if_neg h2] at h
      by_cases h3 : firstBad (wrongI c.pad c.mem true) c.mover ≠ 0
      · rw [if_pos h3] at h; exact absurd h h3
      · rw [if_neg h3] at h
        by_cases h4 : firstBad (wrongI c.pad c.mem false) c.maker ≠ 0
        · rw [if_pos h4] at h; exact absurd h h4
        · rw [if_neg h4] at h
          by_cases h5 : sems.any (tangled c) = true
          · rw [if_pos h5] at h; cases h
          · exact ⟨by omega, by omega, firstBad_all (by simpa using h3), firstBad_all (by simpa using h4), by simpa using h5⟩
/-- The numbers of a right instruction (no Post, no Wait) are small. -/
theorem right_small {pad mem : Int} {mv : Bool} {x : I} (h : wrongI pad mem mv x = 0) (hd : ¬ (x.d = 3 ∨ x.d = 4)) :
    (0 ≤ x.n ∧ x.n ≤ 4096) ∧ (-1048576 ≤ x.a ∧ x.a ≤ 1048576) ∧ (-1048576 ≤ x.b ∧ x.b ≤ 1048576) ∧ (-1048576 ≤ x.c ∧ x.c ≤ 1048576) := by
  unfold wrongI at h
  by_cases hb : belongs x.d mv = false
  · rw [if_pos hb] at h; cases h
  · rw [if_neg hb, if_neg hd] at h
    by_cases h2 : x.n < 0 ∨ 4096 < x.n ∨ far x.a = true ∨ far x.b = true ∨ far x.c = true
    · rw [if_pos h2] at h; cases h
    · simp only [not_or] at h2
      obtain ⟨g1, g2, g3, g4, g5⟩ := h2
      simp [far] at g3 g4 g5
      omega
theorem right_spans {pad mem : Int} {mv : Bool} {x : I} (h : wrongI pad mem mv x = 0) : ∀ s ∈ reads x ++ [write x], -1048576 ≤ s.1 ∧ s.1 ≤ 1048576 ∧ 0 ≤ s.2 ∧ s.2 ≤ 4096 := by
  by_cases hd : x.d = 3 ∨ x.d = 4
  · intro s hs
    have hr : reads x = [] := by unfold reads; rw [if_neg (by omega), if_neg (by omega), if_neg (by omega), if_neg (by omega), if_neg (by omega), if_pos hd]
    have hw : write x = (0, 0) := by unfold write; rw [if_neg (by omega), if_neg (by omega), if_neg (by omega), if_neg (by omega), if_neg (by omega), if_pos hd]
    rw [hr, hw] at hs
    simp at hs
    subst hs
    simp only; omega
  · obtain ⟨hn, ha, hb, hc⟩ := right_small h hd
    intro s hs
    unfold reads write at hs
    repeat' split at hs
    all_goals
      simp only [List.nil_append, List.cons_append, List.mem_cons, List.not_mem_nil, or_false] at hs
      rcases hs with rfl | hs
      all_goals first | (simp only; omega) | (rcases hs with rfl | rfl | rfl <;> (simp only; omega)) | (rcases hs with rfl | rfl <;> (simp only; omega)) | (subst hs; simp only; omega)
theorem right_kind {pad mem : Int} {mv : Bool} {x : I} (h : wrongI pad mem mv x = 0) : 1 ≤ x.d ∧ x.d ≤ 14 := by
  unfold wrongI at h
  by_cases hb : belongs x.d mv = false
  · rw [if_pos hb] at h; cases h
  · have := mt belongs_ref.2 hb
    simp only [not_or] at this
    omega

/-- What Races answers. -/
def races (c : Code) : (Bool × Int × Int) × Int :=
  if wrong c ≠ 0 then ((false, 0, 0), wrong c) else match race c with | none => ((false, 0, 0), 0) | some (i, j) => ((true, (i : Int), (j : Int)), 0)
theorem races_wrong {c : Code} (h : wrong c ≠ 0) : races c = ((false, 0, 0), wrong c) := if_pos h
theorem races_some {c : Code} (h : wrong c = 0) {i j : Nat} (h2 : race c = some (i, j)) : races c = ((true, (i : Int), (j : Int)), 0) := by
  unfold races; rw [if_neg (by simpa using h), h2]
theorem races_none {c : Code} (h : wrong c = 0) (h2 : race c = none) : races c = ((false, 0, 0), 0) := by
  unfold races; rw [if_neg (by simpa using h), h2]
theorem find_range {m : Nat} {p : Nat → Bool} {j : Nat} (h : j < m) (hp : p j = true) (hn : ∀ k, k < j → p k = false) : (List.range m).find? p = some j := by
  rw [List.find?_eq_some_iff_getElem]
  refine ⟨hp, j, by simpa using h, by simp, fun k hk => ?_⟩
  simp [hn k hk]
theorem find_range_none {m : Nat} {p : Nat → Bool} (hn : ∀ k, k < m → p k = false) : (List.range m).find? p = none := by
  rw [List.find?_eq_none]
  intro k hk
  simp [hn k (by simpa using hk)]
theorem findSome_range {α : Type} {m : Nat} {f : Nat → Option α} {j : Nat} {v : α} (h : j < m) (hp : f j = some v) (hn : ∀ k, k < j → f k = none) : (List.range m).findSome? f = some v := by
  rw [List.findSome?_eq_some_iff]
  refine ⟨List.range j, j, (List.range (m - j - 1)).map (· + (j + 1)), ?_, hp, fun k hk => hn k (by simpa using hk)⟩
  apply List.ext_getElem?
  intro i
  rw [List.getElem?_append]
  by_cases hi : i < j
  · simp [hi, show i < m by omega]
  · rw [if_neg (by simpa using hi)]
    simp only [List.length_range]
    rcases Nat.lt_or_ge i m with him | him
    · by_cases e : i = j
      · subst e; simp [him]
      · rw [show i - j = (i - j - 1) + 1 by omega]
        simp [him, show i - j - 1 < m - j - 1 by omega]
        omega
    · rw [List.getElem?_eq_none (by simpa using him), List.getElem?_eq_none (by simp; omega)]
theorem findSome_range_none {α : Type} {m : Nat} {f : Nat → Option α} (hn : ∀ k, k < m → f k = none) : (List.range m).findSome? f = none := by
  rw [List.findSome?_eq_none_iff]
  intro k hk
  exact hn k (by simpa using hk)
theorem raceOf_some {c : Code} {i j : Nat} (h : j < c.maker.length) (hp : raceB c i j = true) (hn : ∀ k, k < j → raceB c i k = false) : raceOf c i = some j := find_range h hp hn
theorem raceOf_none {c : Code} {i : Nat} (hn : ∀ k, k < c.maker.length → raceB c i k = false) : raceOf c i = none := find_range_none hn
theorem race_some {c : Code} {i j : Nat} (h : i < c.mover.length) (hp : raceOf c i = some j) (hn : ∀ k, k < i → raceOf c k = none) : race c = some (i, j) :=
  findSome_range h (by rw [hp]; rfl) (fun k hk => by rw [hn k hk]; rfl)
theorem race_none {c : Code} (hn : ∀ k, k < c.mover.length → raceOf c k = none) : race c = none := findSome_range_none (fun k hk => by rw [hn k hk]; rfl)
theorem raceB_at {c : Code} {i j : Nat} {x y : I} (hi : i < c.mover.length) (hj : j < c.maker.length) (hx : c.mover[i] = x) (hy : c.maker[j] = y) :
    raceB c i j = (decide (nowK c.mover c.maker (i + 1) ≤ j) && decide (nowK c.maker c.mover (j + 1) ≤ i) && clash x y) := by
  unfold raceB; rw [List.getElem?_eq_getElem hi, List.getElem?_eq_getElem hj, hx, hy]
theorem raceB_before {c : Code} {i j : Nat} (h : (j : Int) < nowK c.mover c.maker (i + 1)) : raceB c i j = false := by
  unfold raceB; rw [show decide (nowK c.mover c.maker (i + 1) ≤ (j : Int)) = false by simp; omega]; simp
theorem raceB_behind {c : Code} {i j k : Nat} (hjk : j ≤ k) (h : (i : Int) < nowK c.maker c.mover (j + 1)) : raceB c i k = false := by
  have := nowK_le c.maker c.mover (show j + 1 ≤ k + 1 by omega)
  unfold raceB; rw [show decide (nowK c.maker c.mover (k + 1) ≤ (i : Int)) = false by simp; omega]; simp
end AdjC
