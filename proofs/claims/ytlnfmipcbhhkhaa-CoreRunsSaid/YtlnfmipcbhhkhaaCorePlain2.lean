/-
  Plain: which semaphores are posted and waited for, as a table of thirty-two marks. No program in sight. No condition.
-/
import Derived.Test.YtlnfmipcbhhkhaaCorePlain
namespace AdjC
set_option linter.unusedVariables false

/-- The table: mark 2 s + e: does engine e's list hold an instruction of kind d on semaphore s? -/
def tick (d : Int) (p q : List I) : List Bool := (List.range 32).map fun j => if j % 2 = 0 then uses p d ((j / 2 : Nat) : Int) else uses q d ((j / 2 : Nat) : Int)
theorem tick_length (d : Int) (p q : List I) : (tick d p q).length = 32 := by simp [tick]
theorem uses_snoc (l : List I) (x : I) (d s : Int) : uses (l ++ [x]) d s = (uses l d s || (x.d == d && x.a == s)) := by simp [uses]
theorem uses_other {l : List I} {x : I} {d s : Int} (h : x.d ≠ d) : uses (l ++ [x]) d s = uses l d s := by
  rw [uses_snoc, show (x.d == d) = false by simpa using h]; simp
theorem tick_at (d : Int) (p q : List I) (j : Nat) (h : j < 32) : (tick d p q)[j]? = some (if j % 2 = 0 then uses p d ((j / 2 : Nat) : Int) else uses q d ((j / 2 : Nat) : Int)) := by
  simp [tick, h]
theorem tick_nil (d : Int) : tick d [] [] = List.replicate 32 false := by
  apply List.ext_getElem?
  intro j
  rcases Nat.lt_or_ge j 32 with h | h
  · rw [tick_at d _ _ j h, List.getElem?_eq_getElem (by rw [List.length_replicate]; exact h), List.getElem_replicate]; simp [uses]
  · rw [List.getElem?_eq_none (by rw [tick_length]; exact h), List.getElem?_eq_none (by simpa using h)]
theorem tick_same0 {d : Int} {p q : List I} {x : I} (h : x.d ≠ d) : tick d (p ++ [x]) q = tick d p q := by simp only [tick, uses_other h]
theorem tick_same1 {d : Int} {p q : List I} {x : I} (h : x.d ≠ d) : tick d p (q ++ [x]) = tick d p q := by simp only [tick, uses_other h]
theorem tick_set0 {d : Int} {p q : List I} {x : I} {s : Nat} (h : x.d = d) (hs : x.a = (s : Int)) (h16 : s < 16) : tick d (p ++ [x]) q = (tick d p q).set (s * 2) true := by
  apply List.ext_getElem?
  intro j
  rcases Nat.lt_or_ge j 32 with hj | hj
  · rw [tick_at d _ _ j hj, List.getElem?_set]
    by_cases hm : j % 2 = 0
    · rw [if_pos hm, uses_snoc]
      by_cases e : s * 2 = j
      · rw [if_pos e, if_pos (by rw [tick_length]; omega), show (x.d == d && x.a == ((j / 2 : Nat) : Int)) = true by rw [h, hs]; simp; omega]; simp
      · rw [if_neg e, tick_at d _ _ j hj, if_pos hm, show (x.a == ((j / 2 : Nat) : Int)) = false by rw [hs]; simp; omega]; simp
    · rw [if_neg hm, if_neg (by omega), tick_at d _ _ j hj, if_neg hm]
  · rw [List.getElem?_eq_none (by rw [tick_length]; exact hj), List.getElem?_eq_none (by rw [List.length_set, tick_length]; exact hj)]
theorem tick_set1 {d : Int} {p q : List I} {x : I} {s : Nat} (h : x.d = d) (hs : x.a = (s : Int)) (h16 : s < 16) : tick d p (q ++ [x]) = (tick d p q).set (s * 2 + 1) true := by
  apply List.ext_getElem?
  intro j
  rcases Nat.lt_or_ge j 32 with hj | hj
  · rw [tick_at d _ _ j hj, List.getElem?_set]
    by_cases hm : j % 2 = 0
    · rw [if_pos hm, if_neg (by omega), tick_at d _ _ j hj, if_pos hm]
    · rw [if_neg hm, uses_snoc]
      by_cases e : s * 2 + 1 = j
      · rw [if_pos e, if_pos (by rw [tick_length]; omega), show (x.d == d && x.a == ((j / 2 : Nat) : Int)) = true by rw [h, hs]; simp; omega]; simp
      · rw [if_neg e, tick_at d _ _ j hj, if_neg hm, show (x.a == ((j / 2 : Nat) : Int)) = false by rw [hs]; simp; omega]; simp
  · rw [List.getElem?_eq_none (by rw [tick_length]; exact hj), List.getElem?_eq_none (by rw [List.length_set, tick_length]; exact hj)]

theorem wrong_ends {c : Code} (h : c.pad < 0 ∨ 4096 < c.pad ∨ c.mem < 0 ∨ 1048576 < c.mem) : wrong c = 4 := if_pos h
theorem wrong_many {c : Code} (h : ¬ (c.pad < 0 ∨ 4096 < c.pad ∨ c.mem < 0 ∨ 1048576 < c.mem)) (h2 : 262144 < c.mover.length ∨ 262144 < c.maker.length) : wrong c = 2 := by
  unfold wrong; rw [if_neg h, if_pos h2]
theorem wrong_mover {c : Code} (h : ¬ (c.pad < 0 ∨ 4096 < c.pad ∨ c.mem < 0 ∨ 1048576 < c.mem)) (h2 : ¬ (262144 < c.mover.length ∨ 262144 < c.maker.length)) (h3 : firstBad (wrongI c.pad c.mem true) c.mover ≠ 0) : wrong c = firstBad (wrongI c.pad c.mem true) c.mover := by
  unfold wrong; rw [if_neg h, if_neg h2, if_pos h3]
theorem wrong_maker {c : Code} (h : ¬ (c.pad < 0 ∨ 4096 < c.pad ∨ c.mem < 0 ∨ 1048576 < c.mem)) (h2 : ¬ (262144 < c.mover.length ∨ 262144 < c.maker.length)) (h3 : firstBad (wrongI c.pad c.mem true) c.mover = 0) (h4 : firstBad (wrongI c.pad c.mem false) c.maker ≠ 0) : wrong c = firstBad (wrongI c.pad c.mem false) c.maker := by
  unfold wrong; rw [if_neg h, if_neg h2, if_neg (by simpa using h3), if_pos h4]
theorem wrong_last {c : Code} (h : ¬ (c.pad < 0 ∨ 4096 < c.pad ∨ c.mem < 0 ∨ 1048576 < c.mem)) (h2 : ¬ (262144 < c.mover.length ∨ 262144 < c.maker.length)) (h3 : firstBad (wrongI c.pad c.mem true) c.mover = 0) (h4 : firstBad (wrongI c.pad c.mem false) c.maker = 0) :
    wrong c = if sems.any (tangled c) = true then 11 else 0 := by
  unfold wrong; rw [if_neg h, if_neg h2, if_neg (by simpa using h3), if_neg (by simpa using h4)]
theorem firstBad_at {f : I → Int} : ∀ {l : List I} {k : Nat} (hk : k < l.length), firstBad f (l.take k) = 0 → f l[k] ≠ 0 → firstBad f l = f l[k]
  | x :: l, 0, _, _, h => if_pos (c := f x ≠ 0) h
  | x :: l, k + 1, hk, h1, h => by
    have hx : ¬ f x ≠ 0 := fun hx => by
      have : firstBad f ((x :: l).take (k + 1)) = f x := by show (if f x ≠ 0 then f x else _) = _; rw [if_pos hx]
      rw [this] at h1; exact hx h1
    show (if f x ≠ 0 then f x else firstBad f l) = _
    rw [if_neg hx]
    refine firstBad_at (k := k) (by simpa using hk) ?_ (by simpa using h)
    have : firstBad f ((x :: l).take (k + 1)) = firstBad f (l.take k) := by show (if f x ≠ 0 then f x else _) = _; rw [if_neg hx]
    rw [← this]; exact h1
theorem firstBad_snoc {f : I → Int} : ∀ {l : List I} {x : I}, firstBad f l = 0 → f x = 0 → firstBad f (l ++ [x]) = 0
  | [], x, _, h => by show (if f x ≠ 0 then f x else firstBad f []) = 0; rw [if_neg (by simpa using h)]; rfl
  | y :: l, x, h1, h => by
    have hy : ¬ f y ≠ 0 := fun hy => by
      have : firstBad f (y :: l) = f y := by show (if f y ≠ 0 then f y else _) = _; rw [if_pos hy]
      rw [this] at h1; exact hy h1
    have : firstBad f (y :: l) = firstBad f l := by show (if f y ≠ 0 then f y else _) = _; rw [if_neg hy]
    show (if f y ≠ 0 then f y else firstBad f (l ++ [x])) = 0
    rw [if_neg hy]
    exact firstBad_snoc (by rw [← this]; exact h1) h
/-- A right instruction on a semaphore names one of sixteen. -/
theorem sem_range {pad mem : Int} {mv : Bool} {x : I} (h : wrongI pad mem mv x = 0) (hd : x.d = 3 ∨ x.d = 4) : ∃ s : Nat, x.a = (s : Int) ∧ s < 16 := by
  unfold wrongI at h
  by_cases hb : belongs x.d mv = false
  · rw [if_pos hb] at h; cases h
  · rw [if_neg hb, if_pos hd] at h
    by_cases ha : x.a < 0 ∨ 16 ≤ x.a
    · rw [if_pos ha] at h; cases h
    · exact ⟨x.a.toNat, by omega, by omega⟩
theorem tick_even {d : Int} {p q : List I} {s : Nat} (h : s < 16) (h2 : s * 2 < (tick d p q).length) : (tick d p q)[s * 2] = uses p d (s : Int) := by
  have := tick_at d p q (s * 2) (by omega)
  rw [List.getElem?_eq_getElem h2, if_pos (by omega), show s * 2 / 2 = s by omega] at this
  exact Option.some.inj this
theorem tick_odd {d : Int} {p q : List I} {s : Nat} (h : s < 16) (h2 : s * 2 + 1 < (tick d p q).length) : (tick d p q)[s * 2 + 1] = uses q d (s : Int) := by
  have := tick_at d p q (s * 2 + 1) (by omega)
  rw [List.getElem?_eq_getElem h2, if_neg (by omega), show (s * 2 + 1) / 2 = s by omega] at this
  exact Option.some.inj this
theorem tangled_any {c : Code} {k : Nat} (hk : k < 16) (h : tangled c (k : Int) = true) : sems.any (tangled c) = true := by
  rw [List.any_eq_true]
  exact ⟨(k : Int), by simp only [sems, List.mem_map, List.mem_range]; exact ⟨k, hk, rfl⟩, h⟩
theorem tangled_none {c : Code} (h : ∀ j : Nat, j < 16 → tangled c (j : Int) = false) : sems.any (tangled c) = false := by
  rw [List.any_eq_false]
  intro x hx
  simp only [sems, List.mem_map, List.mem_range] at hx
  obtain ⟨j, hj, rfl⟩ := hx
  simp [h j hj]
end AdjC
