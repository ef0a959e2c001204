/-
  Plain: what an instruction touches, as the reference tells it (three pairs that are read, one that is written). No program in sight. No condition.
-/
import Derived.Test.YtlnfmipcbhhkhaaCorePlain
namespace AdjC
set_option linter.unusedVariables false

/-- Three pairs that are read, one that is written. -/
def touch (x : I) : (Int × Int) × (Int × Int) × (Int × Int) × (Int × Int) :=
  if x.d = 1 ∨ x.d = 5 then ((0, 0), (0, 0), (0, 0), (x.a, x.n)) else if x.d = 2 then ((x.a, x.n), (0, 0), (0, 0), (0, 0))
  else if 6 ≤ x.d ∧ x.d ≤ 10 then ((0, 0), (x.b, x.n), (x.c, x.n), (x.a, x.n)) else if x.d = 11 ∨ x.d = 12 then ((x.a, x.n), (x.b, x.n), (x.c, x.n), (x.a, x.n))
  else if x.d = 13 then ((x.a, 1), (x.b, x.n), (x.c, x.n), (x.a, 1)) else if x.d = 14 then ((x.a, x.n), (x.b, x.n), (0, 0), (x.a, x.n)) else ((0, 0), (0, 0), (0, 0), (0, 0))
theorem inside_none (size : Int) : inside (0, 0) size = true := by simp [inside]
theorem meet_none (p : Int × Int) : meet p (0, 0) = false := by simp [meet]
theorem meet_none' (p : Int × Int) : meet (0, 0) p = false := by simp [meet]
theorem meet_comm (p q : Int × Int) : meet p q = meet q p := by
  rw [Bool.eq_iff_iff]; simp only [meet, Bool.and_eq_true, decide_eq_true_eq]; constructor <;> (rintro ⟨⟨⟨h1, h2⟩, h3⟩, h4⟩; exact ⟨⟨⟨h2, h1⟩, h4⟩, h3⟩)
/-- Kinds that there are. -/
theorem kinds {d : Int} (h : 1 ≤ d ∧ d ≤ 14) : d = 1 ∨ d = 2 ∨ d = 3 ∨ d = 4 ∨ d = 5 ∨ d = 6 ∨ d = 7 ∨ d = 8 ∨ d = 9 ∨ d = 10 ∨ d = 11 ∨ d = 12 ∨ d = 13 ∨ d = 14 := by omega
theorem touch_write {x : I} (h : 1 ≤ x.d ∧ x.d ≤ 14) : (touch x).2.2.2 = write x := by
  obtain ⟨d, a, b, c, n, v⟩ := x
  rcases kinds h with h | h | h | h | h | h | h | h | h | h | h | h | h | h <;> (simp only at h; subst h; simp [touch, write])
/-- What holds of all that is read. -/
theorem touch_reads {x : I} (h : 1 ≤ x.d ∧ x.d ≤ 14) (f : Int × Int → Bool) (h0 : f (0, 0) = false) : (reads x).any f = (f (touch x).1 || f (touch x).2.1 || f (touch x).2.2.1) := by
  obtain ⟨d, a, b, c, n, v⟩ := x
  rcases kinds h with h | h | h | h | h | h | h | h | h | h | h | h | h | h <;> (simp only at h; subst h; simp [touch, reads, h0, Bool.or_assoc])
theorem touch_inside {x : I} (h : 1 ≤ x.d ∧ x.d ≤ 14) (size : Int) :
    (reads x ++ [write x]).all (fun s => inside s size) = (inside (touch x).2.2.2 size && inside (touch x).1 size && inside (touch x).2.1 size && inside (touch x).2.2.1 size) := by
  obtain ⟨d, a, b, c, n, v⟩ := x
  rcases kinds h with h | h | h | h | h | h | h | h | h | h | h | h | h | h <;> (simp only at h; subst h; simp [touch, reads, write, inside_none, Bool.and_comm, Bool.and_assoc, Bool.and_left_comm])
theorem touch_small {x : I} (ha : -1048576 ≤ x.a ∧ x.a ≤ 1048576) (hb : -1048576 ≤ x.b ∧ x.b ≤ 1048576) (hc : -1048576 ≤ x.c ∧ x.c ≤ 1048576) (hn : 0 ≤ x.n ∧ x.n ≤ 4096) :
    (-1048576 ≤ (touch x).1.1 ∧ (touch x).1.1 ≤ 1048576 ∧ 0 ≤ (touch x).1.2 ∧ (touch x).1.2 ≤ 4096) ∧ (-1048576 ≤ (touch x).2.1.1 ∧ (touch x).2.1.1 ≤ 1048576 ∧ 0 ≤ (touch x).2.1.2 ∧ (touch x).2.1.2 ≤ 4096) ∧
      (-1048576 ≤ (touch x).2.2.1.1 ∧ (touch x).2.2.1.1 ≤ 1048576 ∧ 0 ≤ (touch x).2.2.1.2 ∧ (touch x).2.2.1.2 ≤ 4096) ∧ (-1048576 ≤ (touch x).2.2.2.1 ∧ (touch x).2.2.2.1 ≤ 1048576 ∧ 0 ≤ (touch x).2.2.2.2 ∧ (touch x).2.2.2.2 ≤ 4096) := by
  unfold touch
  repeat' split
  all_goals (simp only; omega)
theorem between {i n c : Int} (h0 : 0 ≤ i) (h1 : i < n) : (0 ≤ c → 0 ≤ i * c ∧ i * c ≤ (n - 1) * c) ∧ (c < 0 → (n - 1) * c ≤ i * c ∧ i * c ≤ 0) := by
  refine ⟨fun hc => ⟨Int.mul_nonneg h0 hc, Int.mul_le_mul_of_nonneg_right (by omega) hc⟩, fun hc => ⟨?_, ?_⟩⟩
  · have := Int.mul_le_mul_of_nonneg_right (show i ≤ n - 1 by omega) (show 0 ≤ -c by omega)
    rw [Int.mul_neg, Int.mul_neg] at this
    omega
  · have := Int.mul_nonneg h0 (show 0 ≤ -c by omega)
    rw [Int.mul_neg] at this
    omega
theorem reach_out {b c n mem i : Int} (h0 : 0 ≤ i) (h1 : i < n) (h : b + i * c < 0 ∨ mem ≤ b + i * c) : 0 < n ∧ (min b (b + (n - 1) * c) < 0 ∨ mem ≤ max b (b + (n - 1) * c)) := by
  obtain ⟨g1, g2⟩ := between (c := c) h0 h1
  refine ⟨by omega, ?_⟩
  by_cases hc : 0 ≤ c
  · have := g1 hc; omega
  · have := g2 (by omega); omega
theorem reach_in {b c n mem : Int} (h : ∀ i : Int, 0 ≤ i → i < n → 0 ≤ b + i * c ∧ b + i * c < mem) : ¬ (0 < n ∧ (min b (b + (n - 1) * c) < 0 ∨ mem ≤ max b (b + (n - 1) * c))) := by
  rintro ⟨hn, h2⟩
  have a1 := h 0 (by omega) hn
  have a2 := h (n - 1) (by omega) (by omega)
  rw [Int.zero_mul] at a1
  omega
theorem belongs_ref {d : Int} {mv : Bool} : belongs d mv = false ↔ (d < 1 ∨ 14 < d ∨ ((d ≠ 3 ∧ d ≠ 4) ∧ ((d = 1 ∨ d = 2) ↔ mv = false))) := by
  unfold belongs
  by_cases h : d = 3 ∨ d = 4
  · rw [if_pos h]; constructor
    · intro h2; cases h2
    · omega
  · rw [if_neg h]
    by_cases h2 : d = 1 ∨ d = 2
    · rw [if_pos h2]
      constructor
      · intro h3; exact .inr (.inr ⟨by omega, ⟨fun _ => h3, fun _ => h2⟩⟩)
      · rintro (h3 | h3 | h3)
        · omega
        · omega
        · exact h3.2.1 h2
    · rw [if_neg h2]
      cases mv
      · simp; omega
      · simp; omega
end AdjC
