/-
  Plain: what a right instruction may touch. No program in sight. No condition.
-/
import Derived.Test.YtlnfmipcbhhkhaaCorePlain7
namespace AdjC
set_option linter.unusedVariables false

theorem inside_pos {a n size : Int} (h : inside (a, n) size = true) (hn : 0 < n) : 0 ≤ a ∧ a + n ≤ size := by
  simp [inside] at h; omega
theorem right_inside {pad mem : Int} {mv : Bool} {x : I} (h : wrongI pad mem mv x = 0) (hd : ¬ (x.d = 3 ∨ x.d = 4)) : ∀ s ∈ reads x ++ [write x], inside s pad = true := by
  unfold wrongI at h
  by_cases hb : belongs x.d mv = false
  · rw [if_pos hb] at h; cases h
  rw [if_neg hb, if_neg hd] at h
  by_cases h2 : x.n < 0 ∨ 4096 < x.n ∨ far x.a = true ∨ far x.b = true ∨ far x.c = true
  · rw [if_pos h2] at h; cases h
  rw [if_neg h2] at h
  by_cases h3 : (reads x ++ [write x]).all (fun s => inside s pad) = false
  · rw [if_pos h3] at h; cases h
  · have h4 : (reads x ++ [write x]).all (fun s => inside s pad) = true := by simpa using h3
    exact fun s hs => List.all_eq_true.1 h4 s hs
theorem right_reach {pad mem : Int} {x : I} (h : wrongI pad mem true x = 0) (hd : ¬ (x.d = 3 ∨ x.d = 4)) (i : Int) (h0 : 0 ≤ i) (h1 : i < x.n) : 0 ≤ x.b + i * x.c ∧ x.b + i * x.c < mem := by
  unfold wrongI at h
  by_cases hb : belongs x.d true = false
  · rw [if_pos hb] at h; cases h
  rw [if_neg hb, if_neg hd] at h
  by_cases h2 : x.n < 0 ∨ 4096 < x.n ∨ far x.a = true ∨ far x.b = true ∨ far x.c = true
  · rw [if_pos h2] at h; cases h
  rw [if_neg h2] at h
  by_cases h3 : (reads x ++ [write x]).all (fun s => inside s pad) = false
  · rw [if_pos h3] at h; cases h
  rw [if_neg h3] at h
  by_cases h4 : true = true ∧ 0 < x.n ∧ (min x.b (x.b + (x.n - 1) * x.c) < 0 ∨ mem ≤ max x.b (x.b + (x.n - 1) * x.c))
  · rw [if_pos h4] at h; cases h
  · by_cases h5 : x.b + i * x.c < 0 ∨ mem ≤ x.b + i * x.c
    · exact absurd ⟨rfl, reach_out h0 h1 h5⟩ h4
    · omega
theorem right_mover {pad mem : Int} {x : I} (h : wrongI pad mem true x = 0) : x.d = 1 ∨ x.d = 2 ∨ x.d = 3 ∨ x.d = 4 := by
  unfold wrongI at h
  by_cases hb : belongs x.d true = false
  · rw [if_pos hb] at h; cases h
  · have hb2 : belongs x.d true = true := by simpa using hb
    unfold belongs at hb2
    by_cases h1 : x.d = 3 ∨ x.d = 4
    · omega
    rw [if_neg h1] at hb2
    by_cases h2 : x.d = 1 ∨ x.d = 2
    · omega
    rw [if_neg h2] at hb2
    simp at hb2
theorem right_maker {pad mem : Int} {x : I} (h : wrongI pad mem false x = 0) : x.d = 3 ∨ x.d = 4 ∨ (5 ≤ x.d ∧ x.d ≤ 14) := by
  unfold wrongI at h
  by_cases hb : belongs x.d false = false
  · rw [if_pos hb] at h; cases h
  · have hb2 : belongs x.d false = true := by simpa using hb
    unfold belongs at hb2
    by_cases h1 : x.d = 3 ∨ x.d = 4
    · omega
    rw [if_neg h1] at hb2
    by_cases h2 : x.d = 1 ∨ x.d = 2
    · rw [if_pos h2] at hb2; cases hb2
    rw [if_neg h2] at hb2
    simp at hb2
    omega
/-- Load and Store: where they move words. -/
theorem right_moves {pad mem : Int} {x : I} (h : wrongI pad mem true x = 0) (hd : x.d = 1 ∨ x.d = 2) :
    (0 ≤ x.n ∧ x.n ≤ 4096) ∧ (0 < x.n → 0 ≤ x.a ∧ x.a + x.n ≤ pad) ∧ ∀ i : Int, 0 ≤ i → i < x.n → (0 ≤ x.b + i * x.c ∧ x.b + i * x.c < mem) ∧ -8589934592 ≤ i * x.c ∧ i * x.c ≤ 8589934592 := by
  have hs := right_small h (by omega)
  have hi := right_inside h (by omega)
  refine ⟨hs.1, fun hn => inside_pos (hi (x.a, x.n) ?_) hn, fun i h0 h1 => ⟨right_reach h (by omega) i h0 h1, ?_⟩⟩
  · rcases hd with hd | hd
    · have : write x = (x.a, x.n) := by unfold write; rw [if_pos (by omega)]
      rw [List.mem_append]; exact .inr (by simp [this])
    · have : reads x = [(x.a, x.n)] := by unfold reads; rw [if_neg (by omega), if_pos hd]
      rw [List.mem_append]; exact .inl (by simp [this])
  · obtain ⟨b1, b2⟩ := between (c := x.c) h0 h1
    have hn1 : 0 ≤ x.n - 1 ∧ x.n - 1 ≤ 4096 := by omega
    have hp : ∀ y : Int, -1048576 ≤ y → y ≤ 1048576 → ∀ m : Int, 0 ≤ m → m ≤ 4096 → -8589934592 ≤ m * y ∧ m * y ≤ 8589934592 := by
      intro y hy1 hy2 m hm1 hm2
      have e1 : m * y ≤ m * 1048576 := Int.mul_le_mul_of_nonneg_left hy2 hm1
      have e2 : m * (-1048576) ≤ m * y := Int.mul_le_mul_of_nonneg_left hy1 hm1
      omega
    exact hp x.c (by omega) (by omega) i h0 (by omega)
/-- Inner: where it reckons. -/
theorem right_inner {pad mem : Int} {mv : Bool} {x : I} (h : wrongI pad mem mv x = 0) (hd : x.d = 13) :
    (0 ≤ x.n ∧ x.n ≤ 4096) ∧ (0 ≤ x.a ∧ x.a < pad) ∧ (0 < x.n → 0 ≤ x.b ∧ x.b + x.n ≤ pad) ∧ (0 < x.n → 0 ≤ x.c ∧ x.c + x.n ≤ pad) := by
  have hs := right_small h (by omega)
  have hi := right_inside h (by omega)
  have hr : reads x = [(x.a, 1), (x.b, x.n), (x.c, x.n)] := by unfold reads; rw [if_neg (by omega), if_neg (by omega), if_neg (by omega), if_pos hd]
  have h1 := inside_pos (hi (x.a, 1) (by rw [hr]; simp)) (by omega)
  refine ⟨hs.1, by omega, fun hn => inside_pos (hi (x.b, x.n) (by rw [hr]; simp)) hn, fun hn => inside_pos (hi (x.c, x.n) (by rw [hr]; simp)) hn⟩
/-- What reckons word by word. -/
theorem right_each {pad mem : Int} {mv : Bool} {x : I} (h : wrongI pad mem mv x = 0) (hd : 5 ≤ x.d ∧ x.d ≤ 14 ∧ x.d ≠ 13) :
    (0 ≤ x.n ∧ x.n ≤ 4096) ∧ (-1048576 ≤ x.a ∧ x.a ≤ 1048576) ∧ (0 < x.n → 0 ≤ x.a ∧ x.a + x.n ≤ pad) ∧ (x.d ≠ 5 → 0 < x.n → 0 ≤ x.b ∧ x.b + x.n ≤ pad) ∧ (x.d ≠ 5 ∧ x.d ≠ 14 → 0 < x.n → 0 ≤ x.c ∧ x.c + x.n ≤ pad) := by
  have hs := right_small h (by omega)
  have hi := right_inside h (by omega)
  have hw : write x = (x.a, x.n) := by
    unfold write
    repeat' split
    all_goals first | rfl | omega
  refine ⟨hs.1, hs.2.1, fun hn => inside_pos (hi (x.a, x.n) (by rw [hw]; simp)) hn, fun h5 hn => inside_pos (hi (x.b, x.n) ?_) hn, fun h5 hn => inside_pos (hi (x.c, x.n) ?_) hn⟩
  · rw [List.mem_append]; left
    unfold reads
    repeat' split
    all_goals first | omega | simp
  · rw [List.mem_append]; left
    unfold reads
    repeat' split
    all_goals first | omega | simp
end AdjC
