/-
  Each entry has a place of its own, and each place is that of one entry: in plain Lean. No program in sight. No condition.
-/
import Derived.Test.YtkbmnefjnfihbaaViewPlain2
namespace AdjV
set_option linter.unusedVariables false
theorem idx_cons (d : Int) (l : List Int) (p : Int) : idx (d :: l) p = p / prod l % d :: idx l p := by
  unfold idx
  simp only [List.length_cons, List.range_succ_eq_map, List.map_cons, List.map_map]
  congr 1
theorem plc_idx : ∀ (l : List Int), (∀ d ∈ l, 1 ≤ d) → ∀ p : Int, 0 ≤ p → inside l (idx l p) = true ∧ plc l (idx l p) = p % prod l
  | [], _, p, _ => by simp [idx, inside, plc, prod]
  | d :: l, h, p, hp => by
    have hd := h d (by simp)
    have hl : ∀ x ∈ l, 1 ≤ x := fun x hx => h x (by simp [hx])
    have hP := prod_pos l hl
    obtain ⟨i1, i2⟩ := plc_idx l hl p hp
    rw [idx_cons]
    have a1 : 0 ≤ p / prod l % d := Int.emod_nonneg _ (by omega)
    have a2 : p / prod l % d < d := Int.emod_lt_of_pos _ (by omega)
    refine ⟨by simp only [inside, i1, Bool.and_true, Bool.and_eq_true, decide_eq_true_iff]; exact ⟨a1, a2⟩, ?_⟩
    simp only [plc, prod, i2]
    have e1 := Int.emod_add_mul_ediv p (prod l)
    have e2 := Int.emod_add_mul_ediv (p / prod l) d
    have r1 : 0 ≤ p % prod l := Int.emod_nonneg _ (by omega)
    have r2 : p % prod l < prod l := Int.emod_lt_of_pos _ (by omega)
    generalize p % prod l = r at *
    generalize p / prod l / d = q2 at *
    generalize hx : p / prod l % d = x at *
    generalize p / prod l = q at *
    have e3 : p = (x * prod l + r) + (d * prod l) * q2 := by
      rw [← e1, ← e2]
      rw [Int.mul_add, Int.mul_comm (prod l) x, ← Int.mul_assoc (prod l) d q2, Int.mul_comm (prod l) d]
      omega
    have b1 : 0 ≤ x * prod l := Int.mul_nonneg a1 (by omega)
    have b2 : (x + 1) * prod l ≤ d * prod l := Int.mul_le_mul_of_nonneg_right (by omega) (by omega)
    rw [Int.add_mul, Int.one_mul] at b2
    rw [e3, Int.add_mul_emod_self_left, Int.emod_eq_of_lt (by omega) (by omega)]
theorem idx_plc : ∀ (l m : List Int), inside l m = true → ∀ a : Int, 0 ≤ a → idx l (plc l m + a * prod l) = m
  | [], [], _, a, _ => by simp [idx]
  | d :: l, b :: m, h, a, ha => by
    have hb := inside_bound h
    simp only [inside, Bool.and_eq_true, decide_eq_true_iff] at h
    obtain ⟨⟨h1, h2⟩, h3⟩ := h
    have hb2 := inside_bound h3
    have e : plc (d :: l) (b :: m) + a * prod (d :: l) = plc l m + (b + a * d) * prod l := by
      simp only [plc, prod]
      rw [Int.add_mul, ← Int.mul_assoc]
      omega
    have hn : 0 ≤ a * d := Int.mul_nonneg ha (by omega)
    rw [idx_cons, e, idx_plc l m h3 (b + a * d) (by omega)]
    congr 1
    rw [Int.add_mul_ediv_right _ _ (by omega), Int.ediv_eq_zero_of_lt hb2.1 hb2.2, Int.zero_add, Int.add_mul_emod_self_right, Int.emod_eq_of_lt h1 h2]
  | [], _ :: _, h, _, _ => by simp [inside] at h
  | _ :: _, [], h, _, _ => by simp [inside] at h
/-- What is at a place lies there. -/
theorem place_index {l : List Int} {p : Int} (h : (size l).2 = 0) (hp : 0 ≤ p ∧ p < (size l).1) : index l p = (idx l p, 0) ∧ place l (idx l p) = (p, 0) := by
  obtain ⟨z1, z2, z3, z4, z5⟩ := size_fine h
  obtain ⟨hix, h0, _, hpos⟩ := index_ok (l := l) (p := p) h (by omega)
  refine ⟨hix, ?_⟩
  obtain ⟨i1, i2⟩ := plc_idx l hpos p h0
  unfold place
  rw [if_neg (by simp [h]), if_neg (by simp [idx_length]), if_pos i1, i2, Int.emod_eq_of_lt h0 (by omega)]
/-- What lies at a place is what is there. -/
theorem index_place {l m : List Int} (h : (size l).2 = 0) (hp : (place l m).2 = 0) : 0 ≤ (place l m).1 ∧ (place l m).1 < (size l).1 ∧ index l (place l m).1 = (m, 0) := by
  obtain ⟨z1, z2, z3, z4, z5⟩ := size_fine h
  by_cases hl : m.length = l.length
  · by_cases hin : inside l m = true
    · have e : place l m = (plc l m, 0) := by unfold place; rw [if_neg (by simp [h]), if_neg (by simp [hl]), if_pos hin]
      have hb := inside_bound hin
      rw [e]
      refine ⟨hb.1, by omega, ?_⟩
      have hx := (index_ok (l := l) (p := plc l m) h (by omega)).1
      rw [hx]
      have := idx_plc l m hin 0 (by omega)
      rw [Int.zero_mul, Int.add_zero] at this
      rw [this]
    · have e : place l m = (0, 4) := by unfold place; rw [if_neg (by simp [h]), if_neg (by simp [hl]), if_neg hin]
      rw [e] at hp; simp at hp
  · have e : place l m = (0, 6) := by unfold place; rw [if_neg (by simp [h]), if_pos hl]
    rw [e] at hp; simp at hp
end AdjV
