/-
  Plain: what the law RoomLeast asks. No program in sight. Conditions: those each theorem names.
-/
import Derived.Test.YtkopkicdmbnpgaaLiuPlain5
namespace AdjR
set_option linter.unusedVariables false

theorem climb_zero {ab ws : List Int} (hT : treeBad ab ws = 0) (hn : ab.length = 0) : climb ab ws = ([], 0, 0) := by
  unfold climb; rw [if_neg (by simp [hT]), if_pos hn]
theorem climb_root {ab ws : List Int} (hT : treeBad ab ws = 0) (hn : 0 < ab.length) : climb ab ws = (visit (lows ab ws) (ab.length - 1) (ab.length - 1), (pks ab ws).getD (ab.length - 1) 0, 0) := by
  unfold climb lows pks; rw [if_neg (by simp [hT]), if_neg (by omega)]
theorem climb_law {ab ws : List Int} (hT : treeBad ab ws = 0) : (climb ab ws).2.2 = 0 ∧ peak ab ws (climb ab ws).1 = ((climb ab ws).2.1, 0) ∧ tog ab (climb ab ws).1 = true ∧ (∀ x ∈ (climb ab ws).1, 0 ≤ x ∧ x < (ab.length : Int)) ∧ (climb ab ws).1.length = ab.length := by
  by_cases hn : ab.length = 0
  · rw [climb_zero hT hn]
    have hab : ab = [] := List.length_eq_zero_iff.1 hn
    have hp : peak ab ws [] = (0, 0) := by
      rw [peak_len hT (r := (0, 0)) (by unfold peakGo; rfl) rfl, hn]; rfl
    refine ⟨rfl, hp, ?_, (fun x hx => by cases hx), hn.symm⟩
    unfold tog
    rw [hn]; rfl
  · rw [climb_root hT (by omega)]
    refine ⟨rfl, peak_visit hT (by omega), tog_visit hT (by omega), fun x hx => ?_, visit_len_root hT (by omega)⟩
    have := visit_range hT _ x hx
    omega
theorem order_law {ab ws od : List Int} {m : Int} (hT : treeBad ab ws = 0) (h : peak ab ws od = (m, 0)) : (∀ x ∈ od, 0 ≤ x ∧ x < (ab.length : Int)) ∧ od.length = ab.length ∧ (((∀ k, k < ab.length → ws.getD k 0 = ws.getD 0 0) ∨ tog ab od = true) → (climb ab ws).2.1 ≤ m) := by
  have hv := valid_of hT h
  refine ⟨hv.mem, hv.len, fun hc => ?_⟩
  by_cases hn : ab.length = 0
  · rw [climb_zero hT hn]
    have ho : od = [] := List.length_eq_zero_iff.1 (by rw [hv.len, hn])
    subst ho
    have hp : peak ab ws [] = (0, 0) := by
      rw [peak_len hT (r := (0, 0)) (by unfold peakGo; rfl) rfl, hn]; rfl
    rw [hp] at h
    injection h with h
    show (0 : Int) ≤ m
    omega
  · rw [climb_root hT (by omega)]
    exact least hT (by omega) h hc
end AdjR
