/-
  The walks of split and of (player).plan: what a plan does, whatever the player is. Conditions: 2 <= n <= 256, 1 <= slots <= 16 (split); the player does each move that meets no error (plan).
-/
import Derived.Test.YtebekdnihncenaaReplayA
import Derived.Test.YtebekdnihncenaaMem
import Derived.Test.YtebekdnihncenaaPlayPlain
namespace Go.Proofs.Ytebekdnihncenaa
set_option linter.unusedVariables false
open Go.RowKit Adj Adj8

namespace Rp
/-- A good split. -/
def Split (n s k : Nat) : Prop := (1 < s ∨ k + 1 = n) ∧ T n s = k + T k s + T (n - k) (s - 1)
theorem split_ex (n s : Nat) (hn : 2 ≤ n) (hs : 1 ≤ s) : ∃ k, 1 ≤ k ∧ k < n ∧ Split n s k := by
  rcases Nat.lt_or_ge 1 s with h | h
  · obtain ⟨t, rfl⟩ : ∃ t, s = t + 2 := ⟨s - 2, by omega⟩
    obtain ⟨k, h1, h2, h3⟩ := T_ge n t hn
    exact ⟨k, h1, h2, .inl (by omega), h3⟩
  · obtain rfl : s = 1 := by omega
    refine ⟨n - 1, by omega, by omega, .inr (by omega), ?_⟩
    rw [T_slot n hn, show n - (n - 1) = 1 from by omega, T_one]
    rfl
end Rp

theorem least_int (n s : Int) (w : World) (a : 0 ≤ n) (b : n ≤ 256) (c : 0 ≤ s) (d : s ≤ 16) (h0 : 2 ≤ n → 1 ≤ s) :
    Calls Try.prog 18 #[.int .i64 n, .int .i64 s] w fun e w' => e = .returned (.int .i64 ((Adj8.T n.toNat s.toNat : Nat) : Int)) ∧ w = w' := by
  obtain ⟨n, rfl⟩ := Int.eq_ofNat_of_zero_le a
  obtain ⟨s, rfl⟩ := Int.eq_ofNat_of_zero_le c
  exact least_any n s w (by omega) (by omega) (by omega)

set_option maxHeartbeats 2000000 in
theorem split_any (n s : Nat) (w : World) (hn : 2 ≤ n) (hn2 : n ≤ 256) (hs : 1 ≤ s) (hs2 : s ≤ 16) :
    Calls Try.prog 30 #[.int .i64 (n : Int), .int .i64 (s : Int)] w fun e w' => ∃ k : Nat, e = .returned (.int .i64 (k : Int)) ∧ 1 ≤ k ∧ k < n ∧ Rp.Split n s k ∧ w = w' := by
  have hT := Rp.T_256 n s hn2
  go_enter Try.func30, Try.ntmps30
  go_wp2_with (go_at_call 18; refine (least_any _ _ _ (by omega) (by omega) (by omega)).mono ?_; rintro e w' ⟨rfl, rfl⟩)
  go_loopw [6] (fun v wr => ∃ k : Nat, 1 ≤ k ∧ k ≤ n ∧ v = .int .i64 (k : Int) ∧ (∀ i, 1 ≤ i → i < k → ¬ Rp.Split n s i) ∧ wr = w) (fun v _ => n + 1 - (intOf v).toNat)
  case atStart => exact ⟨1, by omega, by omega, rfl, fun i h1 h2 => by omega, rfl⟩
  case round =>
    obtain ⟨k, hk1, hkn, rfl, hno, rfl⟩ := hrel
    have HNO := Lib.hid hno
    clear hno
    by_cases hlt : k < n
    · by_cases hc : 1 < s ∨ k + 1 = n
      · have ht1 := Rp.T_256 k s (by omega)
        have ht2 := Rp.T_256 (n - k) (s - 1) (by omega)
        by_cases he : Adj8.T n s = k + Adj8.T k s + Adj8.T (n - k) (s - 1)
        · have hq : ((k : Int) + ((Adj8.T k s : Nat) : Int) + ((Adj8.T (n - k) (s - 1) : Nat) : Int) == ((Adj8.T n s : Nat) : Int)) = true := by simp; omega
          have HE := Lib.hid he
          clear he
          by_cases h1 : 1 < (s : Int)
          · go_wp2_with (go_at_call 18; refine (least_int _ _ _ (by omega) (by omega) (by omega) (by omega) (by omega)).mono ?_; rintro e w' ⟨rfl, rfl⟩)
            go_ret
            exact ⟨k, rfl, hk1, hlt, ⟨hc, HE.out⟩, rfl⟩
          · have h2 : ((k : Int) == (n : Int) - 1) = true := by simp; omega
            go_wp2_with (go_at_call 18; refine (least_int _ _ _ (by omega) (by omega) (by omega) (by omega) (by omega)).mono ?_; rintro e w' ⟨rfl, rfl⟩)
            go_ret
            exact ⟨k, rfl, hk1, hlt, ⟨hc, HE.out⟩, rfl⟩
        · have hq : ((k : Int) + ((Adj8.T k s : Nat) : Int) + ((Adj8.T (n - k) (s - 1) : Nat) : Int) == ((Adj8.T n s : Nat) : Int)) = false := by simp; omega
          have HN2 : Hid (∀ i, 1 ≤ i → i < k + 1 → ¬ Rp.Split n s i) := fun i hi1 hi2 => by
            rcases Nat.lt_or_ge i k with h | h
            · exact HNO.out i hi1 h
            · obtain rfl : i = k := by omega
              exact fun hsp => he hsp.2
          clear he
          by_cases h1 : 1 < (s : Int)
          · go_wp2_with (go_at_call 18; refine (least_int _ _ _ (by omega) (by omega) (by omega) (by omega) (by omega)).mono ?_; rintro e w' ⟨rfl, rfl⟩)
            exact ⟨⟨k + 1, by omega, by omega, by go_num, HN2.out, by first | rfl | trivial⟩, by simp [intOf]; omega⟩
          · have h2 : ((k : Int) == (n : Int) - 1) = true := by simp; omega
            go_wp2_with (go_at_call 18; refine (least_int _ _ _ (by omega) (by omega) (by omega) (by omega) (by omega)).mono ?_; rintro e w' ⟨rfl, rfl⟩)
            exact ⟨⟨k + 1, by omega, by omega, by go_num, HN2.out, by first | rfl | trivial⟩, by simp [intOf]; omega⟩
      · have h1 : ¬ (1 < (s : Int)) := by omega
        have h2 : ((k : Int) == (n : Int) - 1) = false := by simp; omega
        go_wp2
        refine ⟨⟨k + 1, by omega, by omega, by go_num, fun i hi1 hi2 => ?_, by first | rfl | trivial⟩, by simp [intOf]; omega⟩
        rcases Nat.lt_or_ge i k with h | h
        · exact HNO.out i hi1 h
        · obtain rfl : i = k := by omega
          exact fun hsp => hc hsp.1
    · exfalso
      obtain ⟨i, h1, h2, h3⟩ := Rp.split_ex n s hn hs
      exact HNO.out i h1 (by omega) h3

end Go.Proofs.Ytebekdnihncenaa
