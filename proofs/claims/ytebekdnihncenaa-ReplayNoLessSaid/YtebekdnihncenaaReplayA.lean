/-
  The walks of what the least cost is reckoned by: wrong, binomial, least, Least of the program; Wrong of the reference. Conditions: those that each theorem names.
-/
import Derived.Test.YtebekdnihncenaaRows
import Derived.Test.YtebekdnihncenaaLeastPlain
import Derived.WalkKit
import Derived.WalkSpells
import Derived.WalkLawsBesides
import Derived.Lib.Hide
namespace Go.Proofs.Ytebekdnihncenaa
open Go.RowKit

namespace Rp
/-- What both say of n and slots. -/
def wrong (n s : Int) : Int := if n < 0 ∨ 256 < n ∨ s < 0 ∨ 16 < s then 4 else if s = 0 ∧ 1 < n then 9 else 0
theorem ret_int {k : IntKind} {a b : Int} (h : a = b) : Ending.returned (.int k a) = .returned (.int k b) := by rw [h]
theorem ret_bool {a b : Bool} (h : a = b) : Ending.returned (.bool a) = .returned (.bool b) := by rw [h]
/-- The capped number of ways. -/
def bin (n k : Nat) : Int := (min (Adj8.ch n k) 1073741824 : Nat)
theorem mulle (x a : Nat) (hx : x ≤ 1073741824) (ha : a ≤ 2147483648) : x * a ≤ 2305843009213693952 := by
  have := Nat.mul_le_mul hx ha
  omega
theorem quo (m i : Nat) : (Adj8.ch (m + i) i : Int) * ((m : Int) + (i : Int) + 1) / ((i : Int) + 1) = (Adj8.ch (m + (i + 1)) (i + 1) : Nat) := by
  rw [show m + (i + 1) = m + i + 1 from rfl]
  have h := Adj8.ch_mul (m + i) i
  have e : (Adj8.ch (m + i) i : Int) * ((m : Int) + (i : Int) + 1) = (Adj8.ch (m + i + 1) (i + 1) : Int) * ((i : Int) + 1) := by
    have := congrArg (fun x : Nat => (x : Int)) h
    simp only [Int.natCast_mul, Int.natCast_add, Int.natCast_one] at this
    exact this.symm
  rw [e]
  exact Int.mul_ediv_cancel _ (by omega)
theorem ch_up (m a b : Nat) (h : a ≤ b) : Adj8.ch (m + a) a ≤ Adj8.ch (m + b) b := by
  obtain ⟨d, rfl⟩ := Nat.exists_eq_add_of_le h
  induction d with
  | zero => exact Nat.le_refl _
  | succ d ih => exact Nat.le_trans (ih (by omega)) (Adj8.ch_diag (m + (a + d)) (a + d))
theorem bin_big (n k : Nat) (h : 1073741824 ≤ Adj8.ch n k) : 1073741824 = bin n k := by unfold bin; omega
theorem bin_small (n k : Nat) (h : Adj8.ch n k ≤ 1073741824) : bin n k = Adj8.ch n k := by unfold bin; omega
theorem prod (m j : Nat) (hx : Adj8.ch (m + j) j ≤ 1073741824) (hm : m ≤ 1073741824) (hj : j ≤ 1073741823) :
    (0 ≤ (Adj8.ch (m + j) j : Int) * ((m : Int) + ((j : Int) + 1)) ∧ (Adj8.ch (m + j) j : Int) * ((m : Int) + ((j : Int) + 1)) ≤ 2305843009213693952) ∧
    (0 ≤ (Adj8.ch (m + j) j : Int) * ((m : Int) + ((j : Int) + 1)) / ((j : Int) + 1) ∧ (Adj8.ch (m + j) j : Int) * ((m : Int) + ((j : Int) + 1)) / ((j : Int) + 1) ≤ 2305843009213693952) := by
  have h := mulle _ (m + j + 1) hx (by omega)
  have e : ((Adj8.ch (m + j) j * (m + j + 1) : Nat) : Int) = (Adj8.ch (m + j) j : Int) * ((m : Int) + ((j : Int) + 1)) := by
    simp only [Int.natCast_mul, Int.natCast_add, Int.natCast_one, Int.add_assoc]
  rw [← e]
  refine ⟨⟨by omega, by omega⟩, Int.ediv_nonneg (by omega) (by omega), ?_⟩
  refine Int.le_trans (Int.ediv_le_self _ (by omega)) (by omega)
end Rp

set_option maxHeartbeats 400000 in
theorem wrong_any (n s : Int) (w : World) :
    Calls Try.prog 17 #[.int .i64 n, .int .i64 s] w fun e w' => e = .returned (.int .i64 (Rp.wrong n s)) ∧ w = w' := by
  go_enter Try.func17, Try.ntmps17
  go_wp2
  all_goals
    go_ret
    exact ⟨Rp.ret_int (by unfold Rp.wrong; (repeat' split) <;> omega), rfl⟩

set_option maxHeartbeats 400000 in
theorem refwrong_any (n s : Int) (w : World) :
    Calls Try.prog 19 #[.int .i64 n, .int .i64 s] w fun e w' => e = .returned (.int .i64 (Rp.wrong n s)) ∧ w = w' := by
  go_enter Try.func19, Try.ntmps19
  go_wp2
  all_goals
    go_ret
    exact ⟨Rp.ret_int (by (try simp only [beq_iff_eq, beq_eq_false_iff_ne, ne_eq] at *); unfold Rp.wrong; (repeat' split) <;> omega), rfl⟩

set_option maxHeartbeats 400000 in
theorem binomial_no (n k : Int) (w : World) (h : k < 0 ∨ n < k) :
    Calls Try.prog 27 #[.int .i64 n, .int .i64 k] w fun e w' => e = .returned (.int .i64 0) ∧ w = w' := by
  go_enter Try.func27, Try.ntmps27
  by_cases h0 : k < 0
  · go_wp2
    go_ret
    exact ⟨rfl, rfl⟩
  · have h1 : n < k := by omega
    go_wp2
    go_ret
    exact ⟨rfl, rfl⟩

set_option maxHeartbeats 1000000 in
theorem binomial_yes (m k : Nat) (w : World) (hm : m ≤ 1073741824) (hk : k ≤ 1073741824) :
    Calls Try.prog 27 #[.int .i64 ((m : Int) + (k : Int)), .int .i64 (k : Int)] w fun e w' => e = .returned (.int .i64 (Rp.bin (m + k) k)) ∧ w = w' := by
  have h0 : ¬ ((k : Int) < 0) := by omega
  have h1 : ¬ ((m : Int) + (k : Int) < (k : Int)) := by omega
  go_enter Try.func27, Try.ntmps27
  go_wp2
  go_loop [5, 6] (fun x i => ∃ j : Nat, j ≤ k ∧ i = .int .i64 ((j : Int) + 1) ∧ x = .int .i64 ((Adj8.ch (m + j) j : Nat) : Int) ∧ Adj8.ch (m + j) j ≤ 1073741824) (fun _ i => k + 1 - (intOf i).toNat)
  case atStart => exact ⟨0, by omega, rfl, by rw [Adj8.ch_zero]; rfl, by rw [Adj8.ch_zero]; omega⟩
  case round =>
    obtain ⟨j, hj, rfl, rfl, hx⟩ := hrel
    by_cases hlt : j < k
    · have hq := Rp.quo m j
      rw [Int.add_assoc] at hq
      have hp := Rp.prod m j hx (by omega) (by omega)
      have HQ := Lib.hid hq
      clear hq
      go_wp2
      · go_ret
        exact ⟨Rp.ret_int (Rp.bin_big _ _ (Nat.le_trans (by have := HQ.out; omega) (Rp.ch_up m (j + 1) k (by omega)))), rfl⟩
      · go_round
        case rel => exact ⟨j + 1, by omega, by go_num, by rw [HQ.out], by have := HQ.out; omega⟩
        case measure => simp [intOf]; omega
    · obtain rfl : j = k := by omega
      go_wp2
      go_ret
      exact ⟨Rp.ret_int (Rp.bin_small _ _ hx).symm, rfl⟩

/-- binomial of anything that is not too great. -/
theorem binomial_any (n k : Nat) (w : World) (hn : n ≤ 1073741824) :
    Calls Try.prog 27 #[.int .i64 (n : Int), .int .i64 (k : Int)] w fun e w' => e = .returned (.int .i64 (Rp.bin n k)) ∧ w = w' := by
  rcases Nat.lt_or_ge n k with h | h
  · refine (binomial_no n k w (by omega)).mono fun e w' ⟨he, hw⟩ => ⟨?_, hw⟩
    rw [he]
    exact Rp.ret_int (by unfold Rp.bin; rw [Adj8.ch_lt n k h]; rfl)
  · obtain ⟨m, rfl⟩ : ∃ m, n = m + k := ⟨n - k, by omega⟩
    have := binomial_yes m k w (by omega) (by omega)
    simpa using this

theorem binomial_int (n k : Int) (w : World) (h0 : 0 ≤ n) (h1 : n ≤ 1073741824) (h2 : 0 ≤ k) :
    Calls Try.prog 27 #[.int .i64 n, .int .i64 k] w fun e w' => e = .returned (.int .i64 (Rp.bin n.toNat k.toNat)) ∧ w = w' := by
  obtain ⟨n, rfl⟩ := Int.eq_ofNat_of_zero_le h0
  obtain ⟨k, rfl⟩ := Int.eq_ofNat_of_zero_le h2
  exact binomial_any n k w (by omega)

namespace Rp
theorem bin_nn (n k : Nat) : 0 ≤ bin n k ∧ bin n k ≤ 1073741824 := by unfold bin; omega
theorem bin_lt (s r n : Nat) (hn : n ≤ 256) : (bin (s + r) s < (n : Int)) ↔ Adj8.c s r < n := by
  unfold bin Adj8.c
  omega
theorem T_bound (n s : Nat) : ∀ N, Adj8.S N n s ≤ N * n
  | 0 => by rw [Adj8.S]; omega
  | N + 1 => by rw [Adj8.S, Nat.add_mul]; have := T_bound n s N; omega
theorem T_256 (n s : Nat) (hn : n ≤ 256) : Adj8.T n s ≤ 65536 := by
  have h := T_bound n s n
  have := Nat.mul_le_mul hn hn
  unfold Adj8.T
  omega
theorem mul_256 (r n : Nat) (hr : r ≤ 256) (hn : n ≤ 256) : 0 ≤ (r : Int) * (n : Int) ∧ (r : Int) * (n : Int) ≤ 65536 := by
  have m := Nat.mul_le_mul hr hn
  have e' : (r : Int) * (n : Int) = ((r * n : Nat) : Int) := by simp
  rw [e']
  omega
theorem wrong_ok {n s : Int} (h : wrong n s = 0) : 0 ≤ n ∧ n ≤ 256 ∧ 0 ≤ s ∧ s ≤ 16 ∧ (2 ≤ n → 1 ≤ s) := by
  unfold wrong at h
  (repeat' split at h) <;> omega
/-- What the closed form says, in the walk's own spelling. -/
theorem closed (n t r : Nat) (hn : n ≤ 256) (hr : r ≤ n) (h : n ≤ Adj8.c (t + 1) r) (hlow : ∀ j, j < r → Adj8.c (t + 1) j < n) :
    (r : Int) * (n : Int) - bin (t + 1 + r) (t + 1 + 1) = (Adj8.T n (t + 1) : Nat) := by
  have e : Adj8.T n (t + 1) + Adj8.ch (t + 1 + r) (t + 1 + 1) = r * n := Adj8.T_closed n t r h hlow
  have m := Nat.mul_le_mul (Nat.le_trans hr hn) hn
  unfold bin
  have e' : (r : Int) * (n : Int) = ((r * n : Nat) : Int) := by simp
  rw [e']
  omega
end Rp

set_option maxHeartbeats 1000000 in
theorem least_any (n s : Nat) (w : World) (hn : n ≤ 256) (hs : s ≤ 16) (h0 : 2 ≤ n → 1 ≤ s) :
    Calls Try.prog 18 #[.int .i64 (n : Int), .int .i64 (s : Int)] w fun e w' => e = .returned (.int .i64 ((Adj8.T n s : Nat) : Int)) ∧ w = w' := by
  by_cases h1 : (n : Int) ≤ 1
  · go_enter Try.func18, Try.ntmps18
    go_wp2
    go_ret
    refine ⟨Rp.ret_int ?_, rfl⟩
    rcases Nat.lt_or_ge n 1 with h | h
    · obtain rfl : n = 0 := by omega
      rw [Adj8.T_zero]; rfl
    · obtain rfl : n = 1 := by omega
      rw [Adj8.T_one]; rfl
  · obtain ⟨t, rfl⟩ : ∃ t, s = t + 1 := ⟨s - 1, by omega⟩
    go_enter Try.func18, Try.ntmps18
    go_wp2
    go_loop [5] (fun x => ∃ r : Nat, r ≤ n ∧ x = .int .i64 (r : Int) ∧ ∀ j, j < r → Adj8.c (t + 1) j < n) (fun x => n + 1 - (intOf x).toNat)
    case atStart => exact ⟨0, by omega, rfl, fun j hj => by omega⟩
    case round =>
      obtain ⟨r, hr, rfl, hlow⟩ := hrel
      have HL := Lib.hid hlow
      clear hlow
      have hb := Rp.bin_nn (t + 1 + r) (t + 1)
      have hbig := Adj8.c_big t r
      by_cases hlt : Adj8.c (t + 1) r < n
      · have hd := (Rp.bin_lt (t + 1) r n hn).2 hlt
        go_wp2_with (go_at_call 27; refine (binomial_int _ _ _ (by omega) (by omega) (by omega)).mono ?_; rintro e w' ⟨rfl, rfl⟩)
        go_round
        case rel =>
          refine ⟨r + 1, by omega, by go_num, fun j hj => ?_⟩
          rcases Nat.lt_or_ge j r with hjr | hjr
          · exact HL.out j hjr
          · obtain rfl : j = r := by omega
            exact hlt
        case measure => simp [intOf]; omega
      · have hd : ¬ Rp.bin (t + 1 + r) (t + 1) < (n : Int) := fun h => hlt ((Rp.bin_lt (t + 1) r n hn).1 h)
        have hc := Lib.hid (Rp.closed n t r hn hr (by omega) HL.out)
        have hb2 := Rp.bin_nn (t + 1 + r) (t + 1 + 1)
        have hm := Rp.mul_256 r n (by omega) hn
        go_wp2_with (go_at_call 27; refine (binomial_int _ _ _ (by omega) (by omega) (by omega)).mono ?_; rintro e w' ⟨rfl, rfl⟩)
        go_ret
        exact ⟨Rp.ret_int hc.out, rfl⟩

/-- Least of the program, of anything. -/
def Rp.leastR (n s : Int) : Value := .tuple #[.int .i64 (if Rp.wrong n s = 0 then ((Adj8.T n.toNat s.toNat : Nat) : Int) else 0), .int .i64 (Rp.wrong n s)]

set_option maxHeartbeats 1000000 in
theorem Least_any (n s : Int) (w : World) :
    Calls Try.prog 9 #[.int .i64 n, .int .i64 s] w fun e w' => e = .returned (Rp.leastR n s) ∧ w = w' := by
  by_cases h0 : Rp.wrong n s = 0
  · obtain ⟨b1, b2, b3, b4, b5⟩ := Rp.wrong_ok h0
    obtain ⟨n, rfl⟩ := Int.eq_ofNat_of_zero_le b1
    obtain ⟨s, rfl⟩ := Int.eq_ofNat_of_zero_le b3
    have H0 := Lib.hid h0
    clear h0
    go_enter Try.func9, Try.ntmps9
    go_wp2_with (first | (go_at_call 17; refine (wrong_any _ _ _).mono ?_; rintro e w' ⟨rfl, rfl⟩; rw [H0.out]) | (go_at_call 18; refine (least_any _ _ _ (by omega) (by omega) (by omega)).mono ?_; rintro e w' ⟨rfl, rfl⟩))
    go_ret2
    exact ⟨by unfold Rp.leastR; rw [if_pos H0.out, H0.out]; simp, rfl⟩
  · have h1 : (Rp.wrong n s != 0) = true := by simpa using h0
    go_enter Try.func9, Try.ntmps9
    go_wp2_with (go_at_call 17; refine (wrong_any _ _ _).mono ?_; rintro e w' ⟨rfl, rfl⟩)
    go_ret2
    exact ⟨by unfold Rp.leastR; rw [if_neg h0]; rfl, rfl⟩

end Go.Proofs.Ytebekdnihncenaa
