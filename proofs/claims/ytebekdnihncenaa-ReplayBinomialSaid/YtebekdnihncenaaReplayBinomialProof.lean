/-
  PROVED: ReplayBinomialSaid: for every n and every number of slots the law ReplayBinomial returns true: the least cost is Griewank's closed form. No condition.
-/
import Derived.Test.YtebekdnihncenaaReplayC
import Derived.Test.YtebekdnihncenaaLawRow
namespace Go.Proofs.Ytebekdnihncenaa
open Go.RowKit

set_option maxHeartbeats 400000 in
theorem choose_no (n k : Int) (w : World) (h0 : 0 ≤ n) (hn : n ≤ 1000) (hk : n < k) :
    Calls Try.prog 12 #[.int .i64 n, .int .i64 k] w fun e w' => e = .returned (.int .i64 0) ∧ Below w.heap.size w w' := by
  obtain ⟨n, rfl⟩ := Int.eq_ofNat_of_zero_le h0
  exact choose_above n k w (by omega) hk

theorem choose_int (n k : Int) (w : World) (h0 : 0 ≤ n) (hn : n ≤ 1000) (h1 : 0 ≤ k) (hk : k ≤ n) :
    Calls Try.prog 12 #[.int .i64 n, .int .i64 k] w fun e w' => e = .returned (.int .i64 (Rp.pw n.toNat k.toNat)) ∧ Below w.heap.size w w' := by
  obtain ⟨n, rfl⟩ := Int.eq_ofNat_of_zero_le h0
  obtain ⟨k, rfl⟩ := Int.eq_ofNat_of_zero_le h1
  exact choose_any n k w (by omega) (by omega)

set_option maxHeartbeats 400000 in
theorem alive_any (w : World) :
    Calls Try.prog 11 #[] w fun e w' => e = .returned (.bool true) ∧ w = w' := by
  have hx := Lib.hid (show Rp.leastR 3 1 = .tuple #[.int .i64 3, .int .i64 0] by
    have h1 : Rp.wrong 3 1 = 0 := by unfold Rp.wrong; decide
    have h2 : Adj8.T (3 : Int).toNat (1 : Int).toNat = 3 := by decide +kernel
    unfold Rp.leastR
    rw [if_pos h1, h1, h2]
    rfl)
  go_enter Try.func11, Try.ntmps11
  go_wp2_with (go_at_call 9; refine (Least_any _ _ _).mono ?_; rintro e w' ⟨rfl, rfl⟩; rw [hx.out])
  go_ret
  exact ⟨rfl, rfl⟩

namespace Rp
theorem ch_next (n k : Nat) (h : k < n) : Adj8.ch (n + 1) (k + 1) ≤ Adj8.ch n (k + 1) * (k + 2) := by
  have e1 := Adj8.ch_mul n k
  have e2 := Adj8.ch_succ n k
  rw [e2] at e1 ⊢
  generalize Adj8.ch n k = a at *
  generalize Adj8.ch n (k + 1) = b at *
  obtain ⟨d, rfl⟩ : ∃ d, n = k + 1 + d := ⟨n - (k + 1), by omega⟩
  have e3 : (a + b) * (k + 1) = a * (k + 1) + b * (k + 1) := Nat.add_mul _ _ _
  have e4 : a * (k + 1 + d + 1) = a * (k + 1) + a * (d + 1) := by rw [show k + 1 + d + 1 = (k + 1) + (d + 1) from by omega, Nat.mul_add]
  have e5 : a * (d + 1) = a * d + a := by rw [Nat.mul_add, Nat.mul_one]
  have e6 : b * (k + 2) = b * (k + 1) + b := by rw [show k + 2 = (k + 1) + 1 from rfl, Nat.mul_add, Nat.mul_one]
  have e7 : 0 ≤ a * d := Nat.zero_le _
  omega
theorem c_small (t r n : Nat) (hn : n ≤ 256) (ht : t + 1 ≤ 16) (h : ∀ j, j < r → Adj8.c (t + 1) j < n) : Adj8.c (t + 1) r ≤ 4352 := by
  cases r with
  | zero => rw [Adj8.c_zero]; omega
  | succ r =>
    have h1 := h r (by omega)
    have h2 : Adj8.c (t + 1) (r + 1) ≤ Adj8.c (t + 1) r * (t + 2) := ch_next (t + 1 + r) t (by omega)
    have h3 := Nat.mul_le_mul (show Adj8.c (t + 1) r ≤ 256 by omega) (show t + 2 ≤ 17 by omega)
    omega
end Rp
end Go.Proofs.Ytebekdnihncenaa

namespace Go.Proofs.Ytebekdnihncenaa.replayBinomial
open Go.ChangeShapes Go.WideShapes Go.ChangeAt Go.RowKit

theorem own : ownKnob Try.prog.godebug = none := by kernel_rfl
theorem laid : laidOutB Try.prog = true := by kernel_rfl

set_option maxHeartbeats 1000000 in
theorem walk_out (n s : Int) (w : World) (h : n < 1 ∨ 256 < n ∨ s < 1 ∨ 16 < s) :
    Calls Try.prog 4 #[.int .i64 n, .int .i64 s] w fun e w' => e = .returned (.bool true) ∧ Below w.heap.size w w' := by
  obtain ⟨x, y, hx⟩ : ∃ x y : Int, Rp.leastR n s = .tuple #[.int .i64 x, .int .i64 y] := ⟨_, _, rfl⟩
  have HX := Lib.hid hx
  clear hx
  have H := Lib.hid h
  clear h
  go_enter Try.func4, Try.ntmps4
  go_wp2_with (first | (go_at_call 11; refine (alive_any _).mono ?_; rintro e w' ⟨rfl, rfl⟩) | (go_at_call 9; refine (Least_any _ _ _).mono ?_; rintro e w' ⟨rfl, rfl⟩; rw [HX.out]))
  all_goals (try (go_ret; exact ⟨rfl, Below.refl _ _⟩))
  all_goals (exfalso; have := H.out; omega)

set_option maxRecDepth 100000 in
set_option maxHeartbeats 2000000 in
theorem walk_in (n t : Nat) (w : World) (h1 : 1 ≤ n) (hn : n ≤ 256) (ht : t + 1 ≤ 16) :
    Calls Try.prog 4 #[.int .i64 (n : Int), .int .i64 ((t : Int) + 1)] w fun e w' => e = .returned (.bool true) ∧ Below w.heap.size w w' := by
  have hx : Rp.leastR n ((t : Int) + 1) = .tuple #[.int .i64 ((Adj8.T n (t + 1) : Nat) : Int), .int .i64 0] := by
    have h1 : Rp.wrong n ((t : Int) + 1) = 0 := by unfold Rp.wrong; (repeat' split) <;> omega
    unfold Rp.leastR
    rw [if_pos h1, h1, show ((t : Int) + 1).toNat = t + 1 from by omega, Int.toNat_natCast]
  have HX := Lib.hid hx
  clear hx
  go_enter Try.func4, Try.ntmps4
  go_wp2_with (first | (go_at_call 11; refine (alive_any _).mono ?_; rintro e w' ⟨rfl, rfl⟩) | (go_at_call 9; refine (Least_any _ _ _).mono ?_; rintro e w' ⟨rfl, rfl⟩; rw [HX.out]))
  go_loopw [7] (fun v wr => ∃ r : Nat, r ≤ n ∧ v = .int .i64 (r : Int) ∧ (∀ j, j < r → Adj8.c (t + 1) j < n) ∧ Below w.heap.size w wr) (fun v _ => n + 1 - (intOf v).toNat)
  case atStart => exact ⟨0, by omega, rfl, fun j hj => by omega, Below.refl _ _⟩
  case round =>
    obtain ⟨r, hr, rfl, hlow, hbel⟩ := hrel
    have hsm := Rp.c_small t r n hn ht hlow
    have hpw : Rp.pw (t + 1 + r) (t + 1) = (Adj8.c (t + 1) r : Nat) := Rp.pw_small _ _ (by unfold Adj8.c at hsm; omega)
    have hbig := Adj8.c_big t r
    by_cases hlt : Adj8.c (t + 1) r < n
    · have hd : Rp.pw (t + 1 + r) (t + 1) < (n : Int) := by rw [hpw]; omega
      have HL := Lib.hid hlow
      clear hpw hlow
      go_wp2_with (go_at_call 12; refine (choose_int _ _ _ (by omega) (by omega) (by omega) (by omega)).mono ?_; rintro e w' ⟨rfl, hb⟩)
      refine ⟨⟨r + 1, by omega, by go_num, fun j hj => ?_, hbel.trans (hb.mono hbel.size)⟩, by simp [intOf]; omega⟩
      rcases Nat.lt_or_ge j r with hjr | hjr
      · exact HL.out j hjr
      · obtain rfl : j = r := by omega
        exact hlt
    · have hd : ¬ (Rp.pw (t + 1 + r) (t + 1) < (n : Int)) := by rw [hpw]; omega
      have hcl : Adj8.T n (t + 1) + Adj8.ch (t + 1 + r) (t + 1 + 1) = r * n := Adj8.T_closed n t r (by omega) hlow
      have hm := Rp.mul_256 r n (by omega) hn
      have hT := Rp.T_256 n (t + 1) hn
      have hcast : ((r * n : Nat) : Int) = (r : Int) * (n : Int) := by simp
      have hle : Adj8.ch (t + 1 + r) (t + 1 + 1) ≤ 65536 := by omega
      have hp2 := Rp.pw_small (t + 1 + r) (t + 1 + 1) (by omega)
      have hfin : (((Adj8.T n (t + 1) : Nat) : Int) == (r : Int) * (n : Int) - Rp.pw (t + 1 + r) (t + 1 + 1)) = true := by
        rw [hp2, beq_iff_eq, ← hcast]; omega
      have hpb : 0 ≤ Rp.pw (t + 1 + r) (t + 1 + 1) ∧ Rp.pw (t + 1 + r) (t + 1 + 1) ≤ 65536 := by rw [hp2]; omega
      have HF := Lib.hid hfin
      clear hpw hlow hcl hp2 hfin hcast
      by_cases hr0 : 1 ≤ r
      · go_wp2_with fail
        refine (choose_int _ _ _ (by omega) (by omega) (by omega) (by omega)).mono ?_
        rintro e w1 ⟨rfl, hb1⟩
        go_wp2_with fail
        refine (choose_int _ _ _ (by omega) (by omega) (by omega) (by omega)).mono ?_
        rintro e w2 ⟨rfl, hb2⟩
        go_wp2
        go_ret
        exact ⟨Rp.ret_bool HF.out, (hbel.trans (hb1.mono hbel.size)).trans (hb2.mono (Nat.le_trans hbel.size hb1.size))⟩
      · obtain rfl : r = 0 := by omega
        have hz : Rp.pw (t + 1) (t + 1 + 1) = 0 := by unfold Rp.pw wrap64; rw [Adj8.ch_lt _ _ (by omega)]; rfl
        have HZ := Lib.hid hz
        clear hz
        rw [Nat.add_zero] at hd
        go_wp2_with fail
        refine (choose_int _ _ _ (by omega) (by omega) (by omega) (by omega)).mono ?_
        rintro e w1 ⟨rfl, hb1⟩
        go_wp2_with fail
        refine (choose_no _ _ _ (by omega) (by omega) (by omega)).mono ?_
        rintro e w2 ⟨rfl, hb2⟩
        go_wp2
        go_ret
        refine ⟨Rp.ret_bool ?_, (hbel.trans (hb1.mono hbel.size)).trans (hb2.mono (Nat.le_trans hbel.size hb1.size))⟩
        have := HF.out
        rw [Nat.add_zero, HZ.out] at this
        simpa using this

theorem walk (n s : Int) (w : World) :
    Calls Try.prog 4 #[.int .i64 n, .int .i64 s] w fun e w' => e = .returned (.bool true) ∧ Below w.heap.size w w' := by
  by_cases h : n < 1 ∨ 256 < n ∨ s < 1 ∨ 16 < s
  · exact walk_out n s w h
  · obtain ⟨n, rfl⟩ := Int.eq_ofNat_of_zero_le (show 0 ≤ n by omega)
    obtain ⟨t, rfl⟩ : ∃ t : Nat, s = (t : Int) + 1 := ⟨(s - 1).toNat, by omega⟩
    exact walk_in n t w (by omega) (by omega) (by omega)

theorem lifted (os : Os) (started : os.Started) (H : Type) (enc : TypeId × Value → H) :
    ReturnsInHanded {} Try.checked os 4 .any (Rows.replayBinomialSpec.pre6 enc Try.prog Try.f4 Rows.replayBinomialRow.domain false) (Rows.replayBinomialSpec.post enc Try.prog Try.f4 false true false false) := by
  refine Adj.law_lifted (C := Try.checked) (s := Rows.replayBinomialSpec) own started (by kernel_rfl) Try.func4 laid rfl rfl Try.underlying4
      (by rw [Try.params4]; intro t ht; simp only [List.mem_cons, List.not_mem_nil, or_false] at ht; rcases ht with rfl | rfl <;> exact ⟨by kernel_rfl, of_decide_eq_true (by kernel_rfl)⟩)
      (by intro ds hd; match ds, hd with | [d1, d2], _ => exact ⟨rfl, rfl, rfl⟩)
      (ChangeSpec.witness6 (enc := enc) (C := Try.checked) false ⟨#[], #[.int .i64 0, .int .i64 0], []⟩ 8 (by kernel_rfl) (by kernel_rfl) (by kernel_rfl) (by kernel_rfl)) ?_
  intro W base args ds before hval0 hA0 _ _
  have hval : ∀ (j : Nat) t v, Try.f4.params[j]? = some t → args[j]? = some v → Value.okWide Try.prog W .any base t v := hval0
  have hA : DataW.TrodAll enc Try.prog W 0 (fun _ => true) true Try.f4.params.toList args.toList ds before := hA0
  rw [Try.params4] at hA hval
  obtain ⟨v0, v1, d0, d1, p0, p1, rfl, rfl, rfl, h0, h1⟩ := trodAll_two hA
  obtain ⟨a0, rfl, rfl, rfl, w0⟩ := open_int Try.underlying3 (hval 0 3 v0 rfl rfl) h0
  obtain ⟨a1, rfl, rfl, rfl, w1⟩ := open_int Try.underlying3 (hval 1 3 v1 rfl rfl) h1
  exact walk a0 a1 W

theorem proved : Rows.ReplayBinomialSaid :=
  OpenClaim.holds_of_wide 4 Try.f4 rfl rfl rfl rfl rfl rfl rfl ⟨rfl, rfl, rfl, rfl, rfl⟩ rfl rfl rfl rfl rfl (by kernel_rfl) Try.func4 (by kernel_rfl)
    (of_decide_eq_true (by kernel_rfl)) (by unfold Func.isWrapper; first | (rw [if_pos (by decide +kernel)]; kernel_rfl) | (rw [if_neg (by decide +kernel)]; exact ⟨rfl, rfl⟩))
    (fun os started H enc _ => lifted os started H enc)
#print axioms proved
end Go.Proofs.Ytebekdnihncenaa.replayBinomial
