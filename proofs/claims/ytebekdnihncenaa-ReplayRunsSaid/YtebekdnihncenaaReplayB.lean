/-
  The walk of the reference's Least: its table holds the least costs. Condition: none (Least_ref says what it answers for anything).
-/
import Derived.Test.YtebekdnihncenaaReplayA
import Derived.BigQuiet
namespace Go.Proofs.Ytebekdnihncenaa
open Go.RowKit

theorem Try.info3 : (Try.prog.info? 3).map (fun i => (i.zero, i.size, i.bytes)) = some (some (.int .i64 0), 1, 8) := by kernel_rfl

namespace Rp
/-- The costs of 0 .. m - 1 steps with q slots, as cells. -/
def rowT (q m : Nat) : List Value := (List.range m).map fun i => .int .i64 ((Adj8.T i q : Nat) : Int)
theorem rowT_succ (q m : Nat) : rowT q (m + 1) = rowT q m ++ [.int .i64 ((Adj8.T m q : Nat) : Int)] := by
  unfold rowT; rw [List.range_succ, List.map_append]; rfl
theorem rowT_at (q m j : Nat) (h : j < m) : (rowT q m)[j]? = some (.int .i64 ((Adj8.T j q : Nat) : Int)) := by
  unfold rowT; simp [h]
theorem own_shape {w : World} {base : Nat} {e : TypeId} {v : Value} {n : Nat} {xs : List Value} (h : w.ownsRow base e 1 v n xs) (hn : 0 < n) :
    ∃ g cap, v = .slice (some ⟨g, 0, none⟩) n cap ∧ base ≤ g ∧ g < w.heap.size ∧ n ≤ cap ∧ cap ≤ 9223372036854775807 ∧ (∀ j u, xs[j]? = some u → w.cell? ⟨g, j, none⟩ = some u) := by
  rcases h.2 with ⟨_, h0⟩ | ⟨g, cap, cur, rfl, hb, hg, hnc, hcm, _, _⟩
  · omega
  · refine ⟨g, cap, rfl, hb, (Array.getElem?_eq_some_iff.1 hg).1, hnc, hcm, ?_⟩
    intro j u hu
    have := h.cells (g := g) rfl j u hu
    rw [Addr.add_lit, Nat.zero_add] at this
    exact this
theorem own_start (w : World) (q : Nat) : (w.alloc (.cells #[.int .i64 0, .int .i64 0] 3)).ownsRow w.heap.size 3 1 (.slice (some ⟨w.heap.size, 0, none⟩) 2 2) 2 (rowT (q + 1) 2) :=
  ⟨rfl, .inr ⟨w.heap.size, 2, _, rfl, Nat.le_refl _, heap_alloc_new w _, Nat.le_refl _, by unfold maxLen; omega, rfl, by simp [rowT, List.range_succ, Adj8.T_zero, Adj8.T_one]⟩⟩
theorem one_one (k : IntKind) (x : Int) : ∀ u ∈ [Value.int k x], u.oneCell' = true := by
  intro u hu
  rw [List.mem_singleton.1 hu]
  rfl
theorem mid_end {w wm w1 : World} {d m q : Nat} {v v' : Value} {o : Obj} (hb : Below w.heap.size w wm) (hown : wm.ownsRow w.heap.size 3 1 v m (rowT (q + 1) m))
    (hown' : w1.ownsRow w.heap.size 3 1 v' (m + 1) (rowT (q + 1) m ++ [.int .i64 ((Adj8.T m (q + 1) : Nat) : Int)])) (hg : ((wm.drewN d).alloc o).grownBy w1 v.ownBlock) :
    w1.ownsRow w.heap.size 3 1 v' (m + 1) (rowT (q + 1) (m + 1)) ∧ Below w.heap.size w w1 := by
  refine ⟨by rw [rowT_succ]; exact hown', ?_⟩
  have hb2 : Below w.heap.size w (wm.drewN d) := ⟨hb.os, hb.tape, hb.output, hb.size, hb.block⟩
  exact (hb2.alloc hb.size o).grown hg (by have := hb.size; simp; omega) (fun k hk => (hown.lt k hk).1)
theorem own_base {w wo wm : World} {v : Value} {n : Nat} {xs : List Value} (hb : Below w.heap.size w wo) (h : wm.ownsRow wo.heap.size 3 1 v n xs) : wm.ownsRow w.heap.size 3 1 v n xs := by
  refine ⟨h.1, ?_⟩
  rcases h.2 with h2 | ⟨g, cap, cur, hv, hg, r⟩
  · exact .inl h2
  · exact .inr ⟨g, cap, cur, hv, Nat.le_trans hb.size hg, r⟩
/-- What the innermost loop holds: L is no less than the least, and no more than what has been looked at. -/
def best (q m k L : Nat) : Prop := Adj8.T m (q + 1) ≤ L ∧ L ≤ m - 1 + Adj8.T (m - 1) (q + 1) ∧ (1 ≤ q → ∀ i, 1 ≤ i → i < k → L ≤ i + Adj8.T i (q + 1) + Adj8.T (m - i) q)
theorem best_start (q m : Nat) (hm : 2 ≤ m) : best q m 1 (m - 1 + Adj8.T (m - 1) (q + 1)) := by
  have h := Adj8.T_le (m - 1) 1 q (by omega) (by omega) (fun _ => rfl)
  rw [show m - 1 + 1 = m from by omega, Adj8.T_one] at h
  exact ⟨h, Nat.le_refl _, fun _ i _ _ => by omega⟩
theorem best_keep {q m k L : Nat} (h : best q m k L) (hk : ¬ k + Adj8.T k (q + 1) + Adj8.T (m - k) q < L) : best q m (k + 1) L := by
  refine ⟨h.1, h.2.1, fun hq i h1 h2 => ?_⟩
  rcases Nat.lt_or_ge i k with hik | hik
  · exact h.2.2 hq i h1 hik
  · obtain rfl : i = k := by omega
    omega
theorem best_take {q m k L : Nat} (h : best q m k L) (h1 : 1 ≤ k) (hkm : k < m) (hq : 1 ≤ q) (hk : k + Adj8.T k (q + 1) + Adj8.T (m - k) q < L) : best q m (k + 1) (k + Adj8.T k (q + 1) + Adj8.T (m - k) q) := by
  have hle := Adj8.T_le k (m - k) q h1 (by omega) (by omega)
  rw [show k + (m - k) = m from by omega] at hle
  refine ⟨hle, by have := h.2.1; omega, fun hq i h1 h2 => ?_⟩
  rcases Nat.lt_or_ge i k with hik | hik
  · have := h.2.2 hq i h1 hik
    omega
  · obtain rfl : i = k := by omega
    omega
theorem best_end {q m L : Nat} (hm : 2 ≤ m) (h : best q m m L) : L = Adj8.T m (q + 1) := by
  cases q with
  | zero =>
    have := Adj8.T_slot m hm
    have h1 := h.1
    have h2 := h.2.1
    simp only [Nat.zero_add] at *
    omega
  | succ q =>
    obtain ⟨k, h1, h2, h3⟩ := Adj8.T_ge m q hm
    have h4 : L ≤ k + Adj8.T k (q + 2) + Adj8.T (m - k) (q + 1) := h.2.2 (by omega) k h1 h2
    have h5 : Adj8.T m (q + 2) ≤ L := h.1
    show L = Adj8.T m (q + 2)
    omega
theorem best_zero {q m k L : Nat} (hq : q = 0) (h : best q m k L) : best q m m L := ⟨h.1, h.2.1, fun h' => by omega⟩
end Rp

set_option maxHeartbeats 1000000 in
theorem refLeast_big (n s : Nat) (w : World) (hn : n ≤ 256) (hs : s ≤ 16) (h2 : 2 ≤ n) (h1 : 1 ≤ s) :
    Calls Try.prog 10 #[.int .i64 (n : Int), .int .i64 (s : Int)] w fun e w' => e = .returned (.tuple #[.int .i64 ((Adj8.T n s : Nat) : Int), .int .i64 0]) ∧ Below w.heap.size w w' := by
  obtain ⟨i0, hi, hz0, hz1, hz2⟩ := info_parts Try.info3
  have hw0 := Lib.hid (show Rp.wrong n s = 0 by unfold Rp.wrong; (repeat' split) <;> omega)
  go_enter Try.func10, Try.ntmps10
  go_wp2_with (go_at_call 19; refine (refwrong_any _ _ _).mono ?_; rintro e w' ⟨rfl, rfl⟩; rw [hw0.out])
  go_loopw [7, 8] (fun v i wr => ∃ q : Nat, q ≤ s ∧ i = .int .i64 ((q : Int) + 1) ∧ (q = 0 → v = .slice none 0 0) ∧ (1 ≤ q → wr.ownsRow w.heap.size 3 1 v (n + 1) (Rp.rowT q (n + 1))) ∧ Below w.heap.size w wr)
    (fun _ i _ => s + 1 - (intOf i).toNat)
  case atStart => exact ⟨0, by omega, rfl, fun _ => rfl, fun h => by omega, Below.refl _ _⟩
  case round =>
    obtain ⟨q, hq, rfl, hv0, hv1, hbel⟩ := hrel
    by_cases hlt : q < s
    · have hd0 : decide ((q : Int) + 1 ≤ (s : Int)) = true := by simp; omega
      go_wp2
      obtain ⟨wo, rfl⟩ : ∃ wo : World, wo = wr := ⟨_, rfl⟩
      go_loopw [9, 10] (fun v i wm => ∃ m : Nat, 2 ≤ m ∧ m ≤ n + 1 ∧ i = .int .i64 (m : Int) ∧ wm.ownsRow wo.heap.size 3 1 v m (Rp.rowT (q + 1) m) ∧ Below wo.heap.size wo wm) (fun _ i _ => n + 1 - (intOf i).toNat)
      case atStart => exact ⟨2, by omega, by omega, rfl, Rp.own_start wo q, (Below.refl _ _).alloc (Nat.le_refl _) _⟩
      case round =>
        obtain ⟨m, hm2, hmn, rfl, hown, hbm⟩ := hrel
        obtain ⟨wm, rfl⟩ : ∃ wm : World, wm = wr := ⟨_, rfl⟩
        by_cases hmlt : m ≤ n
        · obtain ⟨g, cap, rfl, hg1, hg2, hcap, hcap2, hcells⟩ := Rp.own_shape hown (by omega)
          have hc1 := hcells (m - 1) _ (Rp.rowT_at (q + 1) m (m - 1) (by omega))
          have ht1 := Rp.T_256 (m - 1) (q + 1) (by omega)
          have HC := Lib.hid hcells
          clear hcells
          go_wp2
          have hlo := Adj8.T_le (m - 1) 1 q (by omega) (by omega) (fun _ => rfl)
          rw [show m - 1 + 1 = m from by omega, Adj8.T_one] at hlo
          have HLO := Lib.hid hlo
          clear hlo
          go_loopw [11, 12] (fun l i wi => ∃ k L d : Nat, 1 ≤ k ∧ k ≤ m ∧ i = .int .i64 (k : Int) ∧ l = .int .i64 (L : Int) ∧ L ≤ 65792 ∧ wi = wm.drewN d ∧
              Rp.best q m k L) (fun _ i _ => n + 1 - (intOf i).toNat)
          case atStart => exact ⟨1, m - 1 + Adj8.T (m - 1) (q + 1), 0, by omega, by omega, rfl, by go_num, by omega, rfl, Rp.best_start q m hm2⟩
          case round =>
            obtain ⟨k, L, d, hk1, hkm, rfl, rfl, hL, rfl, hbest⟩ := hrel
            have HB := Lib.hid hbest
            clear hbest
            by_cases hkq : k < m ∧ 1 ≤ q
            · obtain ⟨hk, hq1⟩ := hkq
              obtain ⟨g', cap', rfl, hg1', hg2', hcap', hcap2', hcells'⟩ := Rp.own_shape (hv1 hq1) (by omega)
              have hc2 := HC.out k _ (Rp.rowT_at (q + 1) m k hk)
              have hc3 := hbm.cell (p := ⟨g', m - k, none⟩) hg2'
              rw [hcells' (m - k) _ (Rp.rowT_at q (n + 1) (m - k) (by omega))] at hc3
              clear hcells' hc1
              have ht2 := Rp.T_256 k (q + 1) (by omega)
              have ht3 := Rp.T_256 (m - k) q (by omega)
              go_wp2
              go_quiet (fail)
              go_wp2
              · exact ⟨⟨k + 1, k + Adj8.T k (q + 1) + Adj8.T (m - k) q, d + nq, by omega, by omega, by go_num, by go_num, by omega, rfl, Rp.best_take HB.out hk1 hk hq1 (by omega)⟩, by simp [intOf]; omega⟩
              · exact ⟨⟨k + 1, L, d + nq, by omega, by omega, by go_num, rfl, by omega, rfl, Rp.best_keep HB.out (by omega)⟩, by simp [intOf]; omega⟩
            · have hend : L = Adj8.T m (q + 1) := by
                refine Rp.best_end hm2 ?_
                rcases Nat.lt_or_ge k m with h | h
                · exact Rp.best_zero (by omega) HB.out
                · obtain rfl : k = m := by omega
                  exact HB.out
              subst hend
              clear hc1
              have hown2 : (wm.drewN d).ownsRow wo.heap.size 3 1 (.slice (some ⟨g, 0, none⟩) m cap) m (Rp.rowT (q + 1) m) := hown
              have hq0 : k < m → ¬ (1 < (q : Int) + 1) := by omega
              have hfin := fun v' w1 hown' hgrow => Rp.mid_end (w := wo) (wm := wm) (d := d) (v' := v') (w1 := w1) (o := .cells #[.int .i64 ((Adj8.T m (q + 1) : Nat) : Int)] 3) hbm hown hown' hgrow
              have HF := Lib.hid hfin
              clear hfin
              by_cases hk : k < m
              · have hq0 := hq0 hk
                go_wp2_with (at_builtin; refine wpList_append_own _ rfl _ _ 28 rfl wo.heap.size 3 i0 (.int .i64 0) 1 8 Try.underlying28 hi hz0 hz1 hz2 rfl (by decide) _ _ _ rfl (hown2.alloc _) ⟨wm.heap.size, 0, none⟩ 1 1 [.int .i64 ((Adj8.T m (q + 1) : Nat) : Int)] rfl rfl (cell_one_new _ _ _) (Rp.one_one _ _) (by unfold maxLen; omega) (by omega) (by have := hbm.size; simp; omega) ?_)
                intro v' w1 hown' hgrow _
                have h2 := HF.out _ _ hown' hgrow
                clear hown' hgrow
                have H2 := Lib.hid h2
                clear h2
                go_wp2
                go_roundw
                case rel => exact ⟨m + 1, by omega, by omega, by go_num, H2.out.1, H2.out.2⟩
                case measure => simp [intOf]; omega
              · go_wp2_with (at_builtin; refine wpList_append_own _ rfl _ _ 28 rfl wo.heap.size 3 i0 (.int .i64 0) 1 8 Try.underlying28 hi hz0 hz1 hz2 rfl (by decide) _ _ _ rfl (hown2.alloc _) ⟨wm.heap.size, 0, none⟩ 1 1 [.int .i64 ((Adj8.T m (q + 1) : Nat) : Int)] rfl rfl (cell_one_new _ _ _) (Rp.one_one _ _) (by unfold maxLen; omega) (by omega) (by have := hbm.size; simp; omega) ?_)
                intro v' w1 hown' hgrow _
                have h2 := HF.out _ _ hown' hgrow
                clear hown' hgrow
                have H2 := Lib.hid h2
                clear h2
                go_wp2
                go_roundw
                case rel => exact ⟨m + 1, by omega, by omega, by go_num, H2.out.1, H2.out.2⟩
                case measure => simp [intOf]; omega
        · obtain rfl : m = n + 1 := by omega
          go_wp2
          exact ⟨⟨q + 1, by omega, by go_num, fun h => by omega, fun _ => Rp.own_base hbel hown, hbel.trans (hbm.mono hbel.size)⟩, by simp [intOf]; omega⟩
    · obtain rfl : q = s := by omega
      obtain ⟨g', cap', rfl, hg1', hg2', hcap', hcap2', hcells'⟩ := Rp.own_shape (hv1 h1) (by omega)
      have hc3 := hcells' n _ (Rp.rowT_at q (n + 1) n (by omega))
      clear hcells'
      go_wp2
      go_ret2
      exact ⟨rfl, hbel⟩

set_option maxHeartbeats 1000000 in
/-- Least of the reference, of anything. -/
theorem refLeast_any (n s : Int) (w : World) :
    Calls Try.prog 10 #[.int .i64 n, .int .i64 s] w fun e w' => e = .returned (Rp.leastR n s) ∧ Below w.heap.size w w' := by
  by_cases h0 : Rp.wrong n s = 0
  · obtain ⟨b1, b2, b3, b4, b5⟩ := Rp.wrong_ok h0
    obtain ⟨n, rfl⟩ := Int.eq_ofNat_of_zero_le b1
    obtain ⟨s, rfl⟩ := Int.eq_ofNat_of_zero_le b3
    rcases Nat.lt_or_ge n 2 with h2 | h2
    · have h2' : (n : Int) < 2 := by omega
      have ht : Adj8.T n s = 0 := by
        rcases Nat.lt_or_ge n 1 with h | h
        · obtain rfl : n = 0 := by omega
          exact Adj8.T_zero s
        · obtain rfl : n = 1 := by omega
          exact Adj8.T_one s
      have HT := Lib.hid ht
      have H0 := Lib.hid h0
      clear ht h0
      go_enter Try.func10, Try.ntmps10
      go_wp2_with (go_at_call 19; refine (refwrong_any _ _ _).mono ?_; rintro e w' ⟨rfl, rfl⟩; rw [H0.out])
      go_ret2
      exact ⟨by unfold Rp.leastR; rw [if_pos H0.out, H0.out, Int.toNat_natCast, Int.toNat_natCast, HT.out]; rfl, Below.refl _ _⟩
    · refine (refLeast_big n s w (by omega) (by omega) h2 (by omega)).mono fun e w' ⟨he, hw⟩ => ⟨?_, hw⟩
      rw [he]
      unfold Rp.leastR
      rw [if_pos h0, h0, Int.toNat_natCast, Int.toNat_natCast]
  · have h1 : (Rp.wrong n s != 0) = true := by simpa using h0
    go_enter Try.func10, Try.ntmps10
    go_wp2_with (go_at_call 19; refine (refwrong_any _ _ _).mono ?_; rintro e w' ⟨rfl, rfl⟩)
    go_ret2
    exact ⟨by unfold Rp.leastR; rw [if_neg h0]; rfl, Below.refl _ _⟩

end Go.Proofs.Ytebekdnihncenaa
