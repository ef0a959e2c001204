/-
  The walk of the law file's choose: Pascal's rows, modulo 2^64. Conditions: 0 <= n <= 1000, 0 <= k.
-/
import Derived.Test.YtebekdnihncenaaReplayB
import Derived.Deep.RegionHeld3
import Derived.Deep.AppendLies
namespace Go.Proofs.Ytebekdnihncenaa
open Go.RowKit

namespace Rp
/-- Pascal's number as an int has it. -/
def pw (i j : Nat) : Int := wrap64 ((Adj8.ch i j : Nat) : Int)
theorem pw_add (i j : Nat) (hj : 1 ≤ j) : wrap64 (pw i (j - 1) + pw i j) = pw (i + 1) j := by
  obtain ⟨j, rfl⟩ : ∃ q, j = q + 1 := ⟨j - 1, by omega⟩
  unfold pw
  rw [Adj8.ch_succ, show j + 1 - 1 = j from rfl]
  unfold wrap64
  omega
theorem pw_zero (i : Nat) : pw i 0 = 1 := by unfold pw wrap64; rw [Adj8.ch_zero]; rfl
theorem pw_self (i : Nat) : pw i i = 1 := by unfold pw wrap64; rw [Adj8.ch_self]; rfl
theorem pw_small (i j : Nat) (h : Adj8.ch i j ≤ 1073741824) : pw i j = Adj8.ch i j := by unfold pw wrap64; omega
def rowP (i m : Nat) : List Value := (List.range m).map fun j => .int .i64 (pw i j)
theorem rowP_succ (i m : Nat) : rowP i (m + 1) = rowP i m ++ [.int .i64 (pw i m)] := by
  unfold rowP; rw [List.range_succ, List.map_append]; rfl
theorem rowP_at (i m j : Nat) (h : j < m) : (rowP i m)[j]? = some (.int .i64 (pw i j)) := by
  unfold rowP; simp [h]
theorem ownP_start (w : World) (i : Nat) : (w.alloc (.cells #[.int .i64 1] 3)).ownsRow w.heap.size 3 1 (.slice (some ⟨w.heap.size, 0, none⟩) 1 1) 1 (rowP i 1) :=
  ⟨rfl, .inr ⟨w.heap.size, 1, _, rfl, Nat.le_refl _, heap_alloc_new w _, Nat.le_refl _, by unfold maxLen; omega, rfl, by simp [rowP, List.range_succ, pw_zero]⟩⟩
theorem pasc_end {w wm w1 : World} {m i : Nat} {v v' : Value} {o : Obj} (hb : Below w.heap.size w wm) (hown : wm.ownsRow w.heap.size 3 1 v m (rowP i m))
    (hown' : w1.ownsRow w.heap.size 3 1 v' (m + 1) (rowP i m ++ [.int .i64 (pw i m)])) (hg : (wm.alloc o).drew.grownBy w1 v.ownBlock) :
    w1.ownsRow w.heap.size 3 1 v' (m + 1) (rowP i (m + 1)) ∧ Below w.heap.size w w1 := by
  refine ⟨by rw [rowP_succ]; exact hown', ?_⟩
  exact (hb.alloc hb.size o).drew.grown hg (by have := hb.size; simp; omega) (fun k hk => (hown.lt k hk).1)
theorem row_end {w0 w wm w1 : World} {q : Nat} {v v' : Value} {o : Obj} (h0 : Below w0.heap.size w0 w) (hb : Below w.heap.size w wm) (hown : wm.ownsRow w.heap.size 3 1 v (q + 1) (rowP (q + 1) (q + 1)))
    (hown' : w1.ownsRow w.heap.size 3 1 v' (q + 1 + 1) (rowP (q + 1) (q + 1) ++ [.int .i64 1])) (hg : (wm.alloc o).grownBy w1 v.ownBlock) :
    w1.ownsRow w0.heap.size 3 1 v' (q + 1 + 1) (rowP (q + 1) (q + 1 + 1)) ∧ Below w0.heap.size w0 w1 := by
  refine ⟨by rw [rowP_succ, pw_self]; exact own_base h0 hown', ?_⟩
  exact h0.trans (((hb.alloc hb.size o).grown hg (by have := hb.size; simp; omega) (fun k hk => (hown.lt k hk).1)).mono h0.size)
end Rp

set_option maxRecDepth 100000 in
set_option maxHeartbeats 2000000 in
theorem choose_any (n k : Nat) (w : World) (hn : n ≤ 1000) (hk : k ≤ n) :
    Calls Try.prog 12 #[.int .i64 (n : Int), .int .i64 (k : Int)] w fun e w' => e = .returned (.int .i64 (Rp.pw n k)) ∧ Below w.heap.size w w' := by
  obtain ⟨i0, hi, hz0, hz1, hz2⟩ := info_parts Try.info3
  go_enter Try.func12, Try.ntmps12
  go_wp2
  go_loopw [5, 6] (fun v i wr => ∃ q : Nat, q ≤ n ∧ i = .int .i64 (q : Int) ∧ wr.ownsRow w.heap.size 3 1 v (q + 1) (Rp.rowP q (q + 1)) ∧ Below w.heap.size w wr)
    (fun _ i _ => n + 1 - (intOf i).toNat)
  case atStart => exact ⟨0, by omega, rfl, Rp.ownP_start w 0, (Below.refl _ _).alloc (Nat.le_refl _) _⟩
  case round =>
    obtain ⟨q, hq, rfl, hown, hbel⟩ := hrel
    obtain ⟨g, cap, rfl, hg1, hg2, hcap, hcap2, hcells⟩ := Rp.own_shape hown (by omega)
    obtain ⟨wo, rfl⟩ : ∃ wo : World, wo = wr := ⟨_, rfl⟩
    have HC := Lib.hid hcells
    clear hcells
    by_cases hlt : q < n
    · have hd0 : decide ((q : Int) < (n : Int)) = true := by simp; omega
      go_wp2
      go_loopw [7, 8] (fun v i wm => ∃ j : Nat, 1 ≤ j ∧ j ≤ q + 1 ∧ i = .int .i64 (j : Int) ∧ wm.ownsRow wo.heap.size 3 1 v j (Rp.rowP (q + 1) j) ∧ Below wo.heap.size wo wm) (fun _ i _ => n + 1 - (intOf i).toNat)
      case atStart => exact ⟨1, by omega, by omega, rfl, Rp.ownP_start wo (q + 1), (Below.refl _ _).alloc (Nat.le_refl _) _⟩
      case round =>
        obtain ⟨j, hj1, hjq, rfl, hown2, hbm⟩ := hrel
        obtain ⟨wm, rfl⟩ : ∃ wm : World, wm = wr := ⟨_, rfl⟩
        obtain ⟨g', cap', rfl, hg1', hg2', hcap', hcap2', _⟩ := Rp.own_shape hown2 (by omega)
        by_cases hjlt : j ≤ q
        · have hc1 := hbm.cell (p := ⟨g, j - 1, none⟩) hg2
          rw [HC.out (j - 1) _ (Rp.rowP_at q (q + 1) (j - 1) (by omega))] at hc1
          have hc2 := hbm.cell (p := ⟨g, j, none⟩) hg2
          rw [HC.out j _ (Rp.rowP_at q (q + 1) j (by omega))] at hc2
          have hsz := hbm.size
          have hfin := fun v' w1 hown' hgrow => Rp.pasc_end (w := wo) (wm := wm) (i := q + 1) (v' := v') (w1 := w1) (o := .cells #[.int .i64 (Rp.pw (q + 1) j)] 3) hbm hown2 hown' hgrow
          have HF := Lib.hid hfin
          clear hfin
          have HP := Lib.hid (Rp.pw_add q j hj1)
          have hi1 : (0 : Int) ≤ (j : Int) - 1 := by omega
          have hi1' : (1 : Int) ≤ (j : Int) := by omega
          have hi2 : (j : Int) - 1 < (q : Int) + 1 := by omega
          have hi3 : (j : Int) < (q : Int) + 1 := by omega
          have hne : (Value.slice (some ⟨g', 0, none⟩) j cap').ownBlock ≠ some g := by simp [Value.ownBlock]; omega
          have hs1 : IntKind.i64.wrap ((j : Int) - 1) = (j : Int) - 1 := IntWalk.i64_in _ (by omega)
          have hs2 : ((j : Int) - 1).toNat = j - 1 := by omega
          have hs3 : IntKind.i64.wrap (Rp.pw q (j - 1) + Rp.pw q j) = Rp.pw (q + 1) j := by rw [← HP.out, IntKind.wrap_i64]; unfold wrap64; rfl
          go_wp2_with fail
          go_region_held3 (fun w' => w'.cell? ⟨g, j - 1, none⟩ = some (.int .i64 (Rp.pw q (j - 1))) ∧ w'.cell? ⟨g, j, none⟩ = some (.int .i64 (Rp.pw q j)))
            (first
              | go_keep
              | (go_split_ands
                 refine ⟨?_, ?_⟩
                 · (rw [hgrow.cell_far _ (by simp; omega) (Ne.symm hne)]; assumption)
                 · (rw [hgrow.cell_far _ (by simp; omega) (Ne.symm hne)]; assumption)))
            ((refine step_append_lies _ (by rfl) _ _ _ (by rfl) wo.heap.size 3 i0 _ 1 8 Try.underlying28 hi hz0 hz1 hz2 rfl (by omega) (.slice (some ⟨g', 0, none⟩) j cap') j (Rp.rowP (q + 1) j) (by rfl) ((hown2.alloc _).drew) ⟨wm.heap.size, 0, none⟩ 1 1 [.int .i64 (Rp.pw (q + 1) j)] (by rfl) (by rfl) (World.news_of_block (cs := #[.int .i64 (Rp.pw (q + 1) j)]) (t := 3) (fr := (0, 0)) (heap_alloc_new wm _)) (Rp.one_one _ _) (by omega) (by unfold maxLen; omega) (by omega) (by simp; omega) (wm.heap.size + 1) (by simp) ?_; intro gg capg w1 hown1 hgrow hat hltg))
          have H2 := Lib.hid (HF.out _ _ hown1 hgrow)
          clear hown1 hgrow
          go_wp2
          exact ⟨⟨j + 1, by omega, by omega, by go_num, H2.out.1, H2.out.2⟩, by simp [intOf]; omega⟩
        · obtain rfl : j = q + 1 := by omega
          have hfin := fun v' w1 hown' hgrow => Rp.row_end (w0 := w) (w := wo) (wm := wm) (q := q) (v' := v') (w1 := w1) (o := .cells #[.int .i64 1] 3) hbel hbm hown2 hown' hgrow
          have HF := Lib.hid hfin
          clear hfin
          go_wp2_with (at_builtin; refine wpList_append_own _ rfl _ _ 28 rfl wo.heap.size 3 i0 (.int .i64 0) 1 8 Try.underlying28 hi hz0 hz1 hz2 rfl (by decide) _ _ _ rfl (hown2.alloc _) ⟨wm.heap.size, 0, none⟩ 1 1 [.int .i64 1] rfl rfl (cell_one_new _ _ _) (Rp.one_one _ _) (by unfold maxLen; omega) (by omega) (by have := hbm.size; simp; omega) ?_)
          intro v' w1 hown' hgrow _
          have H2 := Lib.hid (HF.out _ _ hown' hgrow)
          clear hown' hgrow
          go_wp2
          first
            | exact ⟨⟨q + 1, by omega, by go_num, H2.out.1, H2.out.2⟩, by simp [intOf]; omega⟩
            | (go_roundw
               case rel => exact ⟨q + 1, by omega, by go_num, H2.out.1, H2.out.2⟩
               case measure => simp [intOf]; omega)
    · obtain rfl : q = n := by omega
      have hc := HC.out k _ (Rp.rowP_at q (q + 1) k (by omega))
      go_wp2
      go_ret
      exact ⟨rfl, hbel⟩

set_option maxRecDepth 100000 in
set_option maxHeartbeats 2000000 in
theorem choose_above (n : Nat) (k : Int) (w : World) (hn : n ≤ 1000) (hk : (n : Int) < k) :
    Calls Try.prog 12 #[.int .i64 (n : Int), .int .i64 k] w fun e w' => e = .returned (.int .i64 0) ∧ Below w.heap.size w w' := by
  obtain ⟨i0, hi, hz0, hz1, hz2⟩ := info_parts Try.info3
  go_enter Try.func12, Try.ntmps12
  go_wp2
  go_loopw [5, 6] (fun v i wr => ∃ q : Nat, q ≤ n ∧ i = .int .i64 (q : Int) ∧ wr.ownsRow w.heap.size 3 1 v (q + 1) (Rp.rowP q (q + 1)) ∧ Below w.heap.size w wr)
    (fun _ i _ => n + 1 - (intOf i).toNat)
  case atStart => exact ⟨0, by omega, rfl, Rp.ownP_start w 0, (Below.refl _ _).alloc (Nat.le_refl _) _⟩
  case round =>
    obtain ⟨q, hq, rfl, hown, hbel⟩ := hrel
    obtain ⟨g, cap, rfl, hg1, hg2, hcap, hcap2, hcells⟩ := Rp.own_shape hown (by omega)
    obtain ⟨wo, rfl⟩ : ∃ wo : World, wo = wr := ⟨_, rfl⟩
    have HC := Lib.hid hcells
    clear hcells
    by_cases hlt : q < n
    · have hd0 : decide ((q : Int) < (n : Int)) = true := by simp; omega
      go_wp2
      go_loopw [7, 8] (fun v i wm => ∃ j : Nat, 1 ≤ j ∧ j ≤ q + 1 ∧ i = .int .i64 (j : Int) ∧ wm.ownsRow wo.heap.size 3 1 v j (Rp.rowP (q + 1) j) ∧ Below wo.heap.size wo wm) (fun _ i _ => n + 1 - (intOf i).toNat)
      case atStart => exact ⟨1, by omega, by omega, rfl, Rp.ownP_start wo (q + 1), (Below.refl _ _).alloc (Nat.le_refl _) _⟩
      case round =>
        obtain ⟨j, hj1, hjq, rfl, hown2, hbm⟩ := hrel
        obtain ⟨wm, rfl⟩ : ∃ wm : World, wm = wr := ⟨_, rfl⟩
        obtain ⟨g', cap', rfl, hg1', hg2', hcap', hcap2', _⟩ := Rp.own_shape hown2 (by omega)
        by_cases hjlt : j ≤ q
        · have hc1 := hbm.cell (p := ⟨g, j - 1, none⟩) hg2
          rw [HC.out (j - 1) _ (Rp.rowP_at q (q + 1) (j - 1) (by omega))] at hc1
          have hc2 := hbm.cell (p := ⟨g, j, none⟩) hg2
          rw [HC.out j _ (Rp.rowP_at q (q + 1) j (by omega))] at hc2
          have hsz := hbm.size
          have hfin := fun v' w1 hown' hgrow => Rp.pasc_end (w := wo) (wm := wm) (i := q + 1) (v' := v') (w1 := w1) (o := .cells #[.int .i64 (Rp.pw (q + 1) j)] 3) hbm hown2 hown' hgrow
          have HF := Lib.hid hfin
          clear hfin
          have HP := Lib.hid (Rp.pw_add q j hj1)
          have hi1 : (0 : Int) ≤ (j : Int) - 1 := by omega
          have hi1' : (1 : Int) ≤ (j : Int) := by omega
          have hi2 : (j : Int) - 1 < (q : Int) + 1 := by omega
          have hi3 : (j : Int) < (q : Int) + 1 := by omega
          have hne : (Value.slice (some ⟨g', 0, none⟩) j cap').ownBlock ≠ some g := by simp [Value.ownBlock]; omega
          have hs1 : IntKind.i64.wrap ((j : Int) - 1) = (j : Int) - 1 := IntWalk.i64_in _ (by omega)
          have hs2 : ((j : Int) - 1).toNat = j - 1 := by omega
          have hs3 : IntKind.i64.wrap (Rp.pw q (j - 1) + Rp.pw q j) = Rp.pw (q + 1) j := by rw [← HP.out, IntKind.wrap_i64]; unfold wrap64; rfl
          go_wp2_with fail
          go_region_held3 (fun w' => w'.cell? ⟨g, j - 1, none⟩ = some (.int .i64 (Rp.pw q (j - 1))) ∧ w'.cell? ⟨g, j, none⟩ = some (.int .i64 (Rp.pw q j)))
            (first
              | go_keep
              | (go_split_ands
                 refine ⟨?_, ?_⟩
                 · (rw [hgrow.cell_far _ (by simp; omega) (Ne.symm hne)]; assumption)
                 · (rw [hgrow.cell_far _ (by simp; omega) (Ne.symm hne)]; assumption)))
            ((refine step_append_lies _ (by rfl) _ _ _ (by rfl) wo.heap.size 3 i0 _ 1 8 Try.underlying28 hi hz0 hz1 hz2 rfl (by omega) (.slice (some ⟨g', 0, none⟩) j cap') j (Rp.rowP (q + 1) j) (by rfl) ((hown2.alloc _).drew) ⟨wm.heap.size, 0, none⟩ 1 1 [.int .i64 (Rp.pw (q + 1) j)] (by rfl) (by rfl) (World.news_of_block (cs := #[.int .i64 (Rp.pw (q + 1) j)]) (t := 3) (fr := (0, 0)) (heap_alloc_new wm _)) (Rp.one_one _ _) (by omega) (by unfold maxLen; omega) (by omega) (by simp; omega) (wm.heap.size + 1) (by simp) ?_; intro gg capg w1 hown1 hgrow hat hltg))
          have H2 := Lib.hid (HF.out _ _ hown1 hgrow)
          clear hown1 hgrow
          go_wp2
          exact ⟨⟨j + 1, by omega, by omega, by go_num, H2.out.1, H2.out.2⟩, by simp [intOf]; omega⟩
        · obtain rfl : j = q + 1 := by omega
          have hfin := fun v' w1 hown' hgrow => Rp.row_end (w0 := w) (w := wo) (wm := wm) (q := q) (v' := v') (w1 := w1) (o := .cells #[.int .i64 1] 3) hbel hbm hown2 hown' hgrow
          have HF := Lib.hid hfin
          clear hfin
          go_wp2_with (at_builtin; refine wpList_append_own _ rfl _ _ 28 rfl wo.heap.size 3 i0 (.int .i64 0) 1 8 Try.underlying28 hi hz0 hz1 hz2 rfl (by decide) _ _ _ rfl (hown2.alloc _) ⟨wm.heap.size, 0, none⟩ 1 1 [.int .i64 1] rfl rfl (cell_one_new _ _ _) (Rp.one_one _ _) (by unfold maxLen; omega) (by omega) (by have := hbm.size; simp; omega) ?_)
          intro v' w1 hown' hgrow _
          have H2 := Lib.hid (HF.out _ _ hown' hgrow)
          clear hown' hgrow
          go_wp2
          first
            | exact ⟨⟨q + 1, by omega, by go_num, H2.out.1, H2.out.2⟩, by simp [intOf]; omega⟩
            | (go_roundw
               case rel => exact ⟨q + 1, by omega, by go_num, H2.out.1, H2.out.2⟩
               case measure => simp [intOf]; omega)
    · obtain rfl : q = n := by omega
      go_wp2
      go_ret
      exact ⟨rfl, hbel⟩

end Go.Proofs.Ytebekdnihncenaa
