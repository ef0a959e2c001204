/-
  The walk of the reference's Play: it answers what the plain play answers. Conditions: the moves can be read; there are at most 2^44 of them.
-/
import Derived.Test.YtebekdnihncenaaReplayE
namespace Go.Proofs.Ytebekdnihncenaa
set_option linter.unusedVariables false
open Go.RowKit Adj Adj8

namespace Rp
theorem part_set (v : Int) (c k : Nat) (h : k < c) : (part v c k).toArray.setIfInBounds k (.int .i64 v) = (part v c (k + 1)).toArray := by
  unfold part
  rw [ints_set]
  congr 2
  apply List.ext_getElem
  · simp; omega
  · intro i h1 h2
    simp only [List.length_set, List.length_append, List.length_replicate] at h1
    rw [List.getElem_set]
    split
    · subst_vars; simp
    · rename_i hne
      rcases Nat.lt_or_ge i k with hi | hi
      · rw [List.getElem_append_left (by simpa using hi), List.getElem_append_left (by simp; omega)]; simp
      · rw [List.getElem_append_right (by simpa using hi), List.getElem_append_right (by simp; omega)]; simp
theorem part_none (v : Int) (c : Nat) : part v c 0 = ints (List.replicate c 0) := by simp [part]
theorem val_load {x : St} {k v : Int} (h : x.kept.getD k.toNat 0 = v) : Value.int .i64 v = .int .i64 (moveDo x 3 k).at_ := by
  show _ = Value.int .i64 (x.kept.getD k.toNat 0)
  rw [h]
/-- The play stands in the reference's slots. -/
def Kept (x : St) (g : Nat) (w : World) : Prop := Blk w g 3 (ints x.kept).toArray
end Rp

set_option maxRecDepth 100000 in
set_option maxHeartbeats 4000000 in
theorem refPlay_in (n : Int) (s : Nat) (A : Option Addr) (cap : Nat) (L : List (Int × Int)) (w : World) (h0 : 0 ≤ n) (h1 : n ≤ 256) (hs : s ≤ 16)
    (hL : L.length ≤ 17592186044416) (hm : Rp.MovesAt w w.heap.size A L) :
    Calls Try.prog 15 #[.int .i64 n, .int .i64 (s : Int), .slice A L.length cap] w fun e w' =>
      e = .returned (.tuple #[.int .i64 (answer n s L).1, .int .i64 (answer n s L).2]) ∧ Below w.heap.size w w' := by
  have hmk := fun W => run_make_int s (by omega) W
  have HM := Lib.hid hm
  clear hm
  go_enter Try.func15, Try.ntmps15
  go_wp2
  have hb0 : Blk (w.alloc (.cells (ints (List.replicate s 0)).toArray 3)) w.heap.size 3 (Rp.part (-1) s 0).toArray := by rw [Rp.part_none]; exact Blk.new _ _ _
  clear hmk
  go_loopw [12, 34] (fun _ v wr => ∃ i : Nat, i ≤ s ∧ v = .int .i64 (i : Int) ∧ Blk wr w.heap.size 3 (Rp.part (-1) s i).toArray ∧ Below w.heap.size w wr) (fun _ v _ => s + 1 - (intOf v).toNat)
  case atStart => exact ⟨0, by omega, rfl, hb0, (Below.refl _ _).alloc (Nat.le_refl _) _⟩
  case round =>
    obtain ⟨i, hi, rfl, hblk, hbel⟩ := hrel
    clear hb0
    have HB := Lib.hid hblk
    clear hblk
    by_cases hlt : i < s
    · have hfr := HB.out.frozen i
      have hcell := HB.out.at (i := i) (v := ((Rp.part (-1) s i)[i]'(by rw [Rp.part_length _ _ _ hi]; exact hlt))) (by simp [Rp.part_length _ _ _ hi, hlt])
      go_wp2
      refine ⟨⟨i + 1, by omega, by go_num, ?_, hbel.setCell (Nat.le_refl _) _⟩, by simp [intOf]; omega⟩
      have h := HB.out.set_ i (.int .i64 (-1))
      rw [Rp.part_set _ _ _ hlt] at h
      exact h
    · obtain rfl : s = i := by omega
      have hk0 : Rp.Kept (play0 n s) w.heap.size wr := by
        have h := HB.out
        rw [Rp.part_all] at h
        exact h
      have HK0 := Lib.hid hk0
      clear hk0 HB
      go_wp2
      go_loopw [8, 9, 10, 43] (fun a l c v wr => ∃ j : Nat, j ≤ L.length ∧ v = .int .i64 (j : Int) ∧ (∃ x, plays n (play0 n s) (L.take j) = .ok x ∧ a = .int .i64 x.at_ ∧ l = .int .i64 x.left ∧ c = .int .i64 x.cost ∧ Rp.Kept x w.heap.size wr) ∧ Below w.heap.size w wr) (fun _ _ _ v _ => L.length + 1 - (intOf v).toNat)
      case atStart => exact ⟨0, by omega, rfl, ⟨_, by simp [plays], rfl, rfl, rfl, HK0.out⟩, hbel⟩
      case round =>
        clear hbel HK0
        obtain ⟨j, hj, rfl, ⟨x, hrun, rfl, rfl, rfl, hst⟩, hbel⟩ := hrel
        have hf := plays_fine (play0_fine n s h0) hrun
        have hcost := Rp.run_cost n _ _ _ (show (0 : Int) ≤ (play0 n s).cost from Int.le_refl _) hrun
        have hct : x.cost ≤ 4611686018427387904 := by
          have := hcost.2
          have h2 : (play0 n s).cost = 0 := rfl
          have h3 : (L.take j).length ≤ L.length := List.length_take_le' _ _
          omega
        have hc0 := hcost.1
        have HS := Lib.hid hst
        have HR := Lib.hid hrun
        have HF := Lib.hid hf
        obtain ⟨f1, f2, f3, f4, f5, f6⟩ := hf
        have F5 := Lib.hid f5
        clear hst hrun f5 f6 hcost
        by_cases hlt : j < L.length
        · obtain ⟨bm, off, rfl, hbm, hcells⟩ := HM.out (by omega)
          obtain ⟨e1, e2⟩ := hcells j hlt
          have e1' := (hbel.cell (p := ⟨bm, off + j * 2, none⟩) hbm).trans e1
          have e2' := (hbel.cell (p := ⟨bm, off + j * 2 + 1, none⟩) hbm).trans e2
          clear hcells e1 e2
          obtain ⟨d, k, hdk⟩ : ∃ d k, L[j] = (d, k) := ⟨_, _, rfl⟩
          rw [hdk] at e1' e2'
          have HDK := Lib.hid hdk
          clear hdk
          have hsz2 := hbel.size
          have hb4 : Below w.heap.size w (wr.alloc (.cells #[.int .i64 d, .int .i64 k] 47)) := hbel.alloc hsz2 _
          have HON := Lib.hid (fun he => Rp.plays_on (d := d) (k := k) HR.out hlt HDK.out he)
          have HOFF := Lib.hid (fun he => Rp.answer_err (Rp.plays_off (d := d) (k := k) HR.out hlt HDK.out he))
          by_cases d1 : d = 1
          · subst d1
            by_cases ha : x.at_ = n
            · have HA := Lib.hid (HOFF.out (by rw [Rp.err_ahead' ha]; omega))
              have HE := Lib.hid (Rp.err_ahead' (k := k) ha)
              have hge : n ≤ x.at_ := by omega
              clear ha
              go_wp2
              go_ret2
              exact ⟨by rw [HA.out, HE.out]; rfl, hb4⟩
            · have HN := Lib.hid (HON.out (Rp.err_ahead ha))
              have hge : x.at_ < n := by omega
              go_wp2
              exact ⟨⟨j + 1, by omega, by go_num, ⟨_, HN.out, rfl, rfl, rfl, HS.out.alloc _⟩, hb4⟩, by simp [intOf]; omega⟩
          by_cases d4 : d = 4
          · subst d4
            by_cases ha : x.at_ = x.left - 1
            · have HN := Lib.hid (HON.out (Rp.err_back ha))
              have hq : (x.at_ != x.left - 1) = false := by simpa using ha
              have hq0 : (x.left == 0) = false := by simp; omega
              clear ha
              go_wp2
              exact ⟨⟨j + 1, by omega, by go_num, ⟨_, HN.out, rfl, rfl, rfl, HS.out.alloc _⟩, hb4⟩, by simp [intOf]; omega⟩
            · have HA := Lib.hid (HOFF.out (by rw [Rp.err_back' ha]; omega))
              have HE := Lib.hid (Rp.err_back' (n := n) (k := k) ha)
              have hq : (x.at_ != x.left - 1) = true := by simpa using ha
              clear ha d1
              by_cases hz : x.left = 0
              · have hq0 : (x.left == 0) = true := by simpa using hz
                have HZ := Lib.hid hz
                clear hz hq
                go_wp2
                go_ret2
                exact ⟨by rw [HA.out, HE.out]; rfl, hb4⟩
              · have hq0 : (x.left == 0) = false := by simpa using hz
                go_wp2
                go_ret2
                exact ⟨by rw [HA.out, HE.out]; rfl, hb4⟩
          by_cases d2 : d = 2
          · subst d2
            by_cases hk0 : k < 0
            · have HA := Lib.hid (HOFF.out (by rw [Rp.err_keep' (.inl hk0)]; omega))
              have HE := Lib.hid (Rp.err_keep' (n := n) (x := x) (k := k) (.inl hk0))
              go_wp2
              go_ret2
              exact ⟨by rw [HA.out, HE.out]; rfl, hb4⟩
            by_cases hks : (s : Int) ≤ k
            · have HA := Lib.hid (HOFF.out (by rw [Rp.err_keep' (.inr (by rw [F5.out]; exact hks))]; omega))
              have HE := Lib.hid (Rp.err_keep' (n := n) (x := x) (k := k) (.inr (by rw [F5.out]; exact hks)))
              go_wp2
              go_ret2
              exact ⟨by rw [HA.out, HE.out]; rfl, hb4⟩
            obtain ⟨q, rfl⟩ := Int.eq_ofNat_of_zero_le (show 0 ≤ k by omega)
            have hql : q < x.kept.length := by rw [F5.out]; omega
            have hst2 : Rp.Kept x w.heap.size (wr.alloc (.cells #[.int .i64 2, .int .i64 (q : Int)] 47)) := HS.out.alloc _
            have hfr := hst2.frozen q
            have hcell := hst2.at (i := q) (by simpa using ints_at x.kept q hql)
            have HS2 := Lib.hid hst2
            have HV := Lib.hid (show x.kept.getD (q : Int).toNat 0 = x.kept[q] by simp [hql])
            have hk1 : (0 : Int) ≤ (q : Int) := by omega
            have hk2 : (q : Int) < (s : Int) := by omega
            have hd0 : decide ((q : Int) < 0) = false := by simp
            clear hst2
            have HN := Lib.hid (HON.out (Rp.err_keep (by rw [F5.out]; omega)))
            go_wp2
            refine ⟨⟨j + 1, by omega, by go_num, ⟨_, HN.out, rfl, rfl, rfl, ?_⟩, hb4.setCell (Nat.le_refl _) _⟩, by simp [intOf]; omega⟩
            have h := HS2.out.set_ q (.int .i64 x.at_)
            rw [ints_set] at h
            exact h
          by_cases d3 : d = 3
          · subst d3
            by_cases hk0 : k < 0
            · have HA := Lib.hid (HOFF.out (by rw [Rp.err_load' (.inl hk0)]; omega))
              have HE := Lib.hid (Rp.err_load' (n := n) (x := x) (k := k) (.inl hk0))
              go_wp2
              go_ret2
              exact ⟨by rw [HA.out, HE.out]; rfl, hb4⟩
            by_cases hks : (s : Int) ≤ k
            · have HA := Lib.hid (HOFF.out (by rw [Rp.err_load' (.inr (by rw [F5.out]; exact hks))]; omega))
              have HE := Lib.hid (Rp.err_load' (n := n) (x := x) (k := k) (.inr (by rw [F5.out]; exact hks)))
              go_wp2
              go_ret2
              exact ⟨by rw [HA.out, HE.out]; rfl, hb4⟩
            obtain ⟨q, rfl⟩ := Int.eq_ofNat_of_zero_le (show 0 ≤ k by omega)
            have hql : q < x.kept.length := by rw [F5.out]; omega
            have hst2 : Rp.Kept x w.heap.size (wr.alloc (.cells #[.int .i64 3, .int .i64 (q : Int)] 47)) := HS.out.alloc _
            have hfr := hst2.frozen q
            have hcell := hst2.at (i := q) (by simpa using ints_at x.kept q hql)
            have HS2 := Lib.hid hst2
            have HV := Lib.hid (show x.kept.getD (q : Int).toNat 0 = x.kept[q] by simp [hql])
            have hk1 : (0 : Int) ≤ (q : Int) := by omega
            have hk2 : (q : Int) < (s : Int) := by omega
            have hd0 : decide ((q : Int) < 0) = false := by simp
            clear hst2
            have F6 := HF.out.2.2.2.2.2 _ (List.getElem_mem hql)
            by_cases hneg : x.kept[q] < 0
            · have HA := Lib.hid (HOFF.out (by rw [Rp.err_load9 (by rw [F5.out]; omega) (by rw [HV.out]; exact hneg)]; omega))
              have HE := Lib.hid (Rp.err_load9 (n := n) (x := x) (k := (q : Int)) (by rw [F5.out]; omega) (by rw [HV.out]; exact hneg))
              go_wp2
              go_ret2
              exact ⟨by rw [HA.out, HE.out]; rfl, hb4⟩
            · have HN := Lib.hid (HON.out (Rp.err_load (by rw [F5.out]; omega) (by rw [HV.out]; exact hneg)))
              go_wp2
              exact ⟨⟨j + 1, by omega, by go_num, ⟨_, HN.out, Rp.val_load HV.out, rfl, rfl, HS2.out⟩, hb4⟩, by simp [intOf]; omega⟩
          have HA := Lib.hid (HOFF.out (by rw [Rp.err_other d1 d2 d3 d4]; omega))
          have HE := Lib.hid (Rp.err_other (n := n) (x := x) (k := k) d1 d2 d3 d4)
          have q1 : (d == 1) = false := by simpa using d1
          have q2 : (d == 2) = false := by simpa using d2
          have q3 : (d == 3) = false := by simpa using d3
          have q4 : (d == 4) = false := by simpa using d4
          clear d1 d2 d3 d4
          go_wp2
          go_ret2
          exact ⟨by rw [HA.out, HE.out]; rfl, hb4⟩
        · obtain rfl : j = L.length := by omega
          have hr : plays n (play0 n s) L = .ok x := by have := HR.out; rwa [List.take_length] at this
          have HR2 := Lib.hid hr
          clear hr HR
          by_cases hl : x.left = 0
          · have HA := Lib.hid (Rp.answer_done HR2.out (by omega))
            have hq : (x.left != 0) = false := by simpa using hl
            have HL := Lib.hid hl
            clear hl
            go_wp2
            go_ret2
            exact ⟨by rw [HA.out]; rfl, hbel⟩
          · have HA := Lib.hid (Rp.answer_left HR2.out (by omega))
            have hq : (x.left != 0) = true := by simpa using hl
            go_wp2
            go_ret2
            exact ⟨by rw [HA.out]; rfl, hbel⟩

theorem refPlay_out (n s : Int) (v : Value) (w : World) (h : n < 0 ∨ 256 < n ∨ s < 0 ∨ 16 < s) :
    Calls Try.prog 15 #[.int .i64 n, .int .i64 s, v] w fun e w' => e = .returned (.tuple #[.int .i64 0, .int .i64 4]) ∧ w = w' := by
  by_cases h1 : n < 0
  · go_enter Try.func15, Try.ntmps15
    go_wp2_with fail
    go_ret2
    exact ⟨rfl, rfl⟩
  by_cases h2 : 256 < n
  · go_enter Try.func15, Try.ntmps15
    go_wp2_with fail
    go_ret2
    exact ⟨rfl, rfl⟩
  by_cases h3 : s < 0
  · go_enter Try.func15, Try.ntmps15
    go_wp2_with fail
    go_ret2
    exact ⟨rfl, rfl⟩
  have h4 : 16 < s := by omega
  go_enter Try.func15, Try.ntmps15
  go_wp2_with fail
  go_ret2
  exact ⟨rfl, rfl⟩

end Go.Proofs.Ytebekdnihncenaa
