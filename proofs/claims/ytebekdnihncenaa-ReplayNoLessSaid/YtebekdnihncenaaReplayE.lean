/-
  The walks of Play, the program's and the reference's: both answer what the plain play answers. Conditions: the moves can be read; there are at most 2^44 of them.
-/
import Derived.Test.YtebekdnihncenaaReplayD
import Derived.Test.YtebekdnihncenaaRepeat
namespace Go.Proofs.Ytebekdnihncenaa
set_option linter.unusedVariables false
open Go.RowKit Adj Adj8

namespace Rp
/-- The moves that a slice holds. -/
def MovesAt (w : World) (B : Nat) (A : Option Addr) (L : List (Int × Int)) : Prop :=
  0 < L.length → ∃ b off, A = some ⟨b, off, none⟩ ∧ b < B ∧ ∀ i (h : i < L.length), w.cell? ⟨b, off + i * 2, none⟩ = some (.int .i64 L[i].1) ∧ w.cell? ⟨b, off + i * 2 + 1, none⟩ = some (.int .i64 L[i].2)
theorem run_cost (n : Int) : ∀ (l : List (Int × Int)) (x y : St), 0 ≤ x.cost → plays n x l = .ok y → 0 ≤ y.cost ∧ y.cost ≤ x.cost + l.length
  | [], x, y, h, hr => by simp only [plays, Except.ok.injEq] at hr; subst hr; exact ⟨h, by simp⟩
  | (d, k) :: l, x, y, h, hr => by
    simp only [plays] at hr
    by_cases hm : moveErr n x d k = 0
    · rw [if_pos hm] at hr
      have hc : 0 ≤ (moveDo x d k).cost ∧ (moveDo x d k).cost ≤ x.cost + 1 := by
        unfold moveDo; (repeat' split) <;> simp only <;> omega
      have := run_cost n l _ y hc.1 hr
      simp only [List.length_cons]
      omega
    · rw [if_neg hm] at hr; cases hr
theorem take_next (L : List (Int × Int)) (i : Nat) (h : i < L.length) : L.take (i + 1) = L.take i ++ [L[i]] := by
  rw [List.take_succ_eq_append_getElem h]
theorem plays_on {n : Int} {x0 x : St} {L : List (Int × Int)} {i : Nat} {d k : Int} (h : plays n x0 (L.take i) = .ok x) (hi : i < L.length) (hdk : L[i] = (d, k)) (he : moveErr n x d k = 0) :
    plays n x0 (L.take (i + 1)) = .ok (moveDo x d k) := by
  rw [take_next L i hi, plays_snoc, h, hdk]
  exact if_pos he
theorem plays_off {n : Int} {x0 x : St} {L : List (Int × Int)} {i : Nat} {d k : Int} (h : plays n x0 (L.take i) = .ok x) (hi : i < L.length) (hdk : L[i] = (d, k)) (he : moveErr n x d k ≠ 0) :
    plays n x0 L = .error (moveErr n x d k) := by
  have h1 : plays n x0 (L.take (i + 1)) = .error (moveErr n x d k) := by
    rw [take_next L i hi, plays_snoc, h, hdk]
    exact if_neg he
  have h2 := plays_stop n (L.drop (i + 1)) h1
  rwa [List.take_append_drop] at h2
theorem answer_err {n : Int} {s : Nat} {L : List (Int × Int)} {e : Int} (h : plays n (play0 n s) L = .error e) : answer n s L = (0, e) := by unfold answer; rw [h]
theorem answer_left {n : Int} {s : Nat} {L : List (Int × Int)} {x : St} (h : plays n (play0 n s) L = .ok x) (hl : x.left > 0) : answer n s L = (0, 13) := by unfold answer; rw [h]; exact if_pos hl
theorem answer_done {n : Int} {s : Nat} {L : List (Int × Int)} {x : St} (h : plays n (play0 n s) L = .ok x) (hl : ¬ x.left > 0) : answer n s L = (x.cost, 0) := by unfold answer; rw [h]; exact if_neg hl
end Rp

set_option maxHeartbeats 2000000 in
theorem Play_in (n : Int) (s : Nat) (A : Option Addr) (cap : Nat) (L : List (Int × Int)) (w : World) (h0 : 0 ≤ n) (h1 : n ≤ 256) (hs : s ≤ 16)
    (hL : L.length ≤ 17592186044416) (hm : Rp.MovesAt w w.heap.size A L) :
    Calls Try.prog 14 #[.int .i64 n, .int .i64 (s : Int), .slice A L.length cap] w fun e w' =>
      e = .returned (.tuple #[.int .i64 (answer n s L).1, .int .i64 (answer n s L).2]) ∧ Below w.heap.size w w' := by
  have hrep := fun g0 W hb => Repeat_any (-1) s g0 W hb (by omega)
  have HREP := Lib.hid hrep
  clear hrep
  have HM := Lib.hid hm
  clear hm
  go_enter Try.func14, Try.ntmps14
  go_wp2_with fail
  refine (HREP.out _ _ (Blk.new _ _ _)).mono ?_
  rintro e w1 ⟨rfl, hg1, hb1⟩
  have hsz : w.heap.size + 1 < w1.heap.size := by have := hg1.lt; simpa using this
  have hbw : Below w.heap.size w w1 := ((Below.refl _ _).alloc (Nat.le_refl _) _).trans (hb1.mono (by simp))
  have hg2 : Blk w1 (w.heap.size + 1) 3 (ints (List.replicate s (-1))).toArray := by simpa using hg1
  clear hg1 hb1
  have HG := Lib.hid hg2
  clear hg2
  go_wp2
  have hw2 : Rp.Stands n (play0 n s) s w1.heap.size (w.heap.size + 1) (w1.alloc (.cells #[.int .i64 n, .int .i64 0, .int .i64 n, .int .i64 0, .slice (some ⟨w.heap.size + 1, 0, none⟩) s s] 45)) :=
    ⟨Blk.new _ _ _, HG.out.alloc _, by omega⟩
  have hb2 : Below w.heap.size w (w1.alloc (.cells #[.int .i64 n, .int .i64 0, .int .i64 n, .int .i64 0, .slice (some ⟨w.heap.size + 1, 0, none⟩) s s] 45)) := hbw.alloc hbw.size _
  go_loopw [34] (fun v wr => ∃ i : Nat, i ≤ L.length ∧ v = .int .i64 (i : Int) ∧ (∃ x, plays n (play0 n s) (L.take i) = .ok x ∧ Rp.Stands n x s w1.heap.size (w.heap.size + 1) wr) ∧ Below w.heap.size w wr) (fun v _ => L.length + 1 - (intOf v).toNat)
  case atStart => exact ⟨0, by omega, rfl, ⟨_, by simp [plays], hw2⟩, hb2⟩
  case round =>
    obtain ⟨i, hi, rfl, ⟨x, hrun, hst⟩, hbel⟩ := hrel
    have hf := plays_fine (play0_fine n s h0) hrun
    have hcost := Rp.run_cost n _ _ _ (show (0 : Int) ≤ (play0 n s).cost from Int.le_refl _) hrun
    have hct : x.cost ≤ 4611686018427387904 := by
      have := hcost.2
      have h2 : (play0 n s).cost = 0 := rfl
      have h3 : (L.take i).length ≤ L.length := List.length_take_le' _ _
      omega
    have HS := Lib.hid hst
    have HR := Lib.hid hrun
    have HF := Lib.hid hf
    clear hst hrun hf hb2 hw2 hbw
    by_cases hlt : i < L.length
    · obtain ⟨bm, off, rfl, hbm, hcells⟩ := HM.out (by omega)
      obtain ⟨e1, e2⟩ := hcells i hlt
      have e1' := (hbel.cell (p := ⟨bm, off + i * 2, none⟩) hbm).trans e1
      have e2' := (hbel.cell (p := ⟨bm, off + i * 2 + 1, none⟩) hbm).trans e2
      clear hcells e1 e2
      obtain ⟨d, k, hdk⟩ : ∃ d k, L[i] = (d, k) := ⟨_, _, rfl⟩
      rw [hdk] at e1' e2'
      have HDK := Lib.hid hdk
      clear hdk
      have hsz2 := hbel.size
      have hmv := fun W (h : Rp.Stands n x s w1.heap.size (w.heap.size + 1) W) (hW : w.heap.size ≤ W.heap.size) => move_any n s x d k w1.heap.size (w.heap.size + 1) w.heap.size W h HF.out h1 (by omega) (by omega) hW hs hcost.1 hct
      have HMV := Lib.hid hmv
      clear hmv
      go_wp2_with fail
      refine (HMV.out _ (HS.out.alloc _) (by simp; omega)).mono ?_
      rintro e w2 ⟨rfl, hok, hb3⟩
      have hb4 : Below w.heap.size w w2 := (hbel.alloc hsz2 _).trans hb3
      have HOK := Lib.hid hok
      clear hok
      by_cases he : moveErr n x d k = 0
      · have hq : (moveErr n x d k != 0) = false := by simpa using he
        have HE := Lib.hid he
        clear he
        go_wp2
        exact ⟨⟨i + 1, by omega, by go_num, ⟨_, Rp.plays_on HR.out hlt HDK.out HE.out, HOK.out HE.out⟩, hb4⟩, by simp [intOf]; omega⟩
      · have hq : (moveErr n x d k != 0) = true := by simpa using he
        have HA := Lib.hid (Rp.answer_err (Rp.plays_off HR.out hlt HDK.out he))
        clear he
        go_wp2
        go_ret2
        exact ⟨by rw [HA.out]; rfl, hb4⟩
    · obtain rfl : i = L.length := by omega
      have hr : plays n (play0 n s) L = .ok x := by have := HR.out; rwa [List.take_length] at this
      have HR2 := Lib.hid hr
      obtain ⟨c0, c1, c2, c3, c4, z1, z2, z3⟩ := HS.out.cells
      clear hr HR
      by_cases hl : 0 < x.left
      · have HA := Lib.hid (Rp.answer_left HR2.out hl)
        go_wp2
        go_ret2
        exact ⟨by rw [HA.out]; rfl, hbel⟩
      · have HA := Lib.hid (Rp.answer_done HR2.out hl)
        go_wp2
        go_ret2
        exact ⟨by rw [HA.out]; rfl, hbel⟩

theorem Play_out (n s : Int) (v : Value) (w : World) (h : n < 0 ∨ 256 < n ∨ s < 0 ∨ 16 < s) :
    Calls Try.prog 14 #[.int .i64 n, .int .i64 s, v] w fun e w' => e = .returned (.tuple #[.int .i64 0, .int .i64 4]) ∧ w = w' := by
  by_cases h1 : n < 0
  · go_enter Try.func14, Try.ntmps14
    go_wp2_with fail
    go_ret2
    exact ⟨rfl, rfl⟩
  by_cases h2 : 256 < n
  · go_enter Try.func14, Try.ntmps14
    go_wp2_with fail
    go_ret2
    exact ⟨rfl, rfl⟩
  by_cases h3 : s < 0
  · go_enter Try.func14, Try.ntmps14
    go_wp2_with fail
    go_ret2
    exact ⟨rfl, rfl⟩
  have h4 : 16 < s := by omega
  go_enter Try.func14, Try.ntmps14
  go_wp2_with fail
  go_ret2
  exact ⟨rfl, rfl⟩

end Go.Proofs.Ytebekdnihncenaa
