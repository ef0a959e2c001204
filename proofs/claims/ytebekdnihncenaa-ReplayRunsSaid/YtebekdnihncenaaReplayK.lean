/-
  The walks of Run at numbers and of plain.Replay: what was seen of a run. Conditions: the first state is at most 2^40 either way.
-/
import Derived.Test.YtebekdnihncenaaReplayJ
namespace Go.Proofs.Ytebekdnihncenaa
set_option linter.unusedVariables false
open Go.RowKit Adj Adj8

theorem Try.callRun (args : Array Value) (w : World) : (callFunc 28 args).run Try.prog w = .ok (.enter 28 args) w := by
  have h1 : Try.f28.name ≠ "runtime.NumGoroutine" := by
    have h : (Try.f28.name == "runtime.NumGoroutine") = false := by kernel_rfl
    simpa using h
  obtain ⟨c, hc⟩ : ∃ c, Try.f28.body = some c := ⟨_, rfl⟩
  simp [callFunc, Try.func28, h1, hc]

namespace Rp
/-- How the run stands, with its count. -/
def RunI (B : Nat) (n : Int) (s : Nat) (st : Int) (W0 : World) (c : Nat) (x : St) (W : World) : Prop :=
  RunM B n s st x W ∧ x.fine n s ∧ 0 ≤ x.cost ∧ x.cost ≤ (c : Int) ∧ Below B W0 W
/-- What lies in memory when Run is called. -/
def Before (B : Nat) (n st : Int) (w : World) : Prop :=
  w.heap.size = B + 4 ∧ Blk w B 3 #[.int .i64 n] ∧ Blk w (B + 1) 3 #[.int .i64 st] ∧ Blk w (B + 2) 30 #[.int .i64 0, .slice none 0 0, .bool false] ∧ Blk w (B + 3) 30 #[.int .i64 0, .slice none 0 0, .bool false]
theorem moved_cost (x : St) (d k : Int) (h : 0 ≤ x.cost) : 0 ≤ (moveDo x d k).cost ∧ (moveDo x d k).cost ≤ x.cost + 1 := by
  unfold moveDo; (repeat' split) <;> simp only <;> omega
end Rp

set_option maxHeartbeats 2000000 in
theorem Run_ok (B : Nat) (n : Int) (s : Nat) (st : Int) (w : World) (hb : Rp.Before B n st w) (hw : Rp.wrong n s = 0) (hs : -1099511627776 ≤ st) (hs2 : st ≤ 1099511627776) :
    Calls Try.prog 20 #[.int .i64 n, .int .i64 (s : Int), .int .i64 st, Rp.fa B, Rp.fb B] w fun e w' =>
      e = .returned (.int .i64 0) ∧ ∃ y, Rp.RunM B n s st y w' ∧ y.left = 0 ∧ y.cost = ((T n.toNat s : Nat) : Int) ∧ Below B w w' := by
  obtain ⟨hsz, b0, b1, b2, b3⟩ := hb
  obtain ⟨c1, c2, c3, c4, c5⟩ := Rp.wrong_ok hw
  have hmk := fun W => run_make_int s (by omega) W
  have hmf : ∀ (fn : Fn) (first cap : Array Value) (w : World), (Instr.makeFunc fn first cap).run Try.prog w = .ok (.func fn first cap) w := fun _ _ _ _ => rfl
  have HW := Lib.hid hw
  have HSZ := Lib.hid hsz
  clear hw hsz
  obtain ⟨n, rfl⟩ := Int.eq_ofNat_of_zero_le c1
  go_enter Try.func20, Try.ntmps20
  go_wp2_with (go_at_call 17; refine (wrong_any _ _ _).mono ?_; rintro e w' ⟨rfl, rfl⟩; rw [HW.out])
  simp only [HSZ.out, Nat.add_assoc, Nat.reduceAdd]
  have hsz := HSZ.out
  have hst : Rp.RunI B n s st w 0 (play0 n s) (((((w.alloc (.cells #[Rp.fa B] 41)).alloc (.cells #[Rp.fb B] 42)).alloc (.cells #[.int .i64 st] 3)).alloc (.cells (ints (List.replicate s 0)).toArray 3)).alloc (.cells #[.slice (some ⟨B + 7, 0, none⟩) s s] 28)) := by
    have e4 : (w.alloc (.cells #[Rp.fa B] 41)).heap.size = B + 5 := by simp; omega
    have e5 : ((w.alloc (.cells #[Rp.fa B] 41)).alloc (.cells #[Rp.fb B] 42)).heap.size = B + 6 := by simp; omega
    have e6 : (((w.alloc (.cells #[Rp.fa B] 41)).alloc (.cells #[Rp.fb B] 42)).alloc (.cells #[.int .i64 st] 3)).heap.size = B + 7 := by simp; omega
    have e7 : ((((w.alloc (.cells #[Rp.fa B] 41)).alloc (.cells #[Rp.fb B] 42)).alloc (.cells #[.int .i64 st] 3)).alloc (.cells (ints (List.replicate s 0)).toArray 3)).heap.size = B + 8 := by simp; omega
    have d4 : Blk (w.alloc (.cells #[Rp.fa B] 41)) (B + 4) 41 #[Rp.fa B] := by rw [← hsz]; exact Blk.new _ _ _
    have d5 : Blk ((w.alloc (.cells #[Rp.fa B] 41)).alloc (.cells #[Rp.fb B] 42)) (B + 5) 42 #[Rp.fb B] := by rw [← e4]; exact Blk.new _ _ _
    have d6 : Blk (((w.alloc (.cells #[Rp.fa B] 41)).alloc (.cells #[Rp.fb B] 42)).alloc (.cells #[.int .i64 st] 3)) (B + 6) 3 #[.int .i64 st] := by rw [← e5]; exact Blk.new _ _ _
    have d7 : Blk ((((w.alloc (.cells #[Rp.fa B] 41)).alloc (.cells #[Rp.fb B] 42)).alloc (.cells #[.int .i64 st] 3)).alloc (.cells (ints (List.replicate s 0)).toArray 3)) (B + 7) 3 (ints (List.replicate s 0)).toArray := by rw [← e6]; exact Blk.new _ _ _
    refine ⟨⟨List.replicate s 0, .slice none 0 0, ((((b0.alloc _).alloc _).alloc _).alloc _).alloc _, ((((b1.alloc _).alloc _).alloc _).alloc _).alloc _, ((((b2.alloc _).alloc _).alloc _).alloc _).alloc _, ((((b3.alloc _).alloc _).alloc _).alloc _).alloc _, ?_,
      (((d4.alloc _).alloc _).alloc _).alloc _, ((d5.alloc _).alloc _).alloc _, ?_, d7.alloc _, ?_, by simp, fun i hi h0 => ?_⟩, play0_fine n s (by omega), Int.le_refl _, Int.le_refl _, ?_⟩
    · show World.ownsRow _ _ _ _ _ ((n : Int) - (n : Int)).toNat (ints (Rp.told n n))
      unfold Rp.told
      rw [Int.sub_self]
      exact World.ownsRow_nil _ _ _ _
    · show Blk _ _ _ #[.int .i64 (st + 0)]
      rw [Int.add_zero]
      exact (d6.alloc _).alloc _
    · rw [← e7]; exact Blk.new _ _ _
    · exfalso
      have h : (0 : Int) ≤ (List.replicate s (-1)).getD i 0 := h0
      rw [List.getD_eq_getElem?_getD, List.getElem?_replicate, if_pos hi] at h
      simp at h
    · exact (((((Below.refl B w).alloc (by omega) _).alloc (by simp; omega) _).alloc (by simp; omega) _).alloc (by simp; omega) _).alloc (by simp; omega) _
  have hT := Rp.T_256 n s (by omega)
  refine (plan_any n s (by omega) (by omega) (by omega) 28 _ (Rp.RunI B n s st w) ⟨Try.callRun, fun c x d k W hI hc he => ?_⟩ (fun c x W hI => hI.2.1) n 0 s 0 _ _ hst (by omega) (by omega) (by omega) (by omega) (by show (n : Int) = 0 + (n : Int); omega)).mono ?_
  · obtain ⟨i1, i2, i3, i4, i5⟩ := hI
    refine (run_put B n s st x d k W i1 i2 (by omega) (by omega) hs hs2 i3 (by omega) he).mono ?_
    rintro e W' ⟨he', hM, hbel⟩
    have := Rp.moved_cost x d k i3
    exact ⟨he', hM, do_fine i2 he, this.1, by omega, i5.trans hbel⟩
  rintro e w1 ⟨rfl, y, c, ⟨hM, hf, hc0, hc1, hbel⟩, hcc, _, hy⟩
  obtain ⟨y1, y2, y3, y4⟩ := hy
  have HM := Lib.hid hM
  have Y1 := Lib.hid y1
  have Y2 := Lib.hid y2
  clear hM hf hc0 hc1 y1 y2 y3 y4 hst hsz
  go_wp2
  go_ret
  refine ⟨rfl, y, HM.out, Y1.out, ?_, hbel⟩
  rw [Y2.out, Int.toNat_natCast]
  show (0 : Int) + _ = _
  rw [Int.zero_add]

theorem Run_err (B : Nat) (n s st : Int) (w : World) (hb : Rp.Before B n st w) (hw : Rp.wrong n s ≠ 0) :
    Calls Try.prog 20 #[.int .i64 n, .int .i64 s, .int .i64 st, Rp.fa B, Rp.fb B] w fun e w' =>
      e = .returned (.int .i64 (Rp.wrong n s)) ∧ Blk w' (B + 2) 30 #[.int .i64 0, .slice none 0 0, .bool false] ∧ Blk w' (B + 3) 30 #[.int .i64 0, .slice none 0 0, .bool false] ∧ Below B w w' := by
  obtain ⟨hsz, b0, b1, b2, b3⟩ := hb
  have h1 : (Rp.wrong n s != 0) = true := by simpa using hw
  go_enter Try.func20, Try.ntmps20
  go_wp2_with (go_at_call 17; refine (wrong_any _ _ _).mono ?_; rintro e w' ⟨rfl, rfl⟩)
  go_ret
  exact ⟨rfl, (b2.alloc _).alloc _, (b3.alloc _).alloc _, ((Below.refl _ _).alloc (by omega) _).alloc (by simp; omega) _⟩

end Go.Proofs.Ytebekdnihncenaa
