/-
  The walk of the program's (*table).move: it does what the plain move does. Conditions: the table and its slots lie in two blocks of the call's own; n is at most 256.
-/
import Derived.Test.YtebekdnihncenaaReplayA
import Derived.Test.YtebekdnihncenaaMem
import Derived.Test.YtebekdnihncenaaPlayPlain
import Derived.BigQuiet
import Derived.StillTailTactics
namespace Go.Proofs.Ytebekdnihncenaa
set_option linter.unusedVariables false
open Go.RowKit Adj Adj8

namespace Rp
/-- The table's cells. -/
def tab (n : Int) (x : St) (s g : Nat) : Array Value := #[.int .i64 n, .int .i64 x.at_, .int .i64 x.left, .int .i64 x.cost, .slice (some ⟨g, 0, none⟩) s s]
/-- The play stands in memory. -/
def Stands (n : Int) (x : St) (s b g : Nat) (w : World) : Prop := Blk w b 45 (tab n x s g) ∧ Blk w g 3 (ints x.kept).toArray ∧ b ≠ g
theorem Stands.alloc {n : Int} {x : St} {s b g : Nat} {w : World} (h : Stands n x s b g w) (o : Obj) : Stands n x s b g (w.alloc o) := ⟨h.1.alloc o, h.2.1.alloc o, h.2.2⟩
theorem Stands.cells {n : Int} {x : St} {s b g : Nat} {w : World} (h : Stands n x s b g w) :
    w.cell? ⟨b, 0, none⟩ = some (.int .i64 n) ∧ w.cell? ⟨b, 1, none⟩ = some (.int .i64 x.at_) ∧ w.cell? ⟨b, 2, none⟩ = some (.int .i64 x.left) ∧ w.cell? ⟨b, 3, none⟩ = some (.int .i64 x.cost) ∧
    w.cell? ⟨b, 4, none⟩ = some (.slice (some ⟨g, 0, none⟩) s s) ∧ w.frozen? ⟨b, 1, none⟩ = false ∧ w.frozen? ⟨b, 2, none⟩ = false ∧ w.frozen? ⟨b, 3, none⟩ = false :=
  ⟨h.1.at rfl, h.1.at rfl, h.1.at rfl, h.1.at rfl, h.1.at rfl, h.1.frozen _, h.1.frozen _, h.1.frozen _⟩
theorem Stands.drewN {n : Int} {x : St} {s b g : Nat} {w : World} (h : Stands n x s b g w) (m : Nat) : Stands n x s b g (w.drewN m) := ⟨h.1.drewN m, h.2.1.drewN m, h.2.2⟩
theorem Stands.drew {n : Int} {x : St} {s b g : Nat} {w : World} (h : Stands n x s b g w) : Stands n x s b g w.drew := ⟨h.1.drew, h.2.1.drew, h.2.2⟩
theorem Stands.ahead {n : Int} {x : St} {s b g : Nat} {w : World} (h : Stands n x s b g w) (k : Int) :
    Stands n (moveDo x 1 k) s b g ((w.setCell ⟨b, 1, none⟩ (.int .i64 (x.at_ + 1))).setCell ⟨b, 3, none⟩ (.int .i64 (x.cost + 1))) :=
  ⟨(h.1.set_ 1 _).set_ 3 _, (h.2.1.far (p := ⟨b, 1, none⟩) (Ne.symm h.2.2) _).far (p := ⟨b, 3, none⟩) (Ne.symm h.2.2) _, h.2.2⟩
theorem Stands.back {n : Int} {x : St} {s b g : Nat} {w : World} (h : Stands n x s b g w) (k : Int) :
    Stands n (moveDo x 4 k) s b g (w.setCell ⟨b, 2, none⟩ (.int .i64 (x.left - 1))) :=
  ⟨h.1.set_ 2 _, h.2.1.far (p := ⟨b, 2, none⟩) (Ne.symm h.2.2) _, h.2.2⟩
theorem Stands.load {n : Int} {x : St} {s b g : Nat} {w : World} (h : Stands n x s b g w) (k : Int) :
    Stands n (moveDo x 3 k) s b g (w.setCell ⟨b, 1, none⟩ (.int .i64 (x.kept.getD k.toNat 0))) :=
  ⟨h.1.set_ 1 _, h.2.1.far (p := ⟨b, 1, none⟩) (Ne.symm h.2.2) _, h.2.2⟩
theorem Stands.keep {n : Int} {x : St} {s b g : Nat} {w : World} (h : Stands n x s b g w) (k : Int) :
    Stands n (moveDo x 2 k) s b g (w.setCell ⟨g, k.toNat, none⟩ (.int .i64 x.at_)) :=
  ⟨h.1.far (p := ⟨g, k.toNat, none⟩) h.2.2 _, by have := h.2.1.set_ k.toNat (.int .i64 x.at_); rw [ints_set] at this; exact this, h.2.2⟩
/-- What the move's contract says. -/
def Moved (n : Int) (x : St) (s b g B : Nat) (d k : Int) (w : World) (e : Ending) (w' : World) : Prop :=
  e = .returned (.int .i64 (moveErr n x d k)) ∧ (moveErr n x d k = 0 → Stands n (moveDo x d k) s b g w') ∧ Below B w w'
theorem moved_err {n : Int} {x : St} {s b g B : Nat} {d k c : Int} {w w' : World} (he : moveErr n x d k = c) (hc : c ≠ 0) (hb : Below B w w') : Moved n x s b g B d k w (.returned (.int .i64 c)) w' :=
  ⟨by rw [he], fun h => absurd (he.symm.trans h) hc, hb⟩
theorem moved_ok {n : Int} {x : St} {s b g B : Nat} {d k : Int} {w w' : World} (he : moveErr n x d k = 0) (hs : Stands n (moveDo x d k) s b g w') (hb : Below B w w') : Moved n x s b g B d k w (.returned (.int .i64 0)) w' :=
  ⟨by rw [he], fun _ => hs, hb⟩
end Rp

set_option maxHeartbeats 1000000 in
theorem move_ahead (n : Int) (s : Nat) (x : St) (k : Int) (b g B : Nat) (w : World) (hst : Rp.Stands n x s b g w) (hf : x.fine n s) (hn : n ≤ 256) (hB : B ≤ b) (hBg : B ≤ g) (hBw : B ≤ w.heap.size) (hc0 : 0 ≤ x.cost) (hc1 : x.cost ≤ 4611686018427387904) :
    Calls Try.prog 24 #[.pointer (some ⟨b, 0, none⟩), .agg #[.int .i64 1, .int .i64 k]] w (Rp.Moved n x s b g B 1 k w) := by
  obtain ⟨f1, f2, f3, f4, f5, f6⟩ := hf
  have hst1 := hst.alloc (.cells #[.int .i64 1, .int .i64 k] 47)
  obtain ⟨c0, c1, c2, c3, c4, z1, z2, z3⟩ := hst1.cells
  clear f6
  have HS := Lib.hid hst1
  clear hst1 hst
  by_cases hat : x.at_ = n
  · have hq : (x.at_ == n) = true := by simpa using hat
    have HAT := Lib.hid hat
    clear hat
    go_enter Try.func24, Try.ntmps24
    go_wp2
    go_quiet (fail)
    go_wp2
    go_ret
    exact Rp.moved_err (Adj8.err_ahead' HAT.out) (by omega) (below_drewN ((Below.refl _ _).alloc hBw _) _)
  · have hq : (x.at_ == n) = false := by simpa using hat
    go_enter Try.func24, Try.ntmps24
    go_wp2
    go_quiet (fail)
    go_wp2
    go_ret
    exact Rp.moved_ok (Adj8.err_ahead hat) ((HS.out.drewN _).ahead k) (((below_drewN ((Below.refl _ _).alloc hBw _) _).setCell (p := ⟨b, 1, none⟩) hB _).setCell (p := ⟨b, 3, none⟩) hB _)

set_option maxHeartbeats 1000000 in
theorem move_back (n : Int) (s : Nat) (x : St) (k : Int) (b g B : Nat) (w : World) (hst : Rp.Stands n x s b g w) (hf : x.fine n s) (hn : n ≤ 256) (hB : B ≤ b) (hBg : B ≤ g) (hBw : B ≤ w.heap.size) (hc0 : 0 ≤ x.cost) (hc1 : x.cost ≤ 4611686018427387904) :
    Calls Try.prog 24 #[.pointer (some ⟨b, 0, none⟩), .agg #[.int .i64 4, .int .i64 k]] w (Rp.Moved n x s b g B 4 k w) := by
  obtain ⟨f1, f2, f3, f4, f5, f6⟩ := hf
  have hst1 := hst.alloc (.cells #[.int .i64 4, .int .i64 k] 47)
  obtain ⟨c0, c1, c2, c3, c4, z1, z2, z3⟩ := hst1.cells
  clear f6
  have HS := Lib.hid hst1
  clear hst1 hst
  have hs1 : IntKind.i64.wrap (x.left - 1) = x.left - 1 := IntWalk.i64_in _ (by omega)
  by_cases hat : x.at_ = x.left - 1
  · have hq : (x.at_ != x.left - 1) = false := by simpa using hat
    have HAT := Lib.hid hat
    clear hat
    go_enter Try.func24, Try.ntmps24
    go_wp2
    go_quiet (fail)
    go_wp2
    go_ret
    exact Rp.moved_ok (Adj8.err_back HAT.out) ((HS.out.drewN _).back k) ((below_drewN ((Below.refl _ _).alloc hBw _) _).setCell (p := ⟨b, 2, none⟩) hB _)
  · have hq : (x.at_ != x.left - 1) = true := by simpa using hat
    go_enter Try.func24, Try.ntmps24
    go_wp2
    go_quiet (fail)
    go_wp2
    go_ret
    exact Rp.moved_err (Adj8.err_back' hat) (by omega) (below_drewN ((Below.refl _ _).alloc hBw _) _)

set_option maxHeartbeats 1000000 in
theorem move_other (n : Int) (s : Nat) (x : St) (d k : Int) (b g B : Nat) (w : World) (hBw : B ≤ w.heap.size) (h1 : d ≠ 1) (h2 : d ≠ 2) (h3 : d ≠ 3) (h4 : d ≠ 4) :
    Calls Try.prog 24 #[.pointer (some ⟨b, 0, none⟩), .agg #[.int .i64 d, .int .i64 k]] w (Rp.Moved n x s b g B d k w) := by
  have HE := Lib.hid (Adj8.err_other (n := n) (x := x) (k := k) h1 h2 h3 h4)
  have q1 : (d == 1) = false := by simpa using h1
  have q2 : (d == 2) = false := by simpa using h2
  have q3 : (d == 3) = false := by simpa using h3
  have q4 : (d == 4) = false := by simpa using h4
  clear h1 h2 h3 h4
  go_enter Try.func24, Try.ntmps24
  go_wp2
  go_ret
  exact Rp.moved_err HE.out (by omega) ((Below.refl _ _).alloc hBw _)

set_option maxHeartbeats 1000000 in
theorem move_keep (n : Int) (s : Nat) (x : St) (k : Int) (b g B : Nat) (w : World) (hst : Rp.Stands n x s b g w) (hf : x.fine n s) (hn : n ≤ 256) (hB : B ≤ b) (hBg : B ≤ g) (hBw : B ≤ w.heap.size) (hs : s ≤ 16) :
    Calls Try.prog 24 #[.pointer (some ⟨b, 0, none⟩), .agg #[.int .i64 2, .int .i64 k]] w (Rp.Moved n x s b g B 2 k w) := by
  obtain ⟨f1, f2, f3, f4, f5, f6⟩ := hf
  have hst1 := hst.alloc (.cells #[.int .i64 2, .int .i64 k] 47)
  obtain ⟨c0, c1, c2, c3, c4, z1, z2, z3⟩ := hst1.cells
  clear f6
  have HS := Lib.hid hst1
  have F5 := Lib.hid f5
  clear f5 hst
  by_cases hk0 : k < 0
  · have hd : decide (k < 0) = true := by simpa using hk0
    clear hst1
    go_enter Try.func24, Try.ntmps24
    go_wp2
    go_quiet (fail)
    go_wp2
    go_ret
    exact Rp.moved_err (Adj8.err_keep' (.inl hk0)) (by omega) (below_drewN ((Below.refl _ _).alloc hBw _) _)
  · have hd : decide (k < 0) = false := by simpa using hk0
    obtain ⟨j, rfl⟩ := Int.eq_ofNat_of_zero_le (show 0 ≤ k by omega)
    by_cases hks : j < s
    · have hg1 := hst1.2.1.frozen j
      have hlt : (j : Int) < (s : Int) := by omega
      have hj0 : (0 : Int) ≤ (j : Int) := by omega
      have hc := hst1.2.1.at (i := j) (by simpa using ints_at x.kept j (by rw [F5.out]; exact hks))
      clear hst1
      go_enter Try.func24, Try.ntmps24
      go_wp2
      go_quiet (fail)
      go_wp2
      have HS2 := HS.out.drewN nq
      have hbel := below_drewN ((Below.refl B w).alloc hBw (.cells #[.int .i64 2, .int .i64 (j : Int)] 47)) nq
      have b0 : ((w.alloc (.cells #[.int .i64 2, .int .i64 (j : Int)] 47)).drewN nq).cell? ⟨w.heap.size, 1, none⟩ = some (.int .i64 (j : Int)) := Blk.cell (Blk.drewN (Blk.new _ _ _) _) 1
      generalize (w.alloc (.cells #[.int .i64 2, .int .i64 (j : Int)] 47)).drewN nq = wq at HS2 hbel b0 ⊢
      clear hg1 hc c0 c1 c2 c3 c4 z1 z2 z3
      obtain ⟨c0, c1, c2, c3, c4, z1, z2, z3⟩ := HS2.cells
      have hg1 := HS2.2.1.frozen j
      have hc := HS2.2.1.at (i := j) (by simpa using ints_at x.kept j (by rw [F5.out]; exact hks))
      have HS3 := Lib.hid HS2
      clear HS2
      go_still_tail 11, (by kernel_rfl)
      change wpList _ _ _ _ _ wq.drew
      go_wp2
      go_ret
      exact Rp.moved_ok (Adj8.err_keep (by rw [F5.out]; omega)) ((HS3.out.drew).keep _) (hbel.drew.setCell (p := ⟨g, j, none⟩) hBg _)
    · clear hst1
      have hge : (s : Int) ≤ (j : Int) := by omega
      go_enter Try.func24, Try.ntmps24
      go_wp2
      go_quiet (fail)
      go_wp2
      go_ret
      exact Rp.moved_err (Adj8.err_keep' (.inr (by rw [F5.out]; omega))) (by omega) (below_drewN ((Below.refl _ _).alloc hBw _) _)

set_option maxHeartbeats 1000000 in
theorem move_load (n : Int) (s : Nat) (x : St) (k : Int) (b g B : Nat) (w : World) (hst : Rp.Stands n x s b g w) (hf : x.fine n s) (hn : n ≤ 256) (hB : B ≤ b) (hBg : B ≤ g) (hBw : B ≤ w.heap.size) (hs : s ≤ 16) :
    Calls Try.prog 24 #[.pointer (some ⟨b, 0, none⟩), .agg #[.int .i64 3, .int .i64 k]] w (Rp.Moved n x s b g B 3 k w) := by
  obtain ⟨f1, f2, f3, f4, f5, f6⟩ := hf
  have hst1 := hst.alloc (.cells #[.int .i64 3, .int .i64 k] 47)
  obtain ⟨c0, c1, c2, c3, c4, z1, z2, z3⟩ := hst1.cells
  clear f6
  have HS := Lib.hid hst1
  have F5 := Lib.hid f5
  clear f5 hst
  by_cases hk0 : k < 0
  · have hd : decide (k < 0) = true := by simpa using hk0
    clear hst1
    go_enter Try.func24, Try.ntmps24
    go_wp2
    go_quiet (fail)
    go_wp2
    go_ret
    exact Rp.moved_err (Adj8.err_load' (.inl hk0)) (by omega) (below_drewN ((Below.refl _ _).alloc hBw _) _)
  · have hd : decide (k < 0) = false := by simpa using hk0
    obtain ⟨j, rfl⟩ := Int.eq_ofNat_of_zero_le (show 0 ≤ k by omega)
    by_cases hks : j < s
    · have hlt : (j : Int) < (s : Int) := by omega
      have hj0 : (0 : Int) ≤ (j : Int) := by omega
      have hjl : j < x.kept.length := by rw [F5.out]; exact hks
      have hc := hst1.2.1.at (i := j) (by simpa using ints_at x.kept j hjl)
      have HV := Lib.hid (show x.kept.getD (j : Int).toNat 0 = x.kept[j] by simp [hjl])
      clear hst1
      by_cases hneg : x.kept[j] < 0
      · have hnd : decide (x.kept[j] < 0) = true := by simpa using hneg
        go_enter Try.func24, Try.ntmps24
        go_wp2
        go_quiet (fail)
        have HS2 := HS.out.drewN nq
        have hbel := below_drewN ((Below.refl B w).alloc hBw (.cells #[.int .i64 3, .int .i64 (j : Int)] 47)) nq
        have b0 : ((w.alloc (.cells #[.int .i64 3, .int .i64 (j : Int)] 47)).drewN nq).cell? ⟨w.heap.size, 1, none⟩ = some (.int .i64 (j : Int)) := Blk.cell (Blk.drewN (Blk.new _ _ _) _) 1
        have b1 : ((w.alloc (.cells #[.int .i64 3, .int .i64 (j : Int)] 47)).drewN nq).cell? ⟨w.heap.size, 0, none⟩ = some (.int .i64 3) := Blk.cell (Blk.drewN (Blk.new _ _ _) _) 0
        generalize (w.alloc (.cells #[.int .i64 3, .int .i64 (j : Int)] 47)).drewN nq = wq at HS2 hbel b0 b1 ⊢
        clear hc c0 c1 c2 c3 c4 z1 z2 z3
        obtain ⟨c0, c1, c2, c3, c4, z1, z2, z3⟩ := HS2.cells
        have hc := HS2.2.1.at (i := j) (by simpa using ints_at x.kept j hjl)
        have HS3 := Lib.hid HS2
        clear HS2
        go_wp2
        go_quiet (fail)
        go_wp2
        go_ret
        exact Rp.moved_err (Adj8.err_load9 (by rw [F5.out]; omega) (by rw [HV.out]; exact hneg)) (by omega) (below_drewN hbel _)
      · have hnd : decide (x.kept[j] < 0) = false := by simpa using hneg
        go_enter Try.func24, Try.ntmps24
        go_wp2
        go_quiet (fail)
        have HS2 := HS.out.drewN nq
        have hbel := below_drewN ((Below.refl B w).alloc hBw (.cells #[.int .i64 3, .int .i64 (j : Int)] 47)) nq
        have b0 : ((w.alloc (.cells #[.int .i64 3, .int .i64 (j : Int)] 47)).drewN nq).cell? ⟨w.heap.size, 1, none⟩ = some (.int .i64 (j : Int)) := Blk.cell (Blk.drewN (Blk.new _ _ _) _) 1
        have b1 : ((w.alloc (.cells #[.int .i64 3, .int .i64 (j : Int)] 47)).drewN nq).cell? ⟨w.heap.size, 0, none⟩ = some (.int .i64 3) := Blk.cell (Blk.drewN (Blk.new _ _ _) _) 0
        generalize (w.alloc (.cells #[.int .i64 3, .int .i64 (j : Int)] 47)).drewN nq = wq at HS2 hbel b0 b1 ⊢
        clear hc c0 c1 c2 c3 c4 z1 z2 z3
        obtain ⟨c0, c1, c2, c3, c4, z1, z2, z3⟩ := HS2.cells
        have hc := HS2.2.1.at (i := j) (by simpa using ints_at x.kept j hjl)
        have HS3 := Lib.hid HS2
        clear HS2
        go_wp2
        go_quiet (fail)
        go_wp2
        have HS2 := HS3.out.drewN nq
        have hbel2 := below_drewN hbel nq
        have b2 : (wq.drewN nq).cell? ⟨w.heap.size, 1, none⟩ = some (.int .i64 (j : Int)) := b0
        generalize wq.drewN nq = wr at HS2 hbel2 b2 ⊢
        clear hc c0 c1 c2 c3 c4 z1 z2 z3 HS3 b0 b1
        obtain ⟨c0, c1, c2, c3, c4, z1, z2, z3⟩ := HS2.cells
        have hc := HS2.2.1.at (i := j) (by simpa using ints_at x.kept j hjl)
        have HS3 := Lib.hid HS2
        clear HS2
        go_still_tail 11, (by kernel_rfl)
        change wpList _ _ _ _ _ wr.drew
        go_wp2
        go_ret
        have hl := (HS3.out.drew).load (j : Int)
        rw [HV.out] at hl
        exact Rp.moved_ok (Adj8.err_load (by rw [F5.out]; omega) (by rw [HV.out]; omega)) hl (hbel2.drew.setCell (p := ⟨b, 1, none⟩) hB _)
    · clear hst1
      have hge : (s : Int) ≤ (j : Int) := by omega
      go_enter Try.func24, Try.ntmps24
      go_wp2
      go_quiet (fail)
      go_wp2
      go_ret
      exact Rp.moved_err (Adj8.err_load' (.inr (by rw [F5.out]; omega))) (by omega) (below_drewN ((Below.refl _ _).alloc hBw _) _)

/-- THE MOVE, WHATEVER IT IS. -/
theorem move_any (n : Int) (s : Nat) (x : St) (d k : Int) (b g B : Nat) (w : World) (hst : Rp.Stands n x s b g w) (hf : x.fine n s) (hn : n ≤ 256) (hB : B ≤ b) (hBg : B ≤ g) (hBw : B ≤ w.heap.size) (hs : s ≤ 16) (hc0 : 0 ≤ x.cost) (hc1 : x.cost ≤ 4611686018427387904) :
    Calls Try.prog 24 #[.pointer (some ⟨b, 0, none⟩), .agg #[.int .i64 d, .int .i64 k]] w (Rp.Moved n x s b g B d k w) := by
  by_cases h1 : d = 1
  · subst h1; exact move_ahead n s x k b g B w hst hf hn hB hBg hBw hc0 hc1
  by_cases h2 : d = 2
  · subst h2; exact move_keep n s x k b g B w hst hf hn hB hBg hBw hs
  by_cases h3 : d = 3
  · subst h3; exact move_load n s x k b g B w hst hf hn hB hBg hBw hs
  by_cases h4 : d = 4
  · subst h4; exact move_back n s x k b g B w hst hf hn hB hBg hBw hc0 hc1
  exact move_other n s x d k b g B w hBw h1 h2 h3 h4

end Go.Proofs.Ytebekdnihncenaa
