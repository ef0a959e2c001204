/-
  The walk of the reference's Climb. Conditions: both lists can be read.
-/
import Derived.Test.YtkopkicdmbnpgaaRoomO
namespace Go.Proofs.Ytkopkicdmbnpgaa
set_option linter.unusedVariables false
open Go.RowKit Adj

set_option maxRecDepth 100000 in
set_option maxHeartbeats 4000000 in
theorem refClimb_any (w : World) (ab ws : List Int) (A A' : Option Addr) (n m c c' : Nat) (hn : ab.length = n) (hm : ws.length = m) (h1 : IntsAt w w.heap.size A ab) (h2 : IntsAt w w.heap.size A' ws) :
    Calls Try.prog 12 #[.slice A n c, .slice A' m c'] w fun e w' => ∃ v, e = .returned (.tuple #[v, .int .i64 (AdjR.climb ab ws).2.1, .int .i64 (AdjR.climb ab ws).2.2]) ∧ Below w.heap.size w w' ∧ ∃ AO cO, v = .slice AO (AdjR.climb ab ws).1.length cO ∧ IntsAt w' w'.heap.size AO (AdjR.climb ab ws).1 := by
  have HTR := Lib.hid (refTree_any w w.heap.size ab ws A A' n m c c' hn hm h1 h2)
  have HB0 := Lib.hid (Below.refl w.heap.size w)
  by_cases hbad : AdjR.treeBad ab ws = 0
  · obtain ⟨g1, g2, g3⟩ := AdjR.treeOk hbad
    obtain rfl : m = n := by omega
    have hbig : m ≤ 4096 := by omega
    have HBE := Lib.hid (fun i (hi : i < m) => Best_any w ab ws A A' m c c' hbad hn h1 h2 i hi w (Below.refl _ _))
    have HCL := Lib.hid (show AdjR.climb ab ws = if m = 0 then ([], 0, 0) else (AdjR.visit (AdjR.lows ab ws) (m - 1) (m - 1), (AdjR.pks ab ws).getD (m - 1) 0, 0) by
      unfold AdjR.climb AdjR.lows AdjR.pks
      rw [if_neg (by rw [hbad]; decide), hn])
    rw [hbad] at HTR
    clear hbad g1 g2 g3 hn hm h1 h2
    by_cases hz : m = 0
    · have HR := Lib.hid (HCL.out.trans (if_pos hz))
      subst hz
      go_enter Try.func12, Try.ntmps12
      go_wp2_with fail
      ((with_reducible refine HTR.out.mono ?_); rintro e w1 ⟨rfl, rfl⟩)
      go_wp2_with fail
      go_ret3
      rw [HR.out]
      first | exact ⟨_, rfl, HB0.out, none, 0, rfl, IntsAt.nil⟩ | exact ⟨_, rfl, HB0.out, none, ⟨0, rfl⟩, IntsAt.nil⟩
    · have HR := Lib.hid (HCL.out.trans (if_neg hz))
      have HB := Lib.hid (HBE.out (m - 1) (by omega))
      rw [show ((m - 1 : Nat) : Int) = (m : Int) - 1 from by omega] at HB
      generalize AdjR.visit (AdjR.lows ab ws) (m - 1) (m - 1) = V at HR HB
      generalize (AdjR.pks ab ws).getD (m - 1) 0 = pk at HR HB
      go_enter Try.func12, Try.ntmps12
      go_wp2_with fail
      ((with_reducible refine HTR.out.mono ?_); rintro e w1 ⟨rfl, rfl⟩)
      go_wp2_with fail
      ((with_reducible refine HB.out.mono ?_); rintro e w2 ⟨v, rfl, hb2, hov⟩)
      have HB2 := Lib.hid hb2
      have HOV := Lib.hid hov
      obtain ⟨AO, cO, rfl⟩ := Rm.own_form hov
      clear hb2 hov
      go_wp2_with fail
      go_ret3
      rw [HR.out]
      first | exact ⟨_, rfl, HB2.out, AO, cO, rfl, RowAt.of_own HOV.out⟩ | exact ⟨_, rfl, HB2.out, AO, ⟨cO, rfl⟩, RowAt.of_own HOV.out⟩
  · have HR := Lib.hid (show AdjR.climb ab ws = ([], 0, AdjR.treeBad ab ws) by unfold AdjR.climb; rw [if_pos hbad])
    clear hn hm h1 h2
    generalize AdjR.treeBad ab ws = t at hbad HTR HR
    have t0 : (t == 0) = false := by simpa using hbad
    go_enter Try.func12, Try.ntmps12
    go_wp2_with fail
    ((with_reducible refine HTR.out.mono ?_); rintro e w1 ⟨rfl, rfl⟩)
    go_wp2_with fail
    all_goals first | (exfalso; simp at *; omega) | (go_ret3; rw [HR.out]; first | exact ⟨_, rfl, HB0.out, none, 0, rfl, IntsAt.nil⟩ | exact ⟨_, rfl, HB0.out, none, ⟨0, rfl⟩, IntsAt.nil⟩)
end Go.Proofs.Ytkopkicdmbnpgaa
