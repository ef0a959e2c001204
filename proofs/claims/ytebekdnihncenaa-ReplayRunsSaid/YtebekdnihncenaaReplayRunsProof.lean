/-
  PROVED: ReplayRunsSaid: for every n, every number of slots and every first state the law ReplayRuns returns true: a run tells all states, the last one first, and goes ahead as often as Least says. No condition.
-/
import Derived.Test.YtebekdnihncenaaReplayK
import Derived.Test.YtebekdnihncenaaReplayB
import Derived.Test.YtebekdnihncenaaLawRow
namespace Go.Proofs.Ytebekdnihncenaa
set_option linter.unusedVariables false
open Go.RowKit Adj Adj8

namespace Rp
theorem own_any {w : World} {base : Nat} {e : TypeId} {v : Value} {n : Nat} {xs : List Value} (h : w.ownsRow base e 1 v n xs) : ∃ A c, v = .slice A n c := by
  rcases h.2 with ⟨rfl, rfl⟩ | ⟨g, cap, cur, rfl, _⟩
  · exact ⟨_, _, rfl⟩
  · exact ⟨_, _, rfl⟩
theorem own_lower {w : World} {base base' : Nat} {e : TypeId} {size : Nat} {v : Value} {n : Nat} {xs : List Value} (h : w.ownsRow base e size v n xs) (hb : base' ≤ base) : w.ownsRow base' e size v n xs := by
  refine ⟨h.1, ?_⟩
  rcases h.2 with h2 | ⟨g, cap, cur, hv, hg, r⟩
  · exact .inl h2
  · exact .inr ⟨g, cap, cur, hv, Nat.le_trans hb hg, r⟩
/-- What plain.Replay answers. -/
def Replayed (n s : Int) (w : World) (e : Ending) (w' : World) : Prop :=
  (wrong n s ≠ 0 ∧ e = .returned (.tuple #[.agg #[.int .i64 0, .slice none 0 0, .bool false], .int .i64 (wrong n s)]) ∧ Below w.heap.size w w') ∨
  (wrong n s = 0 ∧ ∃ v, e = .returned (.tuple #[.agg #[.int .i64 ((T n.toNat s.toNat : Nat) : Int), v, .bool false], .int .i64 0]) ∧ w'.ownsRow w.heap.size 3 1 v n.toNat (ints (told n 0)) ∧ Below w.heap.size w w')
end Rp

set_option maxHeartbeats 2000000 in
theorem Replay_any (n s st : Int) (w : World) (hs : -1099511627776 ≤ st) (hs2 : st ≤ 1099511627776) :
    Calls Try.prog 13 #[.int .i64 n, .int .i64 s, .int .i64 st] w (Rp.Replayed n s w) := by
  have hmf : ∀ (fn : Fn) (first cap : Array Value) (w : World), (Instr.makeFunc fn first cap).run Try.prog w = .ok (.func fn first cap) w := fun _ _ _ _ => rfl
  have hbef : Rp.Before w.heap.size n st ((((w.alloc (.cells #[.int .i64 n] 3)).alloc (.cells #[.int .i64 st] 3)).alloc (.cells #[.int .i64 0, .slice none 0 0, .bool false] 30)).alloc (.cells #[.int .i64 0, .slice none 0 0, .bool false] 30)) := by
    have e1 : (w.alloc (.cells #[.int .i64 n] 3)).heap.size = w.heap.size + 1 := by simp
    have e2 : ((w.alloc (.cells #[.int .i64 n] 3)).alloc (.cells #[.int .i64 st] 3)).heap.size = w.heap.size + 2 := by simp
    have e3 : (((w.alloc (.cells #[.int .i64 n] 3)).alloc (.cells #[.int .i64 st] 3)).alloc (.cells #[.int .i64 0, .slice none 0 0, .bool false] 30)).heap.size = w.heap.size + 3 := by simp
    have d0 : Blk (w.alloc (.cells #[.int .i64 n] 3)) w.heap.size 3 #[.int .i64 n] := Blk.new _ _ _
    have d1 : Blk ((w.alloc (.cells #[.int .i64 n] 3)).alloc (.cells #[.int .i64 st] 3)) (w.heap.size + 1) 3 #[.int .i64 st] := by rw [← e1]; exact Blk.new _ _ _
    have d2 : Blk (((w.alloc (.cells #[.int .i64 n] 3)).alloc (.cells #[.int .i64 st] 3)).alloc (.cells #[.int .i64 0, .slice none 0 0, .bool false] 30)) (w.heap.size + 2) 30 #[.int .i64 0, .slice none 0 0, .bool false] := by rw [← e2]; exact Blk.new _ _ _
    exact ⟨by simp, ((d0.alloc _).alloc _).alloc _, (d1.alloc _).alloc _, d2.alloc _, by rw [← e3]; exact Blk.new _ _ _⟩
  have hb0 : Below w.heap.size w ((((w.alloc (.cells #[.int .i64 n] 3)).alloc (.cells #[.int .i64 st] 3)).alloc (.cells #[.int .i64 0, .slice none 0 0, .bool false] 30)).alloc (.cells #[.int .i64 0, .slice none 0 0, .bool false] 30)) :=
    ((((Below.refl _ _).alloc (Nat.le_refl _) _).alloc (by simp) _).alloc (by simp; omega) _).alloc (by simp; omega) _
  have HBEF := Lib.hid hbef
  clear hbef
  by_cases hw : Rp.wrong n s = 0
  · obtain ⟨c1, c2, c3, c4, c5⟩ := Rp.wrong_ok hw
    obtain ⟨s, rfl⟩ := Int.eq_ofNat_of_zero_le c3
    have HW := Lib.hid hw
    clear hw
    go_enter Try.func13, Try.ntmps13
    go_wp2_with fail
    refine (Run_ok w.heap.size n s st _ HBEF.out HW.out hs hs2).mono ?_
    rintro e w1 ⟨rfl, y, ⟨K, v, b0, b1, b2, b3, own, b4, b5, b6, b7, b8, hK, hkept⟩, hl, hc, hbel⟩
    have c20 := b2.at (i := 0) rfl
    have c21 := b2.at (i := 1) rfl
    have c22 := b2.at (i := 2) rfl
    have f20 := b2.frozen 0
    have f21 := b2.frozen 1
    have f22 := b2.frozen 2
    have c30 := b3.at (i := 0) rfl
    have c31 := b3.at (i := 1) (v := v) rfl
    have c32 := b3.at (i := 2) rfl
    have OWN := Lib.hid own
    have HL := Lib.hid hl
    have HC := Lib.hid hc
    clear own hl hc b0 b1 b2 b3 b4 b5 b6 b7 b8 hK hkept
    obtain ⟨A, cA, hv⟩ := Rp.own_any OWN.out
    rw [hv] at c31
    have HV := Lib.hid hv
    clear hv
    go_wp2
    refine bodyPost_ret (v := .tuple #[.agg #[.int .i64 y.cost, .slice A ((n - y.left).toNat) cA, .bool false], .int .i64 0]) (by simp [results, Try.results13, go_sem, c20, c21, c22]) rfl ?_
    have e1 : y.cost = ((T n.toNat (s : Int).toNat : Nat) : Int) := by rw [HC.out, Int.toNat_natCast]
    have e2 : (n - y.left).toNat = n.toNat := by rw [HL.out, Int.sub_zero]
    have hown := OWN.out
    rw [HV.out, HL.out, Int.sub_zero] at hown
    rw [e1, e2]
    refine .inr ⟨HW.out, _, rfl, ?_, hb0.trans (((hbel.setCell (p := ⟨w.heap.size + 1 + 1, 0, none⟩) (by show w.heap.size ≤ w.heap.size + 1 + 1; omega) _).setCell (p := ⟨w.heap.size + 1 + 1, 1, none⟩) (by show w.heap.size ≤ w.heap.size + 1 + 1; omega) _).setCell (p := ⟨w.heap.size + 1 + 1, 2, none⟩) (by show w.heap.size ≤ w.heap.size + 1 + 1; omega) _)⟩
    exact Rp.own_lower (ownsRow_setCell_below (ownsRow_setCell_below (ownsRow_setCell_below hown (by show w.heap.size + 1 + 1 < w.heap.size + 9; omega) _) (by show w.heap.size + 1 + 1 < w.heap.size + 9; omega) _) (by show w.heap.size + 1 + 1 < w.heap.size + 9; omega) _) (by omega)
  · have HW := Lib.hid hw
    clear hw
    go_enter Try.func13, Try.ntmps13
    go_wp2_with fail
    refine (Run_err w.heap.size n s st _ HBEF.out HW.out).mono ?_
    rintro e w1 ⟨rfl, b2, b3, hbel⟩
    have c20 := b2.at (i := 0) rfl
    have c21 := b2.at (i := 1) rfl
    have c22 := b2.at (i := 2) rfl
    have f20 := b2.frozen 0
    have f21 := b2.frozen 1
    have f22 := b2.frozen 2
    have c30 := b3.at (i := 0) rfl
    have c31 := b3.at (i := 1) rfl
    have c32 := b3.at (i := 2) rfl
    clear b2 b3
    go_wp2
    refine bodyPost_ret (v := .tuple #[.agg #[.int .i64 0, .slice none 0 0, .bool false], .int .i64 (Rp.wrong n s)]) (by simp [results, Try.results13, go_sem, c20, c21, c22]) rfl ?_
    exact .inl ⟨HW.out, rfl, hb0.trans (((hbel.setCell (p := ⟨w.heap.size + 1 + 1, 0, none⟩) (by show w.heap.size ≤ w.heap.size + 1 + 1; omega) _).setCell (p := ⟨w.heap.size + 1 + 1, 1, none⟩) (by show w.heap.size ≤ w.heap.size + 1 + 1; omega) _).setCell (p := ⟨w.heap.size + 1 + 1, 2, none⟩) (by show w.heap.size ≤ w.heap.size + 1 + 1; omega) _)⟩

end Go.Proofs.Ytebekdnihncenaa

namespace Go.Proofs.Ytebekdnihncenaa.replayRuns
open Go.ChangeShapes Go.WideShapes Go.ChangeAt Go.RowKit

theorem own : ownKnob Try.prog.godebug = none := by kernel_rfl
theorem laid : laidOutB Try.prog = true := by kernel_rfl

set_option maxHeartbeats 2000000 in
theorem walk (n s st : Int) (w : World) :
    Calls Try.prog 5 #[.int .i64 n, .int .i64 s, .int .i64 st] w fun e w' => e = .returned (.bool true) ∧ Below w.heap.size w w' := by
  by_cases h1 : st < -1099511627776
  · go_enter Try.func5, Try.ntmps5
    go_wp2_with fail
    go_ret
    exact ⟨rfl, Below.refl _ _⟩
  by_cases h2 : 1099511627776 < st
  · go_enter Try.func5, Try.ntmps5
    go_wp2_with fail
    go_ret
    exact ⟨rfl, Below.refl _ _⟩
  have h1' : -1099511627776 ≤ st := by omega
  have h2' : st ≤ 1099511627776 := by omega
  have HREP := Lib.hid (fun W => Replay_any n s st W h1' h2')
  go_enter Try.func5, Try.ntmps5
  go_wp2_with fail
  refine (HREP.out _).mono ?_
  rintro e w1 (⟨h0, rfl, hb⟩ | ⟨h0, v, rfl, own, hb⟩)
  · have hR : Rp.leastR n s = .tuple #[.int .i64 0, .int .i64 (Rp.wrong n s)] := by unfold Rp.leastR; rw [if_neg h0]
    have HR := Lib.hid hR
    have hq : (Rp.wrong n s != 0) = true := by simpa using h0
    have hq2 : (Rp.wrong n s != Rp.wrong n s) = false := by simp
    have hsz := hb.size
    clear hR h0
    go_wp2_with fail
    refine (refLeast_any _ _ _).mono ?_
    rintro e w2 ⟨rfl, hb2⟩
    rw [HR.out]
    have d2 : w2.cell? ⟨w1.heap.size, 2, none⟩ = some (.bool false) := (hb2.cell (p := ⟨w1.heap.size, 2, none⟩) (by simp)).trans ((Adj.Blk.new w1 30 #[.int .i64 0, .slice none 0 0, .bool false]).at (i := 2) rfl)
    have d0 : w2.cell? ⟨w1.heap.size, 0, none⟩ = some (.int .i64 0) := (hb2.cell (p := ⟨w1.heap.size, 0, none⟩) (by simp)).trans ((Adj.Blk.new w1 30 #[.int .i64 0, .slice none 0 0, .bool false]).at (i := 0) rfl)
    have d1 : w2.cell? ⟨w1.heap.size, 1, none⟩ = some (.slice none 0 0) := (hb2.cell (p := ⟨w1.heap.size, 1, none⟩) (by simp)).trans ((Adj.Blk.new w1 30 #[.int .i64 0, .slice none 0 0, .bool false]).at (i := 1) rfl)
    go_wp2_with fail
    go_ret
    exact ⟨rfl, (hb.alloc hsz _).trans (hb2.mono (by simp; omega))⟩
  · obtain ⟨b1, b2, b3, b4, b5⟩ := Rp.wrong_ok h0
    have hR : Rp.leastR n s = .tuple #[.int .i64 ((Adj8.T n.toNat s.toNat : Nat) : Int), .int .i64 0] := by unfold Rp.leastR; rw [if_pos h0, h0]
    have HR := Lib.hid hR
    have hsz := hb.size
    obtain ⟨A, cA, hv⟩ := Rp.own_any own
    clear hR h0
    rw [hv]
    rw [hv] at own
    have OWN := Lib.hid own
    clear own hv
    obtain ⟨n, rfl⟩ := Int.eq_ofNat_of_zero_le b1
    go_wp2_with fail
    refine (refLeast_any _ _ _).mono ?_
    rintro e w2 ⟨rfl, hb2⟩
    rw [HR.out]
    have d2 : w2.cell? ⟨w1.heap.size, 2, none⟩ = some (.bool false) := (hb2.cell (p := ⟨w1.heap.size, 2, none⟩) (by simp)).trans ((Adj.Blk.new w1 30 #[.int .i64 _, .slice A n cA, .bool false]).at (i := 2) rfl)
    have d0 : w2.cell? ⟨w1.heap.size, 0, none⟩ = some (.int .i64 ((Adj8.T (n : Int).toNat s.toNat : Nat) : Int)) := (hb2.cell (p := ⟨w1.heap.size, 0, none⟩) (by simp)).trans ((Adj.Blk.new w1 30 #[.int .i64 _, .slice A n cA, .bool false]).at (i := 0) rfl)
    have d1 : w2.cell? ⟨w1.heap.size, 1, none⟩ = some (.slice A n cA) := (hb2.cell (p := ⟨w1.heap.size, 1, none⟩) (by simp)).trans ((Adj.Blk.new w1 30 #[.int .i64 _, .slice A n cA, .bool false]).at (i := 1) rfl)
    have hq1 : (((Adj8.T n s.toNat : Nat) : Int) != ((Adj8.T n s.toNat : Nat) : Int)) = false := by simp
    have hq2 : ((n : Int) != (n : Int)) = false := by simp
    have hread : ∀ i : Nat, i < n → ∃ g, A = some ⟨g, 0, none⟩ ∧ w2.cell? ⟨g, i, none⟩ = some (.int .i64 ((n : Int) - 1 - (i : Int))) := fun i hi => by
      obtain ⟨g, cap, hv, _, hg, _, _, hcells⟩ := Rp.own_shape OWN.out (by simp; omega)
      injection hv with hA _ _
      refine ⟨g, hA, ?_⟩
      have := hcells i (.int .i64 ((n : Int) - 1 - (i : Int))) (by
        unfold Adj.ints Rp.told
        simp [hi])
      exact (hb2.cell (p := ⟨g, i, none⟩) (by simp; omega)).trans ((World.cell?_alloc_past _ _ _ (by simpa using hg)).trans this)
    have HRD := Lib.hid hread
    have hbel : Below w.heap.size w w2 := (hb.alloc hsz _).trans (hb2.mono (by simp; omega))
    clear hread hb hb2
    go_wp2_with fail
    go_loopw [64] (fun v wr => ∃ i : Nat, i ≤ n ∧ v = .int .i64 (i : Int) ∧ wr = w2) (fun v _ => n + 1 - (intOf v).toNat)
    case atStart => exact ⟨0, by omega, rfl, rfl⟩
    case round =>
      obtain ⟨i, hi, rfl, rfl⟩ := hrel
      by_cases hlt : i < n
      · obtain ⟨g, rfl, hc⟩ := HRD.out i hlt
        have hq3 : ((n : Int) - 1 - (i : Int) != (n : Int) - 1 - (i : Int)) = false := by simp
        go_wp2_with fail
        exact ⟨⟨i + 1, by omega, by go_num, by first | rfl | trivial⟩, by simp [intOf]; omega⟩
      · obtain rfl : i = n := by omega
        go_wp2_with fail
        go_ret
        exact ⟨rfl, hbel⟩

theorem lifted (os : Os) (started : os.Started) (H : Type) (enc : TypeId × Value → H) :
    ReturnsInHanded {} Try.checked os 5 .any (Rows.replayRunsSpec.pre6 enc Try.prog Try.f5 Rows.replayRunsRow.domain false) (Rows.replayRunsSpec.post enc Try.prog Try.f5 false true false false) := by
  refine Adj.law_lifted (C := Try.checked) (s := Rows.replayRunsSpec) own started (by kernel_rfl) Try.func5 laid rfl rfl Try.underlying4
      (by rw [Try.params5]; intro t ht; simp only [List.mem_cons, List.not_mem_nil, or_false] at ht; rcases ht with rfl | rfl | rfl <;> exact ⟨by kernel_rfl, of_decide_eq_true (by kernel_rfl)⟩)
      (by intro ds hd; match ds, hd with | [d1, d2, d3], _ => exact ⟨rfl, rfl, rfl⟩)
      (ChangeSpec.witness6 (enc := enc) (C := Try.checked) false ⟨#[], #[.int .i64 0, .int .i64 0, .int .i64 0], []⟩ 8 (by kernel_rfl) (by kernel_rfl) (by kernel_rfl) (by kernel_rfl)) ?_
  intro W base args ds before hval0 hA0 _ _
  have hval : ∀ (j : Nat) t v, Try.f5.params[j]? = some t → args[j]? = some v → Value.okWide Try.prog W .any base t v := hval0
  have hA : DataW.TrodAll enc Try.prog W 0 (fun _ => true) true Try.f5.params.toList args.toList ds before := hA0
  rw [Try.params5] at hA hval
  obtain ⟨v0, v1, v2, d0, d1, d2, p0, p1, p2, rfl, rfl, rfl, h0, h1, h2⟩ := trodAll_three hA
  obtain ⟨a0, rfl, rfl, rfl, w0⟩ := open_int Try.underlying3 (hval 0 3 v0 rfl rfl) h0
  obtain ⟨a1, rfl, rfl, rfl, w1⟩ := open_int Try.underlying3 (hval 1 3 v1 rfl rfl) h1
  obtain ⟨a2, rfl, rfl, rfl, w2⟩ := open_int Try.underlying3 (hval 2 3 v2 rfl rfl) h2
  exact walk a0 a1 a2 W

theorem proved : Rows.ReplayRunsSaid :=
  OpenClaim.holds_of_wide 5 Try.f5 rfl rfl rfl rfl rfl rfl rfl ⟨rfl, rfl, rfl, rfl, rfl⟩ rfl rfl rfl rfl rfl (by kernel_rfl) Try.func5 (by kernel_rfl)
    (of_decide_eq_true (by kernel_rfl)) (by unfold Func.isWrapper; first | (rw [if_pos (by decide +kernel)]; kernel_rfl) | (rw [if_neg (by decide +kernel)]; exact ⟨rfl, rfl⟩))
    (fun os started H enc _ => lifted os started H enc)
#print axioms proved
end Go.Proofs.Ytebekdnihncenaa.replayRuns
