/-
  The walks of Plan and of its closure: the moves that a plan tells, gathered in a list. Conditions: none (Plan_any says what it answers for anything).
-/
import Derived.Test.YtebekdnihncenaaReplayE
import Derived.Test.YtebekdnihncenaaReplayH
import Derived.Deep.AppendLies
namespace Go.Proofs.Ytebekdnihncenaa
set_option linter.unusedVariables false
open Go.RowKit Adj Adj8

theorem Try.infoMove : (Try.prog.info? 47).map (fun i => (i.zero, i.size, i.bytes)) = some (some (.agg #[.int .i64 0, .int .i64 0]), 2, 16) := by kernel_rfl

namespace Rp
/-- Moves as cells. -/
def mcells : List (Int × Int) → List Value
  | [] => []
  | (d, k) :: l => .int .i64 d :: .int .i64 k :: mcells l
theorem mcells_length : ∀ l, (mcells l).length = l.length * 2
  | [] => rfl
  | (d, k) :: l => by simp only [mcells, List.length_cons, mcells_length l]; omega
theorem mcells_append : ∀ l m, mcells (l ++ m) = mcells l ++ mcells m
  | [], _ => rfl
  | (d, k) :: l, m => by simp only [mcells, List.cons_append, mcells_append l m]
theorem mcells_at : ∀ (l : List (Int × Int)) (i : Nat) (h : i < l.length), (mcells l)[i * 2]? = some (.int .i64 l[i].1) ∧ (mcells l)[i * 2 + 1]? = some (.int .i64 l[i].2)
  | (d, k) :: l, 0, _ => ⟨rfl, rfl⟩
  | (d, k) :: l, i + 1, h => by
    have := mcells_at l i (by simpa using h)
    rw [show (i + 1) * 2 = i * 2 + 1 + 1 from by omega]
    simpa [mcells] using this
theorem one_two (d k : Int) : ∀ u ∈ [Value.int .i64 d, .int .i64 k], u.oneCell' = true := by
  intro u hu
  simp only [List.mem_cons, List.not_mem_nil, or_false] at hu
  rcases hu with rfl | rfl <;> rfl
theorem moves_own {w : World} {base : Nat} {v : Value} {c : Nat} {L : List (Int × Int)} (h : w.ownsRow base 47 2 v c (mcells L)) (hl : L.length = c) :
    ∃ A cap, v = .slice A L.length cap ∧ MovesAt w w.heap.size A L := by
  subst hl
  rcases h.2 with ⟨rfl, h0⟩ | ⟨g, cap, cur, rfl, hb, hg, hnc, hcm, hcs, htake⟩
  · exact ⟨none, 0, by rw [h0], fun hp => by omega⟩
  · refine ⟨_, cap, rfl, fun hp => ⟨g, 0, rfl, (Array.getElem?_eq_some_iff.1 hg).1, fun i hi => ?_⟩⟩
    have hc := h.cells (g := g) rfl
    have h1 := hc (i * 2) _ (mcells_at L i hi).1
    have h2 := hc (i * 2 + 1) _ (mcells_at L i hi).2
    rw [Addr.add_lit] at h1 h2
    exact ⟨h1, by rw [← Nat.add_assoc] at h2; exact h2⟩
/-- How Plan's list stands. -/
def PlanI (N : Int) (x0 : St) (W0 : World) (c : Nat) (x : St) (W : World) : Prop :=
  ∃ L v, plays N x0 L = .ok x ∧ L.length = c ∧ Blk W W0.heap.size 34 #[v] ∧ W.ownsRow (W0.heap.size + 1) 47 2 v c (mcells L) ∧ Below W0.heap.size W0 W
end Rp

set_option maxHeartbeats 1000000 in
theorem plan_put (N : Int) (x0 : St) (W0 : World) (c : Nat) (x : St) (d k : Int) (w : World) (hI : Rp.PlanI N x0 W0 c x w) (hc : c ≤ 1048576) (he : moveErr N x d k = 0) :
    Calls Try.prog 25 #[.int .i64 d, .int .i64 k, .pointer (some ⟨W0.heap.size, 0, none⟩)] w fun e w' => e = .returned (.tuple #[]) ∧ Rp.PlanI N x0 W0 (c + 1) (moveDo x d k) w' := by
  obtain ⟨L, v, h1, h2, h3, h4, h5⟩ := hI
  obtain ⟨i0, hi, hz0, hz1, hz2⟩ := info_parts Try.infoMove
  have hcell := h3.at (i := 0) (v := v) rfl
  have hsz := h3.lt
  have H1 := Lib.hid h1
  have H2 := Lib.hid h2
  have H3 := Lib.hid h3
  have H4 := Lib.hid h4
  have HE := Lib.hid he
  clear h1 h2 h3 h4 he
  go_enter Try.func25, Try.ntmps25
  go_wp2_with (at_builtin; refine wpList_append_own _ rfl _ _ 34 rfl (W0.heap.size + 1) 47 i0 (.agg #[.int .i64 0, .int .i64 0]) 2 16 Try.underlying34 hi hz0 hz1 hz2 rfl (by decide) _ _ _ rfl (H4.out.alloc _) ⟨w.heap.size, 0, none⟩ 1 1 [.int .i64 d, .int .i64 k] rfl rfl (World.news_of_block (cs := #[.int .i64 d, .int .i64 k]) (t := 47) (fr := (0, 0)) (heap_alloc_new w _)) (Rp.one_two _ _) (by unfold maxLen; omega) (by omega) (by simp; omega) ?_)
  intro v' w1 hown hgrow _
  have hbl : some W0.heap.size ≠ v.ownBlock := fun h => by have := H4.out.lt _ h.symm; omega
  have hb1 : Blk w1 W0.heap.size 34 #[v] := (H3.out.alloc _).grown hgrow hbl
  have hsz1 := hb1.lt
  have hc1 := hb1.at (i := 0) (v := v) rfl
  have hf1 := hb1.frozen 0
  have hbel : Below W0.heap.size W0 w1 := (h5.alloc (by omega) _).grown hgrow (by simp; omega) (fun q hq => by have := (H4.out.lt q hq).1; omega)
  have HO := Lib.hid hown
  have HB := Lib.hid hb1
  obtain ⟨gv, cv, hv, _⟩ := hown.form (by omega)
  clear hown hgrow hb1
  rw [hv]
  have HV := Lib.hid hv
  clear hv
  go_wp2
  go_end0
  rw [← HV.out]
  refine ⟨rfl, L ++ [(d, k)], v', ?_, by rw [List.length_append, H2.out]; rfl, HB.out.set_ 0 v', ?_, hbel.setCell (Nat.le_refl _) _⟩
  · rw [plays_snoc, H1.out]
    exact if_pos HE.out
  · rw [Rp.mcells_append]
    exact ownsRow_setCell_below HO.out (by show W0.heap.size < W0.heap.size + 1; omega) _

theorem Try.callPlan (args : Array Value) (w : World) : (callFunc 25 args).run Try.prog w = .ok (.enter 25 args) w := by
  have h1 : Try.f25.name ≠ "runtime.NumGoroutine" := by
    have h : (Try.f25.name == "runtime.NumGoroutine") = false := by kernel_rfl
    simpa using h
  obtain ⟨c, hc⟩ : ∃ c, Try.f25.body = some c := ⟨_, rfl⟩
  simp [callFunc, Try.func25, h1, hc]

/-- What Plan answers. -/
def Rp.Planned (n s : Int) (W : World) (e : Ending) (w' : World) : Prop :=
  (Rp.wrong n s ≠ 0 ∧ e = .returned (.tuple #[.slice none 0 0, .int .i64 (Rp.wrong n s)]) ∧ w' = W) ∨
  (Rp.wrong n s = 0 ∧ ∃ A L cap, e = .returned (.tuple #[.slice A L.length cap, .int .i64 0]) ∧ Rp.MovesAt w' w'.heap.size A L ∧ L.length ≤ 1048576 ∧ answer n s.toNat L = (((T n.toNat s.toNat : Nat) : Int), 0) ∧ Below W.heap.size W w')

set_option maxHeartbeats 1000000 in
theorem Plan_any (n s : Int) (w : World) : Calls Try.prog 16 #[.int .i64 n, .int .i64 s] w (Rp.Planned n s w) := by
  by_cases h0 : Rp.wrong n s = 0
  · obtain ⟨b1, b2, b3, b4, b5⟩ := Rp.wrong_ok h0
    obtain ⟨n, rfl⟩ := Int.eq_ofNat_of_zero_le b1
    obtain ⟨s, rfl⟩ := Int.eq_ofNat_of_zero_le b3
    have H0 := Lib.hid h0
    clear h0
    have hmf : ∀ (fn : Fn) (first cap : Array Value) (w : World), (Instr.makeFunc fn first cap).run Try.prog w = .ok (.func fn first cap) w := fun _ _ _ _ => rfl
    go_enter Try.func16, Try.ntmps16
    go_wp2_with (go_at_call 17; refine (wrong_any _ _ _).mono ?_; rintro e w' ⟨rfl, rfl⟩; rw [H0.out])
    have hstart : Rp.PlanI n (play0 n s) w 0 (play0 n s) (w.alloc (.cells #[.slice none 0 0] 34)) :=
      ⟨[], .slice none 0 0, rfl, rfl, Blk.new _ _ _, World.ownsRow_nil _ _ _ _, (Below.refl _ _).alloc (Nat.le_refl _) _⟩
    refine (plan_any n s (by omega) (by omega) (by omega) 25 #[.pointer (some ⟨w.heap.size, 0, none⟩)] (Rp.PlanI n (play0 n s) w) ⟨Try.callPlan, fun c x d k W hI hc he => plan_put n (play0 n s) w c x d k W hI hc he⟩ ?_ n 0 s 0 _ _ hstart ?_ ?_ (by omega) (by omega) ?_).mono ?_
    · rintro c x W ⟨L, v, h1, _⟩
      exact plays_fine (play0_fine n s (by omega)) h1
    · have := Rp.T_256 n s (by omega)
      omega
    · omega
    · show (n : Int) = 0 + (n : Int)
      omega
    rintro e w1 ⟨rfl, y, c, ⟨L, v, h1, h2, h3, h4, h5⟩, hc, _, hy⟩
    have hcell := h3.at (i := 0) (v := v) rfl
    have hT := Rp.T_256 n s (by omega)
    have HY := Lib.hid hy
    have H1 := Lib.hid h1
    have H2 := Lib.hid h2
    have H3 := Lib.hid h3
    have H4 := Lib.hid h4
    clear hy h1 h2 h3 h4 hstart
    go_wp2
    go_ret2
    refine .inr ⟨H0.out, ?_⟩
    obtain ⟨y1, y2, y3, y4⟩ := HY.out
    have hans : answer n (s : Int).toNat L = (((T (n : Int).toNat (s : Int).toNat : Nat) : Int), 0) := by
      rw [Int.toNat_natCast, Int.toNat_natCast]
      refine (Rp.answer_done H1.out ?_).trans ?_
      · rw [y1]; show ¬ (0 : Int) > 0; omega
      · rw [y2]; show ((0 : Int) + _, (0 : Int)) = _; rw [Int.zero_add]
    have hmv := Rp.moves_own H4.out H2.out
    obtain ⟨A, cap, rfl, hm⟩ := hmv
    exact ⟨A, L, cap, rfl, hm, by rw [H2.out]; omega, hans, h5⟩
  · have h1 : (Rp.wrong n s != 0) = true := by simpa using h0
    go_enter Try.func16, Try.ntmps16
    go_wp2_with (go_at_call 17; refine (wrong_any _ _ _).mono ?_; rintro e w' ⟨rfl, rfl⟩)
    go_ret2
    exact .inl ⟨h0, rfl, rfl⟩

end Go.Proofs.Ytebekdnihncenaa
