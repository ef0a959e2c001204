/-
  PROVED: ReplayPlaysSaid: for every n, every number of slots and every list of moves the law ReplayPlays returns true: the program's Play answers what the reference's answers. No condition.
-/
import Derived.Test.YtebekdnihncenaaReplayF
import Derived.Test.YtebekdnihncenaaLawRow
import Derived.Deep.SlicePairs
namespace Go.Proofs.Ytebekdnihncenaa
open Go.RowKit Go.WideShapes Go.ChangeShapes Go.Deep

theorem Try.cellsMove : Try.prog.cellsOf 47 = 2 := by kernel_rfl
theorem Try.cellsInt : Try.prog.cellsOf 3 = 1 := by kernel_rfl
theorem Try.bytesMove : Try.prog.bytesOf 47 = 16 := by kernel_rfl
theorem Try.structMove : ∃ f0 f1 : Field, Try.prog.underlying 47 = some (.struct #[f0, f1]) ∧ f0.offset = 0 ∧ f1.offset = 1 ∧ f0.type = 3 ∧ f1.type = 3 := ⟨_, _, Try.underlying47, rfl, rfl, rfl, rfl⟩

/-- A list of moves that comes in: what the walks ask of it. -/
theorem open_moves {H : Type} {enc : TypeId × Value → H} {w : World} {v : Value} {d : DataW H} {ps : List MemPlace} {base : Nat} (hv : Value.okWide Try.prog w .any base 34 v)
    (h : DataW.Trod enc Try.prog w 0 (fun _ => true) true 34 v d ps) :
    ∃ A L cap, v = .slice A L.length cap ∧ Rp.MovesAt w w.heap.size A L ∧ (d = .nil ∧ L = [] ∨ ∃ es sp, d = .slice es sp ∧ es.length = L.length) := by
  obtain ⟨a0, len0, cap0, rfl⟩ := okWide_slice Try.underlying34 hv
  obtain ⟨fuel, hf⟩ := h
  obtain ⟨f0, f1, hs, o0, o1, t0, t1⟩ := Try.structMove
  rcases open_slice_pairs Try.underlying34 hs Try.cellsMove o0 o1 (by rw [t0]; exact Try.cellsInt) (by rw [t1]; exact Try.cellsInt) hf with ⟨hcs, hx⟩ | ⟨a, len, cap, m, n, V0, V1, D0, D1, P0, P1, hcs, _, hl, hm, hmm, hx, hc⟩
  · simp [Value.cells] at hcs
    obtain ⟨rfl, rfl, rfl⟩ := hcs
    injection hx with hd _
    exact ⟨none, [], 0, rfl, fun h => by simp at h, .inl ⟨hd, rfl⟩⟩
  · simp [Value.cells] at hcs
    obtain ⟨rfl, rfl, rfl⟩ := hcs
    injection hx with hd _
    have hlm : len0 ≤ m := by rw [hmm]; simp; omega
    have each : ∀ i, i < len0 → ∃ q : Int × Int, w.cell? (a.add (i * 2)) = some (.int .i64 q.1) ∧ w.cell? (a.add (i * 2 + 1)) = some (.int .i64 q.2) := by
      intro i hi
      obtain ⟨c0, c1, x0, x1⟩ := hc i (by omega)
      rw [t0] at x0
      rw [t1] at x1
      obtain ⟨n0, e0, _, _⟩ := DataW.trod_int Try.underlying3 x0
      obtain ⟨n1, e1, _, _⟩ := DataW.trod_int Try.underlying3 x1
      injection e0 with e0 _
      injection e1 with e1 _
      exact ⟨(n0, n1), by rw [c0, e0], by rw [c1, e1]⟩
    obtain ⟨q, hq⟩ := choose_lt each
    refine ⟨some a, (List.range len0).map q, cap0, by simp, ?_, .inr ⟨_, _, hd, by simp⟩⟩
    intro hpos
    simp at hpos
    obtain ⟨b, off, spot⟩ := a
    have h0 := (hq 0 hpos).1
    have hlt := World.block_lt_of_cell? w _ h0
    have hadd : ((⟨b, off, spot⟩ : Addr).add (0 * 2)) = ⟨b, off, spot⟩ := by simp [Addr.add]
    rw [hadd] at h0 hlt
    have hsp : spot = none := by
      cases spot with
      | none => rfl
      | some s => simp [World.cell?] at h0; split at h0 <;> simp_all
    subst hsp
    refine ⟨b, off, rfl, hlt, fun i hi => ?_⟩
    simp at hi
    have := hq i hi
    rw [Addr.add_lit, Addr.add_lit] at this
    simpa [Nat.add_assoc] using this
end Go.Proofs.Ytebekdnihncenaa

namespace Go.Proofs.Ytebekdnihncenaa.replayPlays
open Go.ChangeShapes Go.WideShapes Go.ChangeAt Go.RowKit

theorem own : ownKnob Try.prog.godebug = none := by kernel_rfl
theorem laid : laidOutB Try.prog = true := by kernel_rfl

theorem calls (n s : Int) (A : Option Addr) (cap : Nat) (L : List (Int × Int)) (w : World) (hL : L.length ≤ 17592186044416) (hm : Rp.MovesAt w w.heap.size A L) :
    ∃ x y : Int, Calls Try.prog 14 #[.int .i64 n, .int .i64 s, .slice A L.length cap] w (fun e w' => e = .returned (.tuple #[.int .i64 x, .int .i64 y]) ∧ Below w.heap.size w w') ∧
      ∀ W, Below w.heap.size w W → Calls Try.prog 15 #[.int .i64 n, .int .i64 s, .slice A L.length cap] W (fun e w' => e = .returned (.tuple #[.int .i64 x, .int .i64 y]) ∧ Below W.heap.size W w') := by
  by_cases h : n < 0 ∨ 256 < n ∨ s < 0 ∨ 16 < s
  · exact ⟨0, 4, (Play_out n s _ w h).mono fun e w' ⟨he, hw⟩ => ⟨he, hw ▸ Below.refl _ _⟩, fun W _ => (refPlay_out n s _ W h).mono fun e w' ⟨he, hw⟩ => ⟨he, hw ▸ Below.refl _ _⟩⟩
  · obtain ⟨s, rfl⟩ := Int.eq_ofNat_of_zero_le (show 0 ≤ s by omega)
    refine ⟨(Adj8.answer n s L).1, (Adj8.answer n s L).2, Play_in n s A cap L w (by omega) (by omega) (by omega) hL hm, fun W hW => refPlay_in n s A cap L W (by omega) (by omega) (by omega) hL ?_⟩
    intro hpos
    obtain ⟨b, off, hA, hb, hc⟩ := hm hpos
    exact ⟨b, off, hA, Nat.lt_of_lt_of_le hb hW.size, fun i hi => ⟨(hW.cell (p := ⟨b, off + i * 2, none⟩) hb).trans (hc i hi).1, (hW.cell (p := ⟨b, off + i * 2 + 1, none⟩) hb).trans (hc i hi).2⟩⟩

set_option maxHeartbeats 1000000 in
theorem walk (n s : Int) (A : Option Addr) (cap : Nat) (L : List (Int × Int)) (w : World) (hL : L.length ≤ 17592186044416) (hm : Rp.MovesAt w w.heap.size A L) :
    Calls Try.prog 6 #[.int .i64 n, .int .i64 s, .slice A L.length cap] w fun e w' => e = .returned (.bool true) ∧ Below w.heap.size w w' := by
  obtain ⟨x, y, h1, h2⟩ := calls n s A cap L w hL hm
  have H1 := Lib.hid h1
  have H2 := Lib.hid h2
  clear h1 h2 hm
  go_enter Try.func6, Try.ntmps6
  go_wp2_with fail
  refine H1.out.mono ?_
  rintro e w1 ⟨rfl, hb1⟩
  go_wp2_with fail
  refine (H2.out _ hb1).mono ?_
  rintro e w2 ⟨rfl, hb2⟩
  go_wp2_with fail
  go_ret
  exact ⟨rfl, hb1.trans (hb2.mono hb1.size)⟩

theorem lifted (os : Os) (started : os.Started) (H : Type) (enc : TypeId × Value → H) :
    ReturnsInHanded {} Try.checked os 6 .any (Rows.replayPlaysSpec.pre6 enc Try.prog Try.f6 Rows.replayPlaysRow.domain false) (Rows.replayPlaysSpec.post enc Try.prog Try.f6 false true false false) := by
  refine Adj.law_lifted (C := Try.checked) (s := Rows.replayPlaysSpec) own started (by kernel_rfl) Try.func6 laid rfl rfl Try.underlying4
      (by rw [Try.params6]; intro t ht; simp only [List.mem_cons, List.not_mem_nil, or_false] at ht; rcases ht with rfl | rfl | rfl <;> exact ⟨by kernel_rfl, of_decide_eq_true (by kernel_rfl)⟩)
      (by intro ds hd; match ds, hd with | [d1, d2, d3], _ => exact ⟨rfl, rfl, rfl⟩)
      (ChangeSpec.witness6 (enc := enc) (C := Try.checked) false ⟨#[], #[.int .i64 0, .int .i64 0, .slice none 0 0], []⟩ 8 (by kernel_rfl) (by kernel_rfl) (by kernel_rfl) (by kernel_rfl)) ?_
  intro W base args ds before hval0 hA0 _ hz0
  have hval : ∀ (j : Nat) t v, Try.f6.params[j]? = some t → args[j]? = some v → Value.okWide Try.prog W .any base t v := hval0
  have hA : DataW.TrodAll enc Try.prog W 0 (fun _ => true) true Try.f6.params.toList args.toList ds before := hA0
  have hz : (DataW.weightsEach Try.prog (Try.f6.params.toList ++ []) (ds ++ [])).all (· ≤ reachBytes) = true := hz0
  rw [Try.params6] at hA hval hz
  obtain ⟨v0, v1, v2, d0, d1, d2, p0, p1, p2, rfl, rfl, rfl, h0, h1, h2⟩ := trodAll_three hA
  obtain ⟨a0, rfl, rfl, rfl, w0⟩ := open_int Try.underlying3 (hval 0 3 v0 rfl rfl) h0
  obtain ⟨a1, rfl, rfl, rfl, w1⟩ := open_int Try.underlying3 (hval 1 3 v1 rfl rfl) h1
  obtain ⟨A, L, cap, rfl, hm, hd⟩ := open_moves (hval 2 34 v2 rfl rfl) h2
  refine walk a0 a1 A cap L W ?_ hm
  rcases hd with ⟨_, rfl⟩ | ⟨es, sp, rfl, hlen⟩
  · simp
  · have := sized_slice hz (j := 2) (t := 34) (e := 47) (elems := es) (spare := sp) rfl rfl Try.underlying34
    rw [Try.bytesMove, hlen] at this
    simp only [reachBytes] at this
    omega

theorem proved : Rows.ReplayPlaysSaid :=
  OpenClaim.holds_of_wide 6 Try.f6 rfl rfl rfl rfl rfl rfl rfl ⟨rfl, rfl, rfl, rfl, rfl⟩ rfl rfl rfl rfl rfl (by kernel_rfl) Try.func6 (by kernel_rfl)
    (of_decide_eq_true (by kernel_rfl)) (by unfold Func.isWrapper; first | (rw [if_pos (by decide +kernel)]; kernel_rfl) | (rw [if_neg (by decide +kernel)]; exact ⟨rfl, rfl⟩))
    (fun os started H enc _ => lifted os started H enc)
#print axioms proved
end Go.Proofs.Ytebekdnihncenaa.replayPlays
