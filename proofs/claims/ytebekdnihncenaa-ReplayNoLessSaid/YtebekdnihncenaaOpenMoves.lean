/-
  A list of moves that comes in, opened. No condition.
-/
import Derived.Test.YtebekdnihncenaaReplayE
import Derived.Test.YtebekdnihncenaaLawRow
import Derived.Deep.SlicePairs
namespace Go.Proofs.Ytebekdnihncenaa
open Go.RowKit Go.WideShapes Go.ChangeShapes Go.Deep

theorem Try.cellsMove : Try.prog.cellsOf 47 = 2 := by kernel_rfl
theorem Try.cellsInt : Try.prog.cellsOf 3 = 1 := by kernel_rfl
theorem Try.bytesMove : Try.prog.bytesOf 47 = 16 := by kernel_rfl
theorem Try.structMove : ∃ f0 f1 : Field, Try.prog.underlying 47 = some (.struct #[f0, f1]) ∧ f0.offset = 0 ∧ f1.offset = 1 ∧ f0.type = 3 ∧ f1.type = 3 := ⟨_, _, Try.underlying47, rfl, rfl, rfl, rfl⟩

/-- A list of moves that comes in: what the walks ask of it. -/
theorem open_moves {H : Type} {enc : TypeId × Value → H} {w : World} {v : Value} {d : DataW H} {ps : List MemPlace} {base : Nat} (hv : Value.okWide Try.prog w .any base 34 v)
    (h : DataW.Trod enc Try.prog w 0 (fun _ => true) true 34 v d ps) :
    ∃ A L cap, v = .slice A L.length cap ∧ Rp.MovesAt w w.heap.size A L ∧ (d = .nil ∧ L = [] ∨ ∃ es sp, d = .slice es sp ∧ es.length = L.length) := by
  obtain ⟨a0, len0, cap0, rfl⟩ := okWide_slice Try.underlying34 hv
  obtain ⟨fuel, hf⟩ := h
  obtain ⟨f0, f1, hs, o0, o1, t0, t1⟩ := Try.structMove
  rcases open_slice_pairs Try.underlying34 hs Try.cellsMove o0 o1 (by rw [t0]; exact Try.cellsInt) (by rw [t1]; exact Try.cellsInt) hf with ⟨hcs, hx⟩ | ⟨a, len, cap, m, n, V0, V1, D0, D1, P0, P1, hcs, _, hl, hm, hmm, hx, hc⟩
  · simp [Value.cells] at hcs
    obtain ⟨rfl, rfl, rfl⟩ := hcs
    injection hx with hd _
    exact ⟨none, [], 0, rfl, fun h => by simp at h, .inl ⟨hd, rfl⟩⟩
  · simp [Value.cells] at hcs
    obtain ⟨rfl, rfl, rfl⟩ := hcs
    injection hx with hd _
    have hlm : len0 ≤ m := by rw [hmm]; simp; omega
    have each : ∀ i, i < len0 → ∃ q : Int × Int, w.cell? (a.add (i * 2)) = some (.int .i64 q.1) ∧ w.cell? (a.add (i * 2 + 1)) = some (.int .i64 q.2) := by
      intro i hi
      obtain ⟨c0, c1, x0, x1⟩ := hc i (by omega)
      rw [t0] at x0
      rw [t1] at x1
      obtain ⟨n0, e0, _, _⟩ := DataW.trod_int Try.underlying3 x0
      obtain ⟨n1, e1, _, _⟩ := DataW.trod_int Try.underlying3 x1
      injection e0 with e0 _
      injection e1 with e1 _
      exact ⟨(n0, n1), by rw [c0, e0], by rw [c1, e1]⟩
    obtain ⟨q, hq⟩ := choose_lt each
    refine ⟨some a, (List.range len0).map q, cap0, by simp, ?_, .inr ⟨_, _, hd, by simp⟩⟩
    intro hpos
    simp at hpos
    obtain ⟨b, off, spot⟩ := a
    have h0 := (hq 0 hpos).1
    have hlt := World.block_lt_of_cell? w _ h0
    have hadd : ((⟨b, off, spot⟩ : Addr).add (0 * 2)) = ⟨b, off, spot⟩ := by simp [Addr.add]
    rw [hadd] at h0 hlt
    have hsp : spot = none := by
      cases spot with
      | none => rfl
      | some s => simp [World.cell?] at h0; split at h0 <;> simp_all
    subst hsp
    refine ⟨b, off, rfl, hlt, fun i hi => ?_⟩
    simp at hi
    have := hq i hi
    rw [Addr.add_lit, Addr.add_lit] at this
    simpa [Nat.add_assoc] using this
end Go.Proofs.Ytebekdnihncenaa
