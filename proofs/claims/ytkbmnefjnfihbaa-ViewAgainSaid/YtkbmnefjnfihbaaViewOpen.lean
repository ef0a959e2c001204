/-
  A view that comes in, opened. No condition.
-/
import Derived.Test.YtkbmnefjnfihbaaViewI
import Derived.Lib.SmallJoins
namespace Go.Proofs.Ytkbmnefjnfihbaa
set_option linter.unusedVariables false
open Go.RowKit Adj Go.WideShapes Go.ChangeShapes

theorem open_cells {H : Type} {enc : TypeId × Value → H} {w : World} {v : Value} {x : DataW H × List MemPlace} {fuel : Nat} (hf : DataW.trod enc Try.prog w 0 (fun _ => true) true fuel 22 [v] = some x) :
    ∃ A L cap, v = .slice A L.length cap ∧ Vw.IntsAt w w.heap.size A L ∧ L.length ≤ cap ∧ cap ≤ 9223372036854775807 := by
  obtain ⟨a0, len0, cap0, hs⟩ := Joins.slice_form Try.underlying22 hf
  simp only [List.cons.injEq, and_true] at hs
  subst hs
  rcases open_ints Try.underlying22 Try.underlying3 Try.cellsInt hf with ⟨hcs, hx⟩ | ⟨a, len, cap, zs, hcs, _, hl, hm, hlen, hx, hc, _⟩
  · simp at hcs
    obtain ⟨rfl, rfl, rfl⟩ := hcs
    exact ⟨none, [], 0, rfl, fun h => by simp at h, by simp, by omega⟩
  · simp at hcs
    obtain ⟨rfl, rfl, rfl⟩ := hcs
    have hzl : len0 ≤ zs.length := by rw [hlen]; simp; omega
    refine ⟨some a, zs.take len0, cap0, by rw [List.length_take]; congr 1; omega, ?_, by simp; omega, by unfold maxLen at hm; omega⟩
    intro hpos
    simp at hpos
    obtain ⟨b, off, spot⟩ := a
    have h0 := hc 0 (by omega)
    have hlt := World.block_lt_of_cell? w _ h0
    have hadd : ((⟨b, off, spot⟩ : Addr).add 0) = ⟨b, off, spot⟩ := by simp [Addr.add]
    rw [hadd] at h0 hlt
    have hsp : spot = none := by
      cases spot with
      | none => rfl
      | some s => simp [World.cell?] at h0; split at h0 <;> simp_all
    subst hsp
    refine ⟨b, off, rfl, hlt, fun i hi => ?_⟩
    simp at hi
    have := hc i (by omega)
    rw [Addr.add_lit] at this
    rw [this]
    simp [List.getD_eq_getElem?_getD, show i < zs.length by omega]

/-- A view that comes in: what the walks ask of it. -/
theorem open_view {H : Type} {enc : TypeId × Value → H} {w : World} {v : Value} {d : DataW H} {ps : List MemPlace} {base : Nat} (hv : Value.okWide Try.prog w .any base 34 v)
    (h : DataW.Trod enc Try.prog w 0 (fun _ => true) true 34 v d ps) : ∃ u, Vw.ViewAt w w.heap.size v u := by
  obtain ⟨v0, v1, v2, y0, y1, y2, n, rfl, _, _, h0, h1, h2⟩ := Joins.open_agg3 Try.underlying34 (by kernel_rfl) (by kernel_rfl) hv h
  obtain ⟨m, hm, _, _⟩ := DataW.trod_int Try.underlying3 h0
  simp only [List.cons.injEq, and_true] at hm
  subst hm
  obtain ⟨A, L, c, rfl, i1, l1, m1⟩ := open_cells h1
  obtain ⟨A', L', c', rfl, i2, l2, m2⟩ := open_cells h2
  exact ⟨⟨m, L, L'⟩, A, c, A', c', rfl, i1, i2, l1, m1, l2, m2⟩
end Go.Proofs.Ytkbmnefjnfihbaa
