/-
  Lists of ints that come in, opened. No condition.
-/
import Derived.Test.YtkopkicdmbnpgaaProg
import Derived.Test.YtkopkicdmbnpgaaInts
import Derived.ChangeSlices
import Derived.ChangeSame
import Derived.Deep.Slices
namespace Go.Proofs.Ytkopkicdmbnpgaa
set_option linter.unusedVariables false
open Go.RowKit Adj Go.WideShapes Go.ChangeShapes Go.Deep

theorem Try.cellsI : Try.prog.cellsOf 3 = 1 := by kernel_rfl
section
variable {H : Type} {enc : TypeId × Value → H} {w : World}
theorem head_spot {a : Addr} {v : Value} (h : w.cell? (a.add 0) = some v) : ∃ b off, a = ⟨b, off, none⟩ ∧ b < w.heap.size := by
  obtain ⟨b, off, spot⟩ := a
  have hlt := World.block_lt_of_cell? w _ h
  have hadd : ((⟨b, off, spot⟩ : Addr).add 0) = ⟨b, off, spot⟩ := by simp [Addr.add]
  rw [hadd] at h hlt
  have hsp : spot = none := by
    cases spot with
    | none => rfl
    | some s => simp [World.cell?] at h; split at h <;> simp_all
  subst hsp
  exact ⟨b, off, rfl, hlt⟩
theorem open_numbers {P : Program} {t e : TypeId} (ht : P.underlying t = some (.slice e)) (he : P.underlying e = some (.int .i64)) (hc1 : P.cellsOf e = 1) {v : Value} {d : DataW H} {ps : List MemPlace} {base : Nat} (hv : Value.okWide P w .any base t v)
    (h : DataW.Trod enc P w 0 (fun _ => true) true t v d ps) :
    ∃ A L cap, v = .slice A L.length cap ∧ IntsAt w w.heap.size A L ∧ L.length ≤ cap ∧ cap ≤ 9223372036854775807 := by
  obtain ⟨a0, len0, cap0, rfl⟩ := okWide_slice ht hv
  obtain ⟨fuel, hf⟩ := h
  rcases open_ints ht he hc1 hf with ⟨hcs, hx⟩ | ⟨a, len, cap, zs, hcs, _, hl, hm, hlen, hx, hc, _⟩
  · simp [Value.cells] at hcs
    obtain ⟨rfl, rfl, rfl⟩ := hcs
    exact ⟨none, [], 0, rfl, IntsAt.nil, by simp, by omega⟩
  · simp [Value.cells] at hcs
    obtain ⟨rfl, rfl, rfl⟩ := hcs
    have hzl : len0 ≤ zs.length := by rw [hlen]; simp; omega
    refine ⟨some a, zs.take len0, cap0, by rw [List.length_take]; congr 1; omega, ?_, by simp; omega, by unfold maxLen at hm; omega⟩
    intro hpos
    rw [ints_length] at hpos
    simp at hpos
    have h0 := hc 0 (by omega)
    obtain ⟨b, off, rfl, hlt⟩ := head_spot h0
    refine ⟨b, off, rfl, hlt, fun i u hu => ?_⟩
    unfold ints at hu
    rw [List.getElem?_map, List.getElem?_take] at hu
    split at hu
    · rename_i hi
      have h1 := hc i (by omega)
      rw [Addr.add_lit] at h1
      rw [List.getElem?_eq_getElem (by omega)] at hu
      simp at hu
      rw [h1, ← hu]
      simp [List.getD_eq_getElem?_getD, show i < zs.length by omega]
    · simp at hu
end
end Go.Proofs.Ytkopkicdmbnpgaa
