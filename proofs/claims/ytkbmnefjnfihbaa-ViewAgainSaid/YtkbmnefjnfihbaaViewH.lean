/-
  Index, the program's and the reference's, at anything; a list of ints that comes in, opened. Condition: the dimensions can be read.
-/
import Derived.Test.YtkbmnefjnfihbaaViewG
import Derived.Test.YtkbmnefjnfihbaaLawRow
import Derived.ChangeSlices
namespace Go.Proofs.Ytkbmnefjnfihbaa
set_option linter.unusedVariables false
open Go.RowKit Adj

theorem viewIndex_any (A : Option Addr) (cap : Nat) (l : List Int) (p : Int) (B : Nat) (w : World) (hl : l.length ≤ cap) (hl' : cap ≤ 9223372036854775807) (hB : B ≤ w.heap.size) (hm : Vw.IntsAt w B A l) :
    Calls Try.prog 15 #[.slice A l.length cap, .int .i64 p] w fun e w' => ∃ A' c', e = .returned (.tuple #[.slice A' (AdjV.index l p).1.length c', .int .i64 (AdjV.index l p).2]) ∧ Below w.heap.size w w' ∧
      Vw.IntsAt w' w'.heap.size A' (AdjV.index l p).1 := by
  have hb2 : Below w.heap.size w ((w.alloc (.cells #[.slice A l.length cap] 22)).alloc (.cells #[.int .i64 p] 3)) := ((Below.refl _ w).alloc (Nat.le_refl _) _).alloc (by simp) _
  have HB2 := Lib.hid hb2
  have HSZ := Lib.hid (Size_any A cap l B _ (by omega) (hm.below (hb2.mono hB)))
  by_cases h0 : (AdjV.size l).2 = 0
  · have hR : Vw.sizeR l = .tuple #[.int .i64 (AdjV.size l).1, .int .i64 0] := by unfold Vw.sizeR; rw [h0]
    have HR := Lib.hid hR
    by_cases hp : p < 0 ∨ (AdjV.size l).1 ≤ p
    · have HI := Lib.hid (show AdjV.index l p = ([], 4) by unfold AdjV.index; rw [if_neg (by simp [h0]), if_pos hp])
      clear hm hR hb2
      by_cases hp0 : p < 0
      · go_enter Try.func15, Try.ntmps15
        go_wp2_with fail
        refine HSZ.out.mono ?_
        rintro e w1 ⟨rfl, rfl⟩
        rw [HR.out]
        go_wp2_with fail
        go_ret2
        exact ⟨none, 0, by rw [HI.out]; rfl, HB2.out, by rw [HI.out]; exact fun h => by simp at h⟩
      · have hp1 : (AdjV.size l).1 ≤ p := by omega
        go_enter Try.func15, Try.ntmps15
        go_wp2_with fail
        refine HSZ.out.mono ?_
        rintro e w1 ⟨rfl, rfl⟩
        rw [HR.out]
        go_wp2_with fail
        go_ret2
        exact ⟨none, 0, by rw [HI.out]; rfl, HB2.out, by rw [HI.out]; exact fun h => by simp at h⟩
    · obtain ⟨hix, _⟩ := AdjV.index_ok h0 hp
      refine (Index_fine A cap l p B w hl hl' hB hm h0 hp).mono ?_
      rintro e w1 ⟨g, rfl, hbel, hg, hblk⟩
      have hlen : (AdjV.idx l p).length = l.length := AdjV.idx_length l p
      refine ⟨some ⟨g, 0, none⟩, l.length, by rw [hix]; simp only [hlen], hbel, ?_⟩
      rw [hix]
      intro hpos
      refine ⟨g, 0, rfl, hblk.lt, fun i hi => ?_⟩
      rw [Nat.zero_add, hblk.cell i]
      simpa using ints_at (AdjV.idx l p) i hi
  · have HI := Lib.hid (show AdjV.index l p = ([], (AdjV.size l).2) from if_pos h0)
    have hq : ((AdjV.size l).2 != 0) = true := by simpa using h0
    clear hm hb2
    go_enter Try.func15, Try.ntmps15
    go_wp2_with fail
    refine HSZ.out.mono ?_
    rintro e w1 ⟨rfl, rfl⟩
    unfold Vw.sizeR
    go_wp2_with fail
    go_ret2
    exact ⟨none, 0, by rw [HI.out]; rfl, HB2.out, by rw [HI.out]; exact fun h => by simp at h⟩

theorem refIndex_ints (A : Option Addr) (cap : Nat) (l : List Int) (p : Int) (B : Nat) (w : World) (hl : l.length ≤ cap) (hl' : cap ≤ 9223372036854775807) (hB : B ≤ w.heap.size) (hm : Vw.IntsAt w B A l) :
    Calls Try.prog 16 #[.slice A l.length cap, .int .i64 p] w fun e w' => ∃ A' c', e = .returned (.tuple #[.slice A' (AdjV.index l p).1.length c', .int .i64 (AdjV.index l p).2]) ∧ Below w.heap.size w w' ∧
      Vw.IntsAt w' w'.heap.size A' (AdjV.index l p).1 :=
  (refIndex_any A cap l p B w hl hl' hB hm).mono fun e w' ⟨A', c', he, hb, hown⟩ => ⟨A', c', he, hb, (Vw.IntsAt.of_own hown).2⟩

theorem index_short (l : List Int) (p : Int) : (AdjV.index l p).1.length ≤ 6 := by
  unfold AdjV.index
  by_cases h : (AdjV.size l).2 ≠ 0
  · rw [if_pos h]; simp
  · rw [if_neg h]
    have := (AdjV.size_fine (l := l) (by simpa using h)).1
    by_cases h2 : p < 0 ∨ (AdjV.size l).1 ≤ p
    · rw [if_pos h2]; simp
    · rw [if_neg h2]; simpa [AdjV.idx_length] using this

section
open Go.WideShapes Go.ChangeShapes
theorem Try.cellsInt : Try.prog.cellsOf 3 = 1 := by kernel_rfl
/-- A list of ints that comes in: what the walks ask of it. -/
theorem open_list {H : Type} {enc : TypeId × Value → H} {w : World} {v : Value} {d : DataW H} {ps : List MemPlace} {base : Nat} (hv : Value.okWide Try.prog w .any base 22 v)
    (h : DataW.Trod enc Try.prog w 0 (fun _ => true) true 22 v d ps) :
    ∃ A L cap, v = .slice A L.length cap ∧ Vw.IntsAt w w.heap.size A L ∧ L.length ≤ cap ∧ cap ≤ 9223372036854775807 := by
  obtain ⟨a0, len0, cap0, rfl⟩ := okWide_slice Try.underlying22 hv
  obtain ⟨fuel, hf⟩ := h
  rcases open_ints Try.underlying22 Try.underlying3 Try.cellsInt hf with ⟨hcs, hx⟩ | ⟨a, len, cap, zs, hcs, _, hl, hm, hlen, hx, hc, _⟩
  · simp [Value.cells] at hcs
    obtain ⟨rfl, rfl, rfl⟩ := hcs
    exact ⟨none, [], 0, rfl, fun h => by simp at h, by simp, by omega⟩
  · simp [Value.cells] at hcs
    obtain ⟨rfl, rfl, rfl⟩ := hcs
    have hzl : len0 ≤ zs.length := by rw [hlen]; simp; omega
    refine ⟨some a, zs.take len0, cap0, by rw [List.length_take]; congr 1; omega, ?_, by simp; omega, by unfold maxLen at hm; omega⟩
    intro hpos
    simp at hpos
    obtain ⟨b, off, spot⟩ := a
    have h0 := hc 0 (by omega)
    have hlt := World.block_lt_of_cell? w _ h0
    have hadd : ((⟨b, off, spot⟩ : Addr).add 0) = ⟨b, off, spot⟩ := by simp [Addr.add]
    rw [hadd] at h0 hlt
    have hsp : spot = none := by
      cases spot with
      | none => rfl
      | some s => simp [World.cell?] at h0; split at h0 <;> simp_all
    subst hsp
    refine ⟨b, off, rfl, hlt, fun i hi => ?_⟩
    simp at hi
    have := hc i (by omega)
    rw [Addr.add_lit] at this
    rw [this]
    simp [List.getD_eq_getElem?_getD, show i < zs.length by omega]
end
end Go.Proofs.Ytkbmnefjnfihbaa
