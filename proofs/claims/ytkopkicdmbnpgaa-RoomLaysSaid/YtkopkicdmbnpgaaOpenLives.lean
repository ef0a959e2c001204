/-
  Structs that come in, field by field; a list of lives that comes in, opened. No condition.
-/
import Derived.Test.YtkopkicdmbnpgaaRoomW
import Derived.Test.YtkopkicdmbnpgaaOpenInts
import Derived.Test.YtkopkicdmbnpgaaLawRow
import Derived.Lib.SmallJoins
import Derived.Deep.Slices
import Derived.Deep.Fields
import Derived.ChangeSame
namespace Go.Proofs.Ytkopkicdmbnpgaa
set_option linter.unusedVariables false
open Go.RowKit Adj Go.WideShapes Go.ChangeShapes Go.Deep

section
variable {H : Type} {enc : TypeId × Value → H} {P : Program} {w : World} {base : Nat} {spare : Nat → Bool} {held : Bool}
/-- A slice of structs whose fields take a cell each: each field's cell, and how it reads. -/
theorem open_fields {t e : TypeId} {fs : Array Field} {fuel : Nat} {cs : List Value} {x : DataW H × List MemPlace} (ht : P.underlying t = some (.slice e)) (he : P.underlying e = some (.struct fs))
    (hone : oneCellFields P fs = true) (hC : P.cellsOf e = fs.size) (h : DataW.trod enc P w base spare held fuel t cs = some x) :
    cs = [.slice none 0 0] ∨
    ∃ (a : Addr) (len cap : Nat), cs = [.slice (some a) len cap] ∧ len ≤ cap ∧ cap ≤ maxLen ∧
      ∀ i, i < len → ∃ (n : Nat), ∀ (j : Nat) (f : Field), fs[j]? = some f → ∃ (v : Value) (y : DataW H × List MemPlace), w.cell? (a.add (i * fs.size + j)) = some v ∧ DataW.trod enc P w base spare held n f.type [v] = some y := by
  rcases open_slice ht h with h0 | ⟨a, len, cap, m, n, D, Pl, hcs, hb, hl, hm, hmm, hx, hi⟩
  · exact .inl h0.1
  · refine .inr ⟨a, len, cap, hcs, hl, hm, fun i hil => ?_⟩
    have him : i < m := by rw [hmm]; split <;> omega
    obtain ⟨cs', hc, ht'⟩ := hi i him
    rw [hC] at hc
    obtain ⟨ys, n', hn', hy, hlen, hyl, hf⟩ := DataW.trod_struct he ht'
    obtain ⟨_, hcl, hat⟩ := World.cells?_some hc
    refine ⟨n', fun j f hj => ?_⟩
    obtain ⟨ho, hk⟩ := hone_of hone j f hj
    have hjl : j < fs.size := (Array.getElem?_eq_some_iff.1 hj).1
    have hcell := hat j hjl
    have hv : cs'[j]? = some (cs'[j]'(by omega)) := List.getElem?_eq_getElem (by omega)
    have h1 := hf j f hj
    rw [ho, hk] at h1
    have hone' : (cs'.drop j).take 1 = [cs'[j]'(by omega)] := by
      rw [List.drop_eq_getElem_cons (by omega)]
      rfl
    rw [hone'] at h1
    have hys : ys[j]? = some (ys[j]'(by omega)) := List.getElem?_eq_getElem (by omega)
    refine ⟨_, _, ?_, h1.trans hys⟩
    rw [← Go.Deep.add_add, hcell, hv]
end

section
variable {H : Type} {enc : TypeId × Value → H} {w : World}
/-- The lives that a list's cells hold. -/
theorem open_lives {fuel : Nat} {v : Value} {x : DataW H × List MemPlace} (h : DataW.trod enc Try.prog w 0 (fun _ => true) true fuel 33 [v] = some x) :
    ∃ (A : Option Addr) (l : List AdjL.Life) (cap : Nat), v = .slice A l.length cap ∧ IntsAt w w.heap.size A (AdjL.flat l) ∧ l.length ≤ cap ∧ cap ≤ 9223372036854775807 := by
  rcases open_fields Try.underlying33 Try.underlying37 (by kernel_rfl) (by kernel_rfl) h with hcs | ⟨a, len, cap, hcs, hl, hm, hi⟩
  · simp at hcs
    subst hcs
    exact ⟨none, [], 0, rfl, IntsAt.nil, by simp, by omega⟩
  · simp at hcs
    subst hcs
    have six : ∀ i : Nat, ∃ y : AdjL.Life, i < len → ∀ (j : Nat) (z : Int), (AdjL.three y)[j]? = some z → w.cell? (a.add (i * 3 + j)) = some (.int .i64 z) := fun i => by
      by_cases hil : i < len
      · obtain ⟨n, hf⟩ := hi i hil
        obtain ⟨v0, y0, c0, e0⟩ := hf 0 _ rfl
        obtain ⟨v1, y1, c1, e1⟩ := hf 1 _ rfl
        obtain ⟨v2, y2, c2, e2⟩ := hf 2 _ rfl
        obtain ⟨m0, h0, _, _⟩ := DataW.trod_int Try.underlying3 e0
        obtain ⟨m1, h1, _, _⟩ := DataW.trod_int Try.underlying3 e1
        obtain ⟨m2, h2, _, _⟩ := DataW.trod_int Try.underlying3 e2
        simp only [List.cons.injEq, and_true] at h0 h1 h2
        subst h0 h1 h2
        refine ⟨⟨m0, m1, m2⟩, fun _ j z hz => ?_⟩
        match j, hz with
        | 0, hz => simp [AdjL.three] at hz; subst hz; exact c0
        | 1, hz => simp [AdjL.three] at hz; subst hz; exact c1
        | 2, hz => simp [AdjL.three] at hz; subst hz; exact c2
        | j + 3, hz => simp [AdjL.three] at hz
      · exact ⟨⟨0, 0, 0⟩, fun h => absurd h hil⟩
    have hall : ∃ l : List AdjL.Life, l.length = len ∧ ∀ i (hi : i < l.length) (j : Nat) (z : Int), (AdjL.three l[i])[j]? = some z → w.cell? (a.add (i * 3 + j)) = some (.int .i64 z) := by
      refine ⟨(List.range len).map fun i => (six i).choose, by simp, fun i hi j z hz => ?_⟩
      rw [List.length_map, List.length_range] at hi
      have := (six i).choose_spec hi j z
      simp only [List.getElem_map, List.getElem_range] at hz
      exact this hz
    obtain ⟨l, hll, hc⟩ := hall
    refine ⟨some a, l, cap, by rw [hll], ?_, by omega, by unfold maxLen at hm; omega⟩
    intro hp
    rw [Adj.ints_length, AdjL.flat_length] at hp
    have hl0 : 0 < l.length := by omega
    obtain ⟨b, off, rfl, hlt⟩ := head_spot (hc 0 hl0 0 _ rfl)
    refine ⟨b, off, rfl, hlt, fun q u hq => ?_⟩
    unfold Adj.ints at hq
    rw [List.getElem?_map] at hq
    obtain ⟨z, hz, rfl⟩ := Option.map_eq_some_iff.1 hq
    have hql : q < (AdjL.flat l).length := (List.getElem?_eq_some_iff.1 hz).1
    rw [AdjL.flat_length] at hql
    have e : q = (q / 3) * 3 + q % 3 := by omega
    rw [e, AdjL.flat_at l (q / 3) (q % 3) (by omega) (by omega)] at hz
    have := hc (q / 3) (by omega) (q % 3) z hz
    rw [← e, Addr.add_lit] at this
    exact this
end
end Go.Proofs.Ytkopkicdmbnpgaa
