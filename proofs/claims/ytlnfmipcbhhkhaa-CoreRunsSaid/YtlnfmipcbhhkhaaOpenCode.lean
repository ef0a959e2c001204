/-
  Code that comes in, opened; lists of ints that come in. No condition.
-/
import Derived.Test.YtlnfmipcbhhkhaaCoreD
import Derived.Lib.SmallJoins
import Derived.Deep.Slices
import Derived.Deep.Fields
import Derived.ChangeSame
namespace Go.Proofs.Ytlnfmipcbhhkhaa
set_option linter.unusedVariables false
open Go.RowKit Adj Go.WideShapes Go.ChangeShapes Go.Deep

section
variable {H : Type} {enc : TypeId × Value → H} {P : Program} {w : World} {base : Nat} {spare : Nat → Bool} {held : Bool}
/-- A slice of structs whose fields take a cell each: each field's cell, and how it reads. -/
theorem open_fields {t e : TypeId} {fs : Array Field} {fuel : Nat} {cs : List Value} {x : DataW H × List MemPlace} (ht : P.underlying t = some (.slice e)) (he : P.underlying e = some (.struct fs))
    (hone : oneCellFields P fs = true) (hC : P.cellsOf e = fs.size) (h : DataW.trod enc P w base spare held fuel t cs = some x) :
    cs = [.slice none 0 0] ∨
    ∃ (a : Addr) (len cap : Nat), cs = [.slice (some a) len cap] ∧ len ≤ cap ∧ cap ≤ maxLen ∧
      ∀ i, i < len → ∃ (n : Nat), ∀ (j : Nat) (f : Field), fs[j]? = some f → ∃ (v : Value) (y : DataW H × List MemPlace), w.cell? (a.add (i * fs.size + j)) = some v ∧ DataW.trod enc P w base spare held n f.type [v] = some y := by
  rcases open_slice ht h with h0 | ⟨a, len, cap, m, n, D, Pl, hcs, hb, hl, hm, hmm, hx, hi⟩
  · exact .inl h0.1
  · refine .inr ⟨a, len, cap, hcs, hl, hm, fun i hil => ?_⟩
    have him : i < m := by rw [hmm]; split <;> omega
    obtain ⟨cs', hc, ht'⟩ := hi i him
    rw [hC] at hc
    obtain ⟨ys, n', hn', hy, hlen, hyl, hf⟩ := DataW.trod_struct he ht'
    obtain ⟨_, hcl, hat⟩ := World.cells?_some hc
    refine ⟨n', fun j f hj => ?_⟩
    obtain ⟨ho, hk⟩ := hone_of hone j f hj
    have hjl : j < fs.size := (Array.getElem?_eq_some_iff.1 hj).1
    have hcell := hat j hjl
    have hv : cs'[j]? = some (cs'[j]'(by omega)) := List.getElem?_eq_getElem (by omega)
    have h1 := hf j f hj
    rw [ho, hk] at h1
    have hone' : (cs'.drop j).take 1 = [cs'[j]'(by omega)] := by
      rw [List.drop_eq_getElem_cons (by omega)]
      rfl
    rw [hone'] at h1
    have hys : ys[j]? = some (ys[j]'(by omega)) := List.getElem?_eq_getElem (by omega)
    refine ⟨_, _, ?_, h1.trans hys⟩
    rw [← Go.Deep.add_add, hcell, hv]
end

section
variable {H : Type} {enc : TypeId × Value → H} {w : World}
theorem head_spot {a : Addr} {v : Value} (h : w.cell? (a.add 0) = some v) : ∃ b off, a = ⟨b, off, none⟩ ∧ b < w.heap.size := by
  obtain ⟨b, off, spot⟩ := a
  have hlt := World.block_lt_of_cell? w _ h
  have hadd : ((⟨b, off, spot⟩ : Addr).add 0) = ⟨b, off, spot⟩ := by simp [Addr.add]
  rw [hadd] at h hlt
  have hsp : spot = none := by
    cases spot with
    | none => rfl
    | some s => simp [World.cell?] at h; split at h <;> simp_all
  subst hsp
  exact ⟨b, off, rfl, hlt⟩
/-- The instructions that a list's cells hold. -/
theorem open_ins {fuel : Nat} {v : Value} {x : DataW H × List MemPlace} (h : DataW.trod enc Try.prog w 0 (fun _ => true) true fuel 22 [v] = some x) :
    ∃ (A : Option Addr) (l : List AdjC.I) (cap : Nat), v = .slice A l.length cap ∧ IntsAt w w.heap.size A (AdjC.flat l) ∧ l.length ≤ cap ∧ cap ≤ 9223372036854775807 := by
  rcases open_fields Try.underlying22 Try.underlying42 (by kernel_rfl) (by kernel_rfl) h with hcs | ⟨a, len, cap, hcs, hl, hm, hi⟩
  · simp at hcs
    subst hcs
    exact ⟨none, [], 0, rfl, IntsAt.nil, by simp, by omega⟩
  · simp at hcs
    subst hcs
    have six : ∀ i : Nat, ∃ y : AdjC.I, i < len → ∀ (j : Nat) (z : Int), (AdjC.six y)[j]? = some z → w.cell? (a.add (i * 6 + j)) = some (.int .i64 z) := fun i => by
      by_cases hil : i < len
      · obtain ⟨n, hf⟩ := hi i hil
        obtain ⟨v0, y0, c0, e0⟩ := hf 0 _ rfl
        obtain ⟨v1, y1, c1, e1⟩ := hf 1 _ rfl
        obtain ⟨v2, y2, c2, e2⟩ := hf 2 _ rfl
        obtain ⟨v3, y3, c3, e3⟩ := hf 3 _ rfl
        obtain ⟨v4, y4, c4, e4⟩ := hf 4 _ rfl
        obtain ⟨v5, y5, c5, e5⟩ := hf 5 _ rfl
        obtain ⟨m0, h0, _, _⟩ := DataW.trod_int Try.underlying3 e0
        obtain ⟨m1, h1, _, _⟩ := DataW.trod_int Try.underlying3 e1
        obtain ⟨m2, h2, _, _⟩ := DataW.trod_int Try.underlying3 e2
        obtain ⟨m3, h3, _, _⟩ := DataW.trod_int Try.underlying3 e3
        obtain ⟨m4, h4, _, _⟩ := DataW.trod_int Try.underlying3 e4
        obtain ⟨m5, h5, _, _⟩ := DataW.trod_int Try.underlying2 e5
        simp only [List.cons.injEq, and_true] at h0 h1 h2 h3 h4 h5
        subst h0 h1 h2 h3 h4 h5
        refine ⟨⟨m0, m1, m2, m3, m4, m5⟩, fun _ j z hz => ?_⟩
        match j, hz with
        | 0, hz => simp [AdjC.six] at hz; subst hz; exact c0
        | 1, hz => simp [AdjC.six] at hz; subst hz; exact c1
        | 2, hz => simp [AdjC.six] at hz; subst hz; exact c2
        | 3, hz => simp [AdjC.six] at hz; subst hz; exact c3
        | 4, hz => simp [AdjC.six] at hz; subst hz; exact c4
        | 5, hz => simp [AdjC.six] at hz; subst hz; exact c5
        | j + 6, hz => simp [AdjC.six] at hz
      · exact ⟨⟨0, 0, 0, 0, 0, 0⟩, fun h => absurd h hil⟩
    have hall : ∃ l : List AdjC.I, l.length = len ∧ ∀ i (hi : i < l.length) (j : Nat) (z : Int), (AdjC.six l[i])[j]? = some z → w.cell? (a.add (i * 6 + j)) = some (.int .i64 z) := by
      refine ⟨(List.range len).map fun i => (six i).choose, by simp, fun i hi j z hz => ?_⟩
      rw [List.length_map, List.length_range] at hi
      have := (six i).choose_spec hi j z
      simp only [List.getElem_map, List.getElem_range] at hz
      exact this hz
    obtain ⟨l, hll, hc⟩ := hall
    refine ⟨some a, l, cap, by rw [hll], ?_, by omega, by unfold maxLen at hm; omega⟩
    intro hp
    rw [Adj.ints_length, AdjC.flat_length] at hp
    have hl0 : 0 < l.length := by omega
    obtain ⟨b, off, rfl, hlt⟩ := head_spot (hc 0 hl0 0 _ rfl)
    refine ⟨b, off, rfl, hlt, fun q u hq => ?_⟩
    unfold Adj.ints at hq
    rw [List.getElem?_map] at hq
    obtain ⟨z, hz, rfl⟩ := Option.map_eq_some_iff.1 hq
    have hql : q < (AdjC.flat l).length := (List.getElem?_eq_some_iff.1 hz).1
    rw [AdjC.flat_length] at hql
    have e : q = (q / 6) * 6 + q % 6 := by omega
    rw [e, AdjC.flat_at l (q / 6) (q % 6) (by omega) (by omega)] at hz
    have := hc (q / 6) (by omega) (q % 6) z hz
    rw [← e, Addr.add_lit] at this
    exact this
/-- Code that comes in: what the walks ask of it. -/
theorem open_code {v : Value} {d : DataW H} {ps : List MemPlace} {base : Nat} (hv : Value.okWide Try.prog w .any base 24 v)
    (h : DataW.Trod enc Try.prog w 0 (fun _ => true) true 24 v d ps) : ∃ c, Cr.CodeAt w w.heap.size v c := by
  obtain ⟨v0, v1, v2, v3, y0, y1, y2, y3, n, rfl, _, _, h0, h1, h2, h3⟩ := Joins.open_agg4 Try.underlying24 (by kernel_rfl) (by kernel_rfl) hv h
  obtain ⟨m, hm, _, _⟩ := DataW.trod_int Try.underlying3 h0
  obtain ⟨m', hm', _, _⟩ := DataW.trod_int Try.underlying3 h1
  simp only [List.cons.injEq, and_true] at hm hm'
  subst hm hm'
  obtain ⟨A, L, c, rfl, i1, l1, m1⟩ := open_ins h2
  obtain ⟨A', L', c', rfl, i2, l2, m2⟩ := open_ins h3
  exact ⟨⟨m, m', L, L'⟩, A, c, A', c', rfl, i1, i2, l1, m1, l2, m2⟩
end
end Go.Proofs.Ytlnfmipcbhhkhaa
