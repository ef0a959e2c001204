/-
  Rows that are read and turned in place. Conditions: those each theorem names.
-/
import Derived.Test.YtkopkicdmbnpgaaRoomI
namespace Go.Proofs.Ytkopkicdmbnpgaa
set_option linter.unusedVariables false
open Go.RowKit Adj

namespace Rm
/-- Lists in rows of their own, the slices of which lie at block bb. -/
structure Rows (w : World) (bb n : Nat) (gs cs : Nat → Nat) (F : Nat → List Int) (wr : World) : Prop where
  low : w.heap.size ≤ bb
  lt : bb < wr.heap.size
  cell : ∀ s, s < n → 0 < (F s).length → wr.cell? ⟨bb, s, none⟩ = some (.slice (some ⟨gs s, 0, none⟩) (F s).length (cs s))
  nil_ : ∀ s, s < n → F s = [] → ∃ A c, wr.cell? ⟨bb, s, none⟩ = some (.slice A 0 c)
  row : ∀ s, s < n → 0 < (F s).length → w.heap.size ≤ gs s ∧ gs s ≠ bb ∧ ∃ cur, Blk wr (gs s) 3 cur ∧ ∀ (j : Nat) (x : Int), (F s)[j]? = some x → cur[j]? = some (.int .i64 x)
  sep : ∀ s t, s < n → t < n → s ≠ t → 0 < (F s).length → 0 < (F t).length → gs s ≠ gs t
section
variable {w wr wr' : World} {bb n s : Nat} {gs cs : Nat → Nat} {F : Nat → List Int} {T : List Int}
theorem Rows.ro (h : Rows w bb n gs cs F wr) (hs : s < n) (hp : 0 < (F s).length) : Sr.Ro wr (gs s) (F s) wr := by
  obtain ⟨_, _, cur, h3, h4⟩ := h.row s hs hp
  exact ⟨Sr.Fr.refl wr _, h3.lt, cur, h3, h4⟩
theorem Rows.ints (h : Rows w bb n gs cs F wr) (hs : s < n) {A : Option Addr} {c : Nat} (hc : wr.cell? ⟨bb, s, none⟩ = some (.slice A (F s).length c)) : IntsAt wr wr.heap.size A (F s) := by
  intro hp
  have hp2 : 0 < (F s).length := by simpa [Adj.ints] using hp
  obtain ⟨_, _, cur, h3, h4⟩ := h.row s hs hp2
  have e := (h.cell s hs hp2).symm.trans hc
  have e2 : A = some ⟨gs s, 0, none⟩ := by injection e with e; injection e with e; exact e.symm
  refine ⟨gs s, 0, e2, h3.lt, fun i v hv => ?_⟩
  rw [h3.cell, Nat.zero_add]
  unfold Adj.ints at hv
  rw [List.getElem?_map] at hv
  cases hx : (F s)[i]? with
  | none => rw [hx] at hv; cases hv
  | some x => rw [hx] at hv; cases hv; exact h4 i x hx
/-- One row has been turned. -/
theorem Rows.turn (h : Rows w bb n gs cs F wr) (hs : s < n) (hp : 0 < (F s).length) (hT : T.length = (F s).length) (hr : Sr.Ro wr (gs s) T wr') : Rows w bb n gs cs (fun t => if t = s then T else F t) wr' := by
  have hlen : ∀ t, (if t = s then T else F t).length = (F t).length := fun t => by
    by_cases e : t = s
    · subst e; rw [if_pos rfl, hT]
    · rw [if_neg e]
  have hne : bb ≠ gs s := fun e => (h.row s hs hp).2.1 e.symm
  refine ⟨h.low, Nat.lt_of_lt_of_le h.lt hr.fr.size, fun t ht h0 => ?_, fun t ht h0 => ?_, fun t ht h0 => ?_, fun t u ht hu htu h0 h1 => ?_⟩
  · rw [hlen] at h0 ⊢
    exact (hr.fr.cell (cell_lt (h.cell t ht h0)) hne).trans (h.cell t ht h0)
  · have h1 : F t = [] := by
      have h2 := hlen t
      rw [h0] at h2
      exact List.length_eq_zero_iff.1 h2.symm
    obtain ⟨A, c, h2⟩ := h.nil_ t ht h1
    exact ⟨A, c, (hr.fr.cell (cell_lt h2) hne).trans h2⟩
  · rw [hlen] at h0
    obtain ⟨g1, g2, cur, g3, g4⟩ := h.row t ht h0
    refine ⟨g1, g2, ?_⟩
    by_cases e : t = s
    · subst e
      rw [if_pos rfl]
      exact hr.row
    · rw [if_neg e]
      exact ⟨cur, hr.fr.blk g3 (h.sep t s ht hs e h0 hp), g4⟩
  · rw [hlen] at h0 h1
    exact h.sep t u ht hu htu h0 h1
theorem Rows.below (h : Rows w bb n gs cs F wr) (hb : Below wr.heap.size wr wr') : Rows w bb n gs cs F wr' := by
  refine ⟨h.low, Nat.lt_of_lt_of_le h.lt hb.size, fun t ht h0 => ?_, fun t ht h0 => ?_, fun t ht h0 => ?_, h.sep⟩
  · exact (hb.cell (cell_lt (h.cell t ht h0))).trans (h.cell t ht h0)
  · obtain ⟨A, c, h2⟩ := h.nil_ t ht h0
    exact ⟨A, c, (hb.cell (cell_lt h2)).trans h2⟩
  · obtain ⟨g1, g2, cur, g3, g4⟩ := h.row t ht h0
    exact ⟨g1, g2, cur, g3.below hb g3.lt, g4⟩
theorem Ps.rows (h : Ps w bb n F wr) : ∃ gs cs, Rows w bb n gs cs F wr := by
  obtain ⟨h1, h2, V, h3, h4, h5, h6⟩ := h
  have hv : ∀ s, (hs : s < n) → V[s]? = some (V[s]'(by omega)) := fun s hs => List.getElem?_eq_getElem (by omega)
  have key : ∀ s, s < n → 0 < (F s).length → ∃ g c cur, V[s]? = some (.slice (some ⟨g, 0, none⟩) (F s).length c) ∧ w.heap.size ≤ g ∧ g ≠ bb ∧ Blk wr g 3 cur ∧ ∀ (j : Nat) (x : Int), (F s)[j]? = some x → cur[j]? = some (.int .i64 x) := by
    intro s hs hp
    have ho := h5 s _ (hv s hs)
    have hne := own_blk_ne ho h4 (by decide)
    rcases ho.2 with ⟨_, e2⟩ | ⟨g, cap, cur, e1, g2, g3, _, _, _, g7⟩
    · omega
    · refine ⟨g, cap, cur, by rw [hv s hs, e1], g2, fun e => hne (by rw [e1, e]; rfl), g3, fun j x hx => ?_⟩
      have hj := (List.getElem?_eq_some_iff.1 hx).1
      have h8 : (Adj.ints (F s))[j]? = some (.int .i64 x) := by unfold Adj.ints; rw [List.getElem?_map, hx]; rfl
      rw [← g7, List.getElem?_take, if_pos (by omega)] at h8
      simpa using h8
  refine ⟨fun s => (((V[s]?).getD undef).ownBlock).getD 0, fun s => match (V[s]?).getD undef with | .slice _ _ c => c | _ => 0, h2, h4.lt, fun s hs hp => ?_, fun s hs h0 => ?_, fun s hs hp => ?_, fun s t hs ht hst hp hq => ?_⟩
  · obtain ⟨g, c, cur, e1, _⟩ := key s hs hp
    rw [h4.cell, e1]
    show V.toArray[s]? = some (.slice (some ⟨g, 0, none⟩) (F s).length c)
    simpa using e1
  · have ho := h5 s _ (hv s hs)
    rw [h0] at ho
    rcases ho.2 with ⟨e1, e2⟩ | ⟨g, cap, cur, e1, _⟩
    · exact ⟨none, 0, by rw [h4.cell]; simpa [e1] using hv s hs⟩
    · exact ⟨_, cap, by rw [h4.cell]; simpa [e1] using hv s hs⟩
  · obtain ⟨g, c, cur, e1, e2, e3, e4, e5⟩ := key s hs hp
    rw [e1]
    exact ⟨e2, e3, cur, e4, e5⟩
  · obtain ⟨g, c, cur, e1, _⟩ := key s hs hp
    obtain ⟨g', c', cur', e1', _⟩ := key t ht hq
    have h9 := h6 s t _ _ hst e1 e1' g rfl
    rw [e1, e1']
    intro e
    exact h9 (by show some g' = some g; rw [show g = g' from e])
end
end Rm
end Go.Proofs.Ytkopkicdmbnpgaa
