/-
  What Climb holds while it reckons; one row put in order. Conditions: those each theorem names.
-/
import Derived.Test.YtkopkicdmbnpgaaRoomK
namespace Go.Proofs.Ytkopkicdmbnpgaa
set_option linter.unusedVariables false
open Go.RowKit Adj

namespace Rm
theorem blk_ne {w : World} {g h : Nat} {t u : TypeId} {cs ds : Array Value} (h1 : Blk w g t cs) (h2 : Blk w h u ds) (hne : t ≠ u) : g ≠ h := fun e => by
  subst e
  unfold Blk at h1 h2
  rw [h1] at h2
  injection h2 with h2
  injection h2 with _ h
  exact hne h
/-- What Climb holds: the box of words, the tree in its box, the peaks in theirs, the rows below. N: where the world ended once the tree had grown. -/
structure Cl (w w0 : World) (A' : Option Addr) (c' bt bb n N : Nat) (x y : Value) (gs cs : Nat → Nat) (pk : List Int) (F : Nat → List Int) (wr : World) : Prop where
  out : Below w.heap.size w wr
  box : Blk wr w.heap.size 22 #[.slice A' n c']
  tp : Blk wr N 46 #[.pointer (some ⟨bt, 0, none⟩)]
  tree : Blk wr bt 53 #[x, y, .slice (some ⟨bb, 0, none⟩) n n]
  pks : Blk wr (N + 1) 3 (Adj.ints pk).toArray
  pkb : Blk wr (N + 2) 22 #[.slice (some ⟨N + 1, 0, none⟩) n n]
  rows : Rows w0 bb n gs cs F wr
  w0s : w0.heap.size = w.heap.size + 1
  small : ∀ s, s < n → 0 < (F s).length → gs s < N
  len : pk.length = n
  ge : w.heap.size < N
section
variable {w w0 wr wr' : World} {A' : Option Addr} {c' bt bb n N s : Nat} {x y : Value} {gs cs : Nat → Nat} {pk : List Int} {F G : Nat → List Int} {T : List Int}
theorem Cl.same (h : Cl w w0 A' c' bt bb n N x y gs cs pk F wr) (hFG : F = G) : Cl w w0 A' c' bt bb n N x y gs cs pk G wr := hFG ▸ h
theorem Cl.turn (h : Cl w w0 A' c' bt bb n N x y gs cs pk F wr) (hs : s < n) (hp : 0 < (F s).length) (hT : T.length = (F s).length) (hr : Sr.Ro wr (gs s) T wr') : Cl w w0 A' c' bt bb n N x y gs cs pk (fun t => if t = s then T else F t) wr' := by
  obtain ⟨g1, g2, cur, g3, g4⟩ := h.rows.row s hs hp
  have hw := h.w0s
  have hsm := h.small s hs hp
  have hlen : ∀ t, (if t = s then T else F t).length = (F t).length := fun t => by
    by_cases e : t = s
    · subst e; rw [if_pos rfl, hT]
    · rw [if_neg e]
  refine ⟨h.out.trans (hr.fr.from h.out.size (by omega)), hr.fr.blk h.box (by omega), hr.fr.blk h.tp (by omega), hr.fr.blk h.tree (blk_ne h.tree g3 (by decide)), hr.fr.blk h.pks (by omega), hr.fr.blk h.pkb (by omega), h.rows.turn hs hp hT hr, h.w0s, fun t ht h0 => ?_, h.len, h.ge⟩
  rw [hlen] at h0
  exact h.small t ht h0
theorem Cl.below (h : Cl w w0 A' c' bt bb n N x y gs cs pk F wr) (hb : Below wr.heap.size wr wr') : Cl w w0 A' c' bt bb n N x y gs cs pk F wr' :=
  ⟨h.out.trans (hb.mono h.out.size), h.box.below hb h.box.lt, h.tp.below hb h.tp.lt, h.tree.below hb h.tree.lt, h.pks.below hb h.pks.lt, h.pkb.below hb h.pkb.lt, h.rows.below hb, h.w0s, h.small, h.len, h.ge⟩
theorem Cl.set (h : Cl w w0 A' c' bt bb n N x y gs cs pk F wr) (i : Nat) (v : Int) : Cl w w0 A' c' bt bb n N x y gs cs (pk.set i v) F (wr.setCell ⟨N + 1, i, none⟩ (.int .i64 v)) := by
  have hge := h.ge
  have hne : ∀ {b t cs}, Blk wr b t cs → b ≠ N + 1 → Blk (wr.setCell ⟨N + 1, i, none⟩ (.int .i64 v)) b t cs := fun hb hn => hb.far (p := ⟨N + 1, i, none⟩) hn _
  have hbb : bb ≠ N + 1 ∨ n = 0 := by
    by_cases hn : n = 0
    · exact .inr hn
    · left
      intro e
      have h1 : (wr.cell? ⟨bb, 0, none⟩).isSome := by
        by_cases e2 : 0 < (F 0).length
        · rw [h.rows.cell 0 (by omega) e2]; rfl
        · obtain ⟨A, c, h2⟩ := h.rows.nil_ 0 (by omega) (List.length_eq_zero_iff.1 (by omega))
          rw [h2]; rfl
      have h3 := h.pks.cell 0
      rw [e] at h1
      have h4 : ∃ z A m c, wr.cell? ⟨N + 1, z, none⟩ = some (.slice A m c) := by
        by_cases e2 : 0 < (F 0).length
        · exact ⟨0, _, _, _, e ▸ h.rows.cell 0 (by omega) e2⟩
        · obtain ⟨A, c, h2⟩ := h.rows.nil_ 0 (by omega) (List.length_eq_zero_iff.1 (by omega))
          exact ⟨0, _, _, _, e ▸ h2⟩
      obtain ⟨z, A, m, c, h5⟩ := h4
      rw [h.pks.cell] at h5
      unfold Adj.ints at h5
      simp only [List.getElem?_toArray, List.getElem?_map] at h5
      cases hx : pk[z]? with
      | none => rw [hx] at h5; cases h5
      | some u => rw [hx] at h5; cases h5
  have hcell : ∀ t v', t < n → wr.cell? ⟨bb, t, none⟩ = some v' → (wr.setCell ⟨N + 1, i, none⟩ (.int .i64 v)).cell? ⟨bb, t, none⟩ = some v' := fun t v' ht hv => by
    rw [World.cell?_setCell_other]
    · exact hv
    · intro e
      rcases hbb with e2 | e2
      · exact e2 (congrArg Addr.block e).symm
      · omega
  refine ⟨h.out.setCell (by show w.heap.size ≤ N + 1; omega) _, hne h.box (by omega), hne h.tp (by omega), hne h.tree (blk_ne h.tree h.pks (by decide)), ?_, hne h.pkb (by omega), ⟨h.rows.low, by simpa using h.rows.lt, fun t ht h0 => hcell t _ ht (h.rows.cell t ht h0), fun t ht h0 => ?_, fun t ht h0 => ?_, h.rows.sep⟩, h.w0s, h.small, by rw [List.length_set]; exact h.len, h.ge⟩
  · have h1 := h.pks.set_ i (.int .i64 v)
    rwa [ints_set] at h1
  · obtain ⟨A, c, h2⟩ := h.rows.nil_ t ht h0
    exact ⟨A, c, hcell t _ ht h2⟩
  · obtain ⟨g1, g2, cur, g3, g4⟩ := h.rows.row t ht h0
    have := h.small t ht h0
    exact ⟨g1, g2, cur, hne g3 (by omega), g4⟩
theorem Cl.peak (h : Cl w w0 A' c' bt bb n N x y gs cs pk F wr) {i : Nat} (hi : i < n) : wr.cell? ⟨N + 1, i, none⟩ = some (.int .i64 (pk.getD i 0)) := by
  rw [h.pks.cell]
  have hl := h.len
  rw [List.getD_eq_getElem?_getD, List.getElem?_eq_getElem (by omega)]
  simpa using ints_at pk i (by omega)
theorem Cl.row (h : Cl w w0 A' c' bt bb n N x y gs cs pk F wr) (hs : s < n) : ∃ A c, wr.cell? ⟨bb, s, none⟩ = some (.slice A (F s).length c) ∧ IntsAt wr wr.heap.size A (F s) := by
  by_cases e : 0 < (F s).length
  · exact ⟨_, _, h.rows.cell s hs e, h.rows.ints hs (h.rows.cell s hs e)⟩
  · have e2 : F s = [] := List.length_eq_zero_iff.1 (by omega)
    obtain ⟨A, c, h2⟩ := h.rows.nil_ s hs e2
    have h3 : wr.cell? ⟨bb, s, none⟩ = some (.slice A (F s).length c) := by rw [e2]; exact h2
    exact ⟨A, c, h3, h.rows.ints hs h3⟩
end
end Rm

set_option maxRecDepth 100000 in
/-- One row put in order. -/
theorem sort_cl (w w0 wr : World) (ws : List Int) (A' : Option Addr) (c' bt bb n N s : Nat) (x y : Value) (gs cs : Nat → Nat) (pk : List Int) (F : Nat → List Int) (hs : s < n) (hn : n ≤ 4096) (hm : ws.length = n) (h2 : IntsAt w w.heap.size A' ws) (h : Rm.Cl w w0 A' c' bt bb n N x y gs cs pk F wr)
    (hasc : (F s).Pairwise (· < ·)) (hdom : ∀ x ∈ F s, 0 ≤ x ∧ x < (n : Int)) (hlen : (F s).length ≤ 4096)
    (hb : ∀ i, i < n → 0 ≤ pk.getD i 0 ∧ pk.getD i 0 ≤ 4611686018427387904 ∧ 0 ≤ ws.getD i 0 ∧ ws.getD i 0 ≤ 1048576) (A : Option Addr) (c : Nat) (hcell : wr.cell? ⟨bb, s, none⟩ = some (.slice A (F s).length c)) :
    Calls Try.prog 28 #[.slice A (F s).length c, .func (.func 29) #[] #[.pointer (some ⟨N + 2, 0, none⟩), .pointer (some ⟨w.heap.size, 0, none⟩)]] wr fun e w' => e = .returned (.tuple #[]) ∧ Rm.Cl w w0 A' c' bt bb n N x y gs cs pk (fun t => if t = s then AdjR.sortBy (AdjR.keyOf pk ws) (F s) else F t) w' := by
  have hnd : (F s).Nodup := hasc.imp (fun h => by omega)
  by_cases hp : 0 < (F s).length
  · have hc0 := h.rows.cell s hs hp
    rw [hcell] at hc0
    obtain ⟨hA, hc⟩ : A = some ⟨gs s, 0, none⟩ ∧ c = cs s := by injection hc0 with e; injection e with e1 e2 e3; exact ⟨e1, e3⟩
    subst hA
    obtain ⟨bw, off, rfl, hbw⟩ := h2.spot (by omega)
    obtain ⟨g1, g2, cur, g3, g4⟩ := h.rows.row s hs hp
    have hw := h.w0s
    have hsm := h.small s hs hp
    have hge := h.ge
    have hcmp := climbCmp wr (gs s) (N + 2) w.heap.size (N + 1) bw off n c' pk ws (h.pkb.cell 0) (h.box.cell 0) (fun i hi => h.peak hi) (fun i hi => by
        have h3 : ws[i]? = some (ws.getD i 0) := by
          rw [List.getD_eq_getElem?_getD, List.getElem?_eq_getElem (by omega)]; rfl
        have h4 := h2.at_ h3
        exact (h.out.cell (cell_lt h4)).trans h4) ⟨by omega, by omega, by omega, by omega⟩ (fun i hi => by
        have := hb i hi
        exact IntWalk.i64_in _ (by omega))
    refine (sortStable_any wr wr (gs s) c _ _ (AdjR.keyOf pk ws) _ (F s) _ rfl (by omega) hcmp hdom hasc (h.rows.ro hs hp)).mono ?_
    rintro e w' ⟨rfl, T, t1, t2, t3⟩
    have hT := AdjR.sortBy_eq hnd t1 t2
    subst hT
    exact ⟨rfl, h.turn hs hp (AdjR.sortBy_perm _ _).length_eq t3⟩
  · have e2 : F s = [] := List.length_eq_zero_iff.1 (by omega)
    rw [e2]
    refine (sortStable_nil wr A c _).mono ?_
    rintro e w' ⟨rfl, rfl⟩
    refine ⟨rfl, h.same (funext fun t => ?_)⟩
    by_cases e : t = s
    · subst e; rw [if_pos rfl, e2]; rfl
    · rw [if_neg e]
end Go.Proofs.Ytkopkicdmbnpgaa
