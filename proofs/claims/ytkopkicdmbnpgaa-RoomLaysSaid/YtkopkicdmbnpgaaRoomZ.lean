/-
  The walk of slices.DeleteFunc at what lies. Conditions: the row is the call's own.
-/
import Derived.Test.YtkopkicdmbnpgaaRoomY
import Derived.Laws.IdiomCopy
namespace Go.Proofs.Ytkopkicdmbnpgaa
set_option linter.unusedVariables false
open Go.RowKit Adj

namespace Ld
theorem setCells_fr {g : Nat} : ∀ (vs : List Value) (o : Nat) (w : World), Sr.Fr w (w.setCells g o vs) g
  | [], _, w => Sr.Fr.refl w g
  | v :: r, o, w => ((Sr.Fr.refl w g).set o v).trans (setCells_fr r (o + 1) _)
theorem setCells_blk {g : Nat} {t : TypeId} : ∀ (vs : List Value) (o : Nat) (w : World) (cur : Array Value), Blk w g t cur → ∃ cur', Blk (w.setCells g o vs) g t cur' ∧ cur'.size = cur.size ∧ ∀ i, i < o → cur'[i]? = cur[i]?
  | [], _, w, cur, h => ⟨cur, h, rfl, fun _ _ => rfl⟩
  | v :: r, o, w, cur, h => by
    obtain ⟨cur', h1, h2, h3⟩ := setCells_blk r (o + 1) _ _ (h.set_ o v)
    refine ⟨cur', h1, by rw [h2]; simp, fun i hi => ?_⟩
    rw [h3 i (by omega), Array.getElem?_setIfInBounds, if_neg (by omega)]
theorem zero_cells (n : Nat) : (Builtin.zeroCells (Value.agg #[.int .i64 0, .int .i64 0, .int .i64 0]).cells n).toList = List.replicate (n * 3) (.int .i64 0) := by
  apply List.ext_getElem
  · simp [Builtin.zeroCells, Value.cells]
  · intro i h1 h2
    simp only [Builtin.zeroCells, Value.cells]
    simp
    have : i % 3 = 0 ∨ i % 3 = 1 ∨ i % 3 = 2 := by omega
    rcases this with e | e | e <;> rw [e] <;> rfl
end Ld
set_option maxRecDepth 100000 in
theorem clear_laid (W : World) (ty : TypeId) (g o n c : Nat) (hn : 0 < n) (hc : ∀ j, j < n * 3 → (W.cell? ⟨g, o + j, none⟩).isSome = true) (hf : ∀ j, j < n * 3 → W.frozen? ⟨g, o + j, none⟩ = false) :
    (Builtin.clear_ #[75] ty #[.slice (some ⟨g, o, none⟩) n c]).run Try.prog W = .ok (.tuple #[]) (W.setCells g o (List.replicate (n * 3) (.int .i64 0))) := by
  have hst := run_storeCells_cells (P := Try.prog) g o (List.replicate (n * 3) (.int .i64 0)) 0 W (by simpa using hc) (by simpa using hf) (by intro v hv; rw [List.eq_of_mem_replicate hv]; rfl)
  simp only [Nat.add_zero] at hst
  obtain ⟨m, rfl⟩ : ∃ m, n = m + 1 := ⟨n - 1, by omega⟩
  simp [Builtin.clear_, run_underlying Try.underlying75, Try.zeroValue78, Ld.zero_cells, hst]

namespace Ld
/-- All but the row of v is as it was. -/
def Kp (base : Nat) (w w' : World) (v : Value) : Prop := Below base w w' ∧ ∀ h, h < w.heap.size → v.ownBlock ≠ some h → w'.heap[h]? = w.heap[h]?
def keep (f : Int) (L : List AdjL.Laid) : List AdjL.Laid := L.filter fun y => decide (f < y.to)
theorem keep_all {f : Int} {L : List AdjL.Laid} (h : ∀ y ∈ L, f < y.to) : keep f L = L := List.filter_eq_self.2 (fun y hy => decide_eq_true (h y hy))
theorem keep_next {f : Int} {L : List AdjL.Laid} {j : Nat} (hj : j < L.length) : keep f (L.take (j + 1)) = if f < L[j].to then keep f (L.take j) ++ [L[j]] else keep f (L.take j) := by
  rw [List.take_succ_eq_append_getElem hj]
  unfold keep
  rw [List.filter_append]
  by_cases e : f < L[j].to
  · rw [if_pos e]; simp [e]
  · rw [if_neg e]; simp [e]
theorem keep_len (f : Int) (L : List AdjL.Laid) (j : Nat) : (keep f (L.take j)).length ≤ j := by
  have h1 := List.length_filter_le (fun y : AdjL.Laid => decide (f < y.to)) (L.take j)
  rw [List.length_take] at h1
  show (List.filter _ _).length ≤ j
  omega
/-- The row while it is being made shorter: i of those ahead of j are kept. -/
structure Dl (w : World) (g cap : Nat) (cur : Array Value) (f : Int) (L : List AdjL.Laid) (i j : Nat) (wr : World) : Prop where
  fr : Sr.Fr w wr g
  len : (keep f (L.take j)).length = i
  row : ∃ cur', Blk wr g 78 cur' ∧ cur'.size = cap * 3 ∧ (∀ (t : Nat) (x : Int), (lints (keep f (L.take j)))[t]? = some x → cur'[t]? = some (Value.int .i64 x)) ∧ ∀ t : Nat, j * 3 ≤ t → cur'[t]? = cur[t]?
section
variable {w wr wr' : World} {g cap i j : Nat} {cur : Array Value} {f : Int} {L : List AdjL.Laid}
theorem Dl.below (h : Dl w g cap cur f L i j wr) (hg : g < wr.heap.size) (hb : Below wr.heap.size wr wr') : Dl w g cap cur f L i j wr' := by
  obtain ⟨cur', h1, h2⟩ := h.row
  exact ⟨h.fr.below hb, h.len, cur', h1.below hb hg, h2⟩
theorem Dl.drop (h : Dl w g cap cur f L i j wr) (hj : j < L.length) (hn : ¬ f < L[j].to) : Dl w g cap cur f L i (j + 1) wr := by
  obtain ⟨cur', h1, h2, h3, h4⟩ := h.row
  have e : keep f (L.take (j + 1)) = keep f (L.take j) := by rw [keep_next hj, if_neg hn]
  exact ⟨h.fr, by rw [e]; exact h.len, cur', h1, h2, by rw [e]; exact h3, fun t ht => h4 t (by omega)⟩
theorem Dl.take (h : Dl w g cap cur f L i j wr) (hj : j < L.length) (hij : i < j) (hc : L.length ≤ cap) (hn : f < L[j].to) : Dl w g cap cur f L (i + 1) (j + 1) (((wr.setCell ⟨g, i * 3, none⟩ (.int .i64 L[j].at_)).setCell ⟨g, i * 3 + 1, none⟩ (.int .i64 L[j].end_)).setCell ⟨g, i * 3 + 2, none⟩ (.int .i64 L[j].to)) := by
  obtain ⟨cur', h1, h2, h3, h4⟩ := h.row
  have e : keep f (L.take (j + 1)) = keep f (L.take j) ++ [L[j]] := by rw [keep_next hj, if_pos hn]
  have hli : (lints (keep f (L.take j))).length = i * 3 := by rw [lints_length, h.len]; omega
  refine ⟨((h.fr.set _ _).set _ _).set _ _, by rw [e, List.length_append, h.len]; rfl, _, ((h1.set_ _ _).set_ _ _).set_ _ _, by simpa using h2, fun t x hx => ?_, fun t ht => ?_⟩
  · rw [e, lints_append] at hx
    simp only [Array.getElem?_setIfInBounds, Array.size_setIfInBounds]
    by_cases c : t < i * 3
    · rw [List.getElem?_append_left (by omega)] at hx
      rw [if_neg (by omega), if_neg (by omega), if_neg (by omega)]
      exact h3 t x hx
    · rw [List.getElem?_append_right (by omega), hli] at hx
      have ht3 : t - i * 3 < 3 := by
        have := (List.getElem?_eq_some_iff.1 hx).1
        have h5 : (lints [L[j]]).length = 3 := rfl
        omega
      have hs : cur'.size = cap * 3 := h2
      rcases (show t = i * 3 ∨ t = i * 3 + 1 ∨ t = i * 3 + 2 by omega) with rfl | rfl | rfl
      · rw [if_neg (by omega), if_neg (by omega), if_pos rfl, if_pos (by omega)]
        rw [show i * 3 - i * 3 = 0 by omega] at hx
        have : L[j].at_ = x := by simpa [lints, three] using hx
        rw [this]
      · rw [if_neg (by omega), if_pos rfl, if_pos (by omega)]
        rw [show i * 3 + 1 - i * 3 = 1 by omega] at hx
        have : L[j].end_ = x := by simpa [lints, three] using hx
        rw [this]
      · rw [if_pos rfl, if_pos (by omega)]
        rw [show i * 3 + 2 - i * 3 = 2 by omega] at hx
        have : L[j].to = x := by simpa [lints, three] using hx
        rw [this]
  · simp only [Array.getElem?_setIfInBounds, Array.size_setIfInBounds]
    rw [if_neg (by omega), if_neg (by omega), if_neg (by omega)]
    exact h4 t (by omega)
end
end Ld
end Go.Proofs.Ytkopkicdmbnpgaa
