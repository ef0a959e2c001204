/-
  Words for memory: a slice that reads as a row of cells, as a list of ints; wherever it lies. No program in sight. No condition.
-/
import Derived.Test.YtkopkicdmbnpgaaMem
import Derived.OwnWalk
import Derived.Maps.AppendAt
import Derived.Deep.AppendLies
namespace Adj
open Go Go.RowKit
set_option linter.unusedVariables false

/-- A slice's cells: what they hold; they lie below block B. -/
def RowAt (w : World) (B : Nat) (A : Option Addr) (cs : List Value) : Prop :=
  0 < cs.length → ∃ b off, A = some ⟨b, off, none⟩ ∧ b < B ∧ ∀ i v, cs[i]? = some v → w.cell? ⟨b, off + i, none⟩ = some v
section
variable {w w' : World} {B B' : Nat} {A : Option Addr} {cs : List Value}
theorem RowAt.nil : RowAt w B A [] := fun h => by simp at h
theorem RowAt.keep (h : RowAt w B A cs) (hk : ∀ p : Addr, p.block < B → w'.cell? p = w.cell? p) : RowAt w' B A cs := fun hp => by
  obtain ⟨b, off, e, hb, hc⟩ := h hp
  exact ⟨b, off, e, hb, fun i v hv => (hk ⟨b, off + i, none⟩ hb).trans (hc i v hv)⟩
theorem RowAt.below (h : RowAt w B A cs) (hb : Below B w w') : RowAt w' B A cs := h.keep fun p hp => hb.cell hp
theorem RowAt.up (h : RowAt w B A cs) (hb : B ≤ B') : RowAt w B' A cs := fun hp => by
  obtain ⟨b, off, e, hlt, hc⟩ := h hp
  exact ⟨b, off, e, by omega, hc⟩
theorem RowAt.drewN (h : RowAt w B A cs) (n : Nat) : RowAt (w.drewN n) B A cs := h
theorem RowAt.alloc (h : RowAt w B A cs) (hB : B ≤ w.heap.size) (o : Obj) : RowAt (w.alloc o) B A cs := h.keep fun p hp => World.cell?_alloc_lt w o p (by omega)
theorem RowAt.at_ {i : Nat} {v : Value} {b off : Nat} (h : RowAt w B (some ⟨b, off, none⟩) cs) (hv : cs[i]? = some v) : w.cell? ⟨b, off + i, none⟩ = some v := by
  obtain ⟨b', off', e, _, hc⟩ := h (by have := (List.getElem?_eq_some_iff.1 hv).1; omega)
  simp only [Option.some.injEq, Addr.mk.injEq, and_true] at e
  obtain ⟨rfl, rfl⟩ := e
  exact hc i v hv
theorem RowAt.spot (h : RowAt w B A cs) (hp : 0 < cs.length) : ∃ b off, A = some ⟨b, off, none⟩ ∧ b < B := by
  obtain ⟨b, off, e, hb, _⟩ := h hp
  exact ⟨b, off, e, hb⟩
/-- Part of a row. -/
theorem RowAt.drop {b off k : Nat} (h : RowAt w B (some ⟨b, off, none⟩) cs) : RowAt w B (some ⟨b, off + k, none⟩) (cs.drop k) := fun hp => by
  rw [List.length_drop] at hp
  obtain ⟨b', off', e, hb, hc⟩ := h (by omega)
  simp only [Option.some.injEq, Addr.mk.injEq, and_true] at e
  obtain ⟨rfl, rfl⟩ := e
  refine ⟨b, off + k, rfl, hb, fun i v hv => ?_⟩
  rw [List.getElem?_drop] at hv
  have := hc (k + i) v hv
  rwa [← Nat.add_assoc] at this
theorem RowAt.take {k : Nat} (h : RowAt w B A cs) : RowAt w B A (cs.take k) := fun hp => by
  rw [List.length_take] at hp
  obtain ⟨b, off, e, hb, hc⟩ := h (by omega)
  refine ⟨b, off, e, hb, fun i v hv => hc i v ?_⟩
  rw [List.getElem?_take] at hv
  split at hv
  · exact hv
  · cases hv
theorem RowAt.of_blk {g : Nat} {t : TypeId} {cs : Array Value} (h : Blk w g t cs) : RowAt w w.heap.size (some ⟨g, 0, none⟩) cs.toList := fun _ =>
  ⟨g, 0, rfl, h.lt, fun i v hv => by rw [h.cell, Nat.zero_add]; simpa using hv⟩
theorem RowAt.of_own {base : Nat} {e : TypeId} {n c size : Nat} (h : w.ownsRow base e size (.slice A n c) n cs) : RowAt w w.heap.size A cs := by
  have hl : cs.length = n * size := h.1
  intro hp
  have hn : 0 < n := by
    rcases Nat.eq_zero_or_pos n with rfl | h
    · omega
    · exact h
  obtain ⟨g, cap, hv, _, hlt⟩ := h.form hn
  have hA : A = some ⟨g, 0, none⟩ := by injection hv
  subst hA
  refine ⟨g, 0, rfl, hlt, fun i v hv => ?_⟩
  have := h.cells (g := g) rfl i v hv
  rw [Nat.zero_add]
  rw [Addr.add_lit, Nat.zero_add] at this
  exact this
theorem own_down {base base' size n : Nat} {e : TypeId} {v : Value} {xs : List Value} (h : w.ownsRow base e size v n xs) (hb : base' ≤ base) : w.ownsRow base' e size v n xs := by
  refine ⟨h.1, h.2.imp id ?_⟩
  rintro ⟨g, cap, cur, h1, h2, h3⟩
  exact ⟨g, cap, cur, h1, Nat.le_trans hb h2, h3⟩
end

theorem ints_snoc' (l : List Int) (x : Int) : Adj.ints (l ++ [x]) = Adj.ints l ++ [.int .i64 x] := by simp [Adj.ints]
/-- A list of ints in a slice's cells. -/
def IntsAt (w : World) (B : Nat) (A : Option Addr) (l : List Int) : Prop := RowAt w B A (Adj.ints l)
section
variable {w w' : World} {B B' : Nat} {A : Option Addr} {l : List Int}
theorem IntsAt.below (h : IntsAt w B A l) (hb : Below B w w') : IntsAt w' B A l := RowAt.below h hb
theorem IntsAt.up (h : IntsAt w B A l) (hb : B ≤ B') : IntsAt w B' A l := RowAt.up h hb
theorem IntsAt.alloc (h : IntsAt w B A l) (hB : B ≤ w.heap.size) (o : Obj) : IntsAt (w.alloc o) B A l := RowAt.alloc h hB o
theorem IntsAt.spot (h : IntsAt w B A l) (hp : 0 < l.length) : ∃ b off, A = some ⟨b, off, none⟩ ∧ b < B := RowAt.spot h (by rw [Adj.ints_length]; exact hp)
theorem IntsAt.at_ {b off i : Nat} {x : Int} (h : IntsAt w B (some ⟨b, off, none⟩) l) (hx : l[i]? = some x) : w.cell? ⟨b, off + i, none⟩ = some (.int .i64 x) :=
  RowAt.at_ h (by unfold Adj.ints; rw [List.getElem?_map, hx]; rfl)
theorem IntsAt.get {b off i : Nat} (h : IntsAt w B (some ⟨b, off, none⟩) l) (hi : i < l.length) : w.cell? ⟨b, off + i, none⟩ = some (.int .i64 l[i]) := h.at_ (List.getElem?_eq_getElem hi)
theorem IntsAt.of_blk {g : Nat} {t : TypeId} {l : List Int} (h : Blk w g t (Adj.ints l).toArray) : IntsAt w w.heap.size (some ⟨g, 0, none⟩) l := RowAt.of_blk h
theorem IntsAt.nil : IntsAt w B A [] := RowAt.nil
end
end Adj
