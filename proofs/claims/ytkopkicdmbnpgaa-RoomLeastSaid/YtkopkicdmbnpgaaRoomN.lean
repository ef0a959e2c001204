/-
  What the reference's Best gathers of those below a node. Conditions: those each theorem names.
-/
import Derived.Test.YtkopkicdmbnpgaaRoomM
import Derived.Test.YtkopkicdmbnpgaaClimbPlain5
namespace Go.Proofs.Ytkopkicdmbnpgaa
set_option linter.unusedVariables false
open Go.RowKit Adj

namespace Rm
theorem own_ne {w : World} {base base' s s' n m : Nat} {e e' : TypeId} {v u : Value} {xs ys : List Value} (h : w.ownsRow base e s v n xs) (h2 : w.ownsRow base' e' s' u m ys) (hne : e ≠ e') : ∀ g, v.ownBlock = some g → u.ownBlock ≠ some g := by
  intro g hg hu
  rcases h.2 with ⟨rfl, _⟩ | ⟨g1, c1, cur1, rfl, _, hh1, _⟩
  · cases hg
  · rcases h2.2 with ⟨rfl, _⟩ | ⟨g2, c2, cur2, rfl, _, hh2, _⟩
    · cases hu
    · have e1 : g1 = g := by simpa [Value.ownBlock] using hg
      have e2 : g2 = g := by simpa [Value.ownBlock] using hu
      subst e1; subst e2
      rw [hh1] at hh2
      injection hh2 with hh2
      injection hh2 with _ ht
      exact hne ht
theorem own_form {w : World} {base n : Nat} {e : TypeId} {v : Value} {xs : List Value} {s : Nat} (h : w.ownsRow base e s v n xs) : ∃ A c, v = .slice A n c := by
  rcases h.2 with ⟨e1, e2⟩ | ⟨g, cap, cur, e1, _⟩
  · exact ⟨none, 0, by rw [e1, e2]⟩
  · exact ⟨_, _, e1⟩
theorem own_base {w : World} {base base' n : Nat} {e : TypeId} {v : Value} {xs : List Value} {s : Nat} (h : w.ownsRow base e s v n xs) (hb : base' ≤ base) : w.ownsRow base' e s v n xs := by
  refine ⟨h.1, h.2.imp id ?_⟩
  rintro ⟨g, cap, cur, rfl, h2, h3⟩
  exact ⟨g, cap, cur, rfl, Nat.le_trans hb h2, h3⟩
def vis (F : Nat → List Int) (x : Int) : List Int := AdjR.visit F x.toNat x.toNat
/-- What has been gathered: orders, peaks, what each is. -/
structure Bt (W : World) (P ws : List Int) (F : Nat → List Int) (sl : List Value) (Do Dp Dw : List Int) (vo vp vw : Value) (wr : World) : Prop where
  bel : Below W.heap.size W wr
  op : wr.ownsRow W.heap.size 22 1 vo Do.length sl
  each : ∀ (j : Nat) (x : Int), Do[j]? = some x → ∃ v, sl[j]? = some v ∧ wr.ownsRow W.heap.size 3 1 v (vis F x).length (Adj.ints (vis F x)) ∧ (∀ g, v.ownBlock = some g → vp.ownBlock ≠ some g) ∧ (∀ g, v.ownBlock = some g → vw.ownBlock ≠ some g)
  pp : wr.ownsRow W.heap.size 3 1 vp Dp.length (Adj.ints (Dp.map fun x => P.getD x.toNat 0))
  ww : wr.ownsRow W.heap.size 3 1 vw Dw.length (Adj.ints (Dw.map fun x => ws.getD x.toNat 0))
  sep : ∀ g, vp.ownBlock = some g → vw.ownBlock ≠ some g
section
variable {W wr wr' : World} {P ws : List Int} {F : Nat → List Int} {sl : List Value} {Do Dp Dw : List Int} {vo vp vw v v' : Value} {x : Int}
theorem Bt.start : Bt W P ws F [] [] [] [] (.slice none 0 0) (.slice none 0 0) (.slice none 0 0) W :=
  ⟨Below.refl _ _, ⟨rfl, .inl ⟨rfl, rfl⟩⟩, fun j x h => by simp at h, ⟨rfl, .inl ⟨rfl, rfl⟩⟩, ⟨rfl, .inl ⟨rfl, rfl⟩⟩, fun g h => by cases h⟩
theorem Bt.keep (h : Bt W P ws F sl Do Dp Dw vo vp vw wr) (hb : Below W.heap.size W wr') (hk : ∀ g, g < wr.heap.size → wr'.heap[g]? = wr.heap[g]?) : Bt W P ws F sl Do Dp Dw vo vp vw wr' := by
  refine ⟨hb, own_keep h.op (fun g hg => hk g (h.op.lt g hg).2), fun j x hx => ?_, own_keep h.pp (fun g hg => hk g (h.pp.lt g hg).2), own_keep h.ww (fun g hg => hk g (h.ww.lt g hg).2), h.sep⟩
  obtain ⟨v, h1, h2, h3⟩ := h.each j x hx
  exact ⟨v, h1, own_keep h2 (fun g hg => hk g (h2.lt g hg).2), h3⟩
theorem Bt.below (h : Bt W P ws F sl Do Dp Dw vo vp vw wr) (hb : Below wr.heap.size wr wr') : Bt W P ws F sl Do Dp Dw vo vp vw wr' := h.keep (h.bel.trans (hb.mono h.bel.size)) (fun g hg => hb.block g hg)
theorem Bt.alloc (h : Bt W P ws F sl Do Dp Dw vo vp vw wr) (o : Obj) : Bt W P ws F sl Do Dp Dw vo vp vw (wr.alloc o) := h.keep (h.bel.alloc h.bel.size o) (fun g hg => Below.heap_alloc wr o g hg)
/-- An order more. -/
theorem Bt.push_o (h : Bt W P ws F sl Do Dp Dw vo vp vw wr) (hv : wr.ownsRow W.heap.size 3 1 v (vis F x).length (Adj.ints (vis F x))) (h1 : ∀ g, v.ownBlock = some g → vp.ownBlock ≠ some g) (h2 : ∀ g, v.ownBlock = some g → vw.ownBlock ≠ some g)
    (ho : wr'.ownsRow W.heap.size 22 1 v' (Do.length + 1) (sl ++ [v])) (hg : wr.grownBy wr' vo.ownBlock) : Bt W P ws F (sl ++ [v]) (Do ++ [x]) Dp Dw v' vp vw wr' := by
  have far : ∀ {u : Value} {n : Nat} {xs : List Value}, wr.ownsRow W.heap.size 3 1 u n xs → wr'.ownsRow W.heap.size 3 1 u n xs := fun {u} {n} {xs} hu => own_keep hu (fun g hgu => hg.block g (hu.lt g hgu).2 (fun e => own_ne hu h.op (by decide) g hgu e.symm))
  refine ⟨h.bel.grown hg h.bel.size (fun k hk => (h.op.lt k hk).1), by rw [List.length_append]; exact ho, fun j y hy => ?_, far h.pp, far h.ww, h.sep⟩
  have hsl : sl.length = Do.length := by have := h.op.1; omega
  by_cases e : j < Do.length
  · rw [List.getElem?_append_left e] at hy
    obtain ⟨u, u1, u2, u3⟩ := h.each j y hy
    exact ⟨u, by rw [List.getElem?_append_left (by omega)]; exact u1, far u2, u3⟩
  · have hj : j = Do.length := by
      have := (List.getElem?_eq_some_iff.1 hy).1
      rw [List.length_append, List.length_singleton] at this; omega
    subst hj
    rw [List.getElem?_append_right (Nat.le_refl _)] at hy
    have : x = y := by simpa using hy
    subst this
    exact ⟨v, by rw [← hsl, List.getElem?_append_right (Nat.le_refl _)]; simp, far hv, h1, h2⟩
/-- A peak more. -/
theorem Bt.push_p (h : Bt W P ws F sl Do Dp Dw vo vp vw wr) (ho : wr'.ownsRow W.heap.size 3 1 v' (Dp.length + 1) (Adj.ints (Dp.map fun x => P.getD x.toNat 0) ++ [.int .i64 (P.getD x.toNat 0)])) (hg : wr.grownBy wr' vp.ownBlock)
    (hnew : v'.ownBlock = vp.ownBlock ∨ v'.ownBlock = some wr.heap.size) : Bt W P ws F sl Do (Dp ++ [x]) Dw vo v' vw wr' := by
  have far : ∀ {u : Value} {e : TypeId} {n : Nat} {xs : List Value}, wr.ownsRow W.heap.size e 1 u n xs → (∀ g, u.ownBlock = some g → vp.ownBlock ≠ some g) → wr'.ownsRow W.heap.size e 1 u n xs := fun {u} {e} {n} {xs} hu hne => own_keep hu (fun g hgu => hg.block g (hu.lt g hgu).2 (fun e => hne g hgu e.symm))
  have nw : ∀ {u : Value} {e : TypeId} {n : Nat} {xs : List Value}, wr.ownsRow W.heap.size e 1 u n xs → (∀ g, u.ownBlock = some g → vp.ownBlock ≠ some g) → ∀ g, u.ownBlock = some g → v'.ownBlock ≠ some g := fun {u} {e} {n} {xs} hu hne g hgu hgv => by
    rcases hnew with e | e
    · exact hne g hgu (e.symm.trans hgv)
    · have := (hu.lt g hgu).2
      rw [hgv] at e; injection e with e; omega
  have hws : ∀ g, vw.ownBlock = some g → vp.ownBlock ≠ some g := fun g h1 h2 => h.sep g h2 h1
  refine ⟨h.bel.grown hg h.bel.size (fun k hk => (h.pp.lt k hk).1), far h.op (own_ne h.op h.pp (by decide)), fun j y hy => ?_, by rw [List.length_append, List.map_append]; simpa [Adj.ints] using ho, far h.ww hws, fun g h1 h2 => nw h.ww hws g h2 h1⟩
  obtain ⟨u, u1, u2, u3, u4⟩ := h.each j y hy
  exact ⟨u, u1, far u2 u3, nw u2 u3, u4⟩
/-- What it is, once more. -/
theorem Bt.push_w (h : Bt W P ws F sl Do Dp Dw vo vp vw wr) (ho : wr'.ownsRow W.heap.size 3 1 v' (Dw.length + 1) (Adj.ints (Dw.map fun x => ws.getD x.toNat 0) ++ [.int .i64 (ws.getD x.toNat 0)])) (hg : wr.grownBy wr' vw.ownBlock)
    (hnew : v'.ownBlock = vw.ownBlock ∨ v'.ownBlock = some wr.heap.size) : Bt W P ws F sl Do Dp (Dw ++ [x]) vo vp v' wr' := by
  have far : ∀ {u : Value} {e : TypeId} {n : Nat} {xs : List Value}, wr.ownsRow W.heap.size e 1 u n xs → (∀ g, u.ownBlock = some g → vw.ownBlock ≠ some g) → wr'.ownsRow W.heap.size e 1 u n xs := fun {u} {e} {n} {xs} hu hne => own_keep hu (fun g hgu => hg.block g (hu.lt g hgu).2 (fun e => hne g hgu e.symm))
  have nw : ∀ {u : Value} {e : TypeId} {n : Nat} {xs : List Value}, wr.ownsRow W.heap.size e 1 u n xs → (∀ g, u.ownBlock = some g → vw.ownBlock ≠ some g) → ∀ g, u.ownBlock = some g → v'.ownBlock ≠ some g := fun {u} {e} {n} {xs} hu hne g hgu hgv => by
    rcases hnew with e | e
    · exact hne g hgu (e.symm.trans hgv)
    · have := (hu.lt g hgu).2
      rw [hgv] at e; injection e with e; omega
  refine ⟨h.bel.grown hg h.bel.size (fun k hk => (h.ww.lt k hk).1), far h.op (own_ne h.op h.ww (by decide)), fun j y hy => ?_, far h.pp h.sep, by rw [List.length_append, List.map_append]; simpa [Adj.ints] using ho, nw h.pp h.sep⟩
  obtain ⟨u, u1, u2, u3, u4⟩ := h.each j y hy
  exact ⟨u, u1, far u2 u4, u3, nw u2 u4⟩
theorem ints_map (D : List Int) (f : Int → Int) {j : Nat} (hj : j < D.length) : (Adj.ints (D.map f))[j]? = some (.int .i64 (f D[j])) := by
  unfold Adj.ints; simp [hj]
theorem own_cell {w : World} {base n : Nat} {e : TypeId} {xs : List Value} {A : Option Addr} {c j : Nat} {u : Value} (h : w.ownsRow base e 1 (.slice A n c) n xs) (hu : xs[j]? = some u) : ∃ g, A = some ⟨g, 0, none⟩ ∧ w.cell? ⟨g, j, none⟩ = some u := by
  have hn : 0 < n := by
    have := (List.getElem?_eq_some_iff.1 hu).1
    have := h.1
    omega
  obtain ⟨g, cap, hv, _, hlt⟩ := h.form hn
  have hA : A = some ⟨g, 0, none⟩ := by injection hv
  subst hA
  refine ⟨g, rfl, ?_⟩
  have h2 := h.cells (g := g) rfl j u hu
  unfold Addr.add at h2
  split at h2
  · rename_i e; subst e; exact h2
  · simpa using h2
end
end Rm
end Go.Proofs.Ytkopkicdmbnpgaa
