/-
  What lies while the program's Reform goes through the new dimensions from behind. No condition.
-/
import Derived.Test.YtkbmnefjnfihbaaViewY
import Derived.Test.YtkbmnefjnfihbaaBackOrd
import Derived.Test.YtkbmnefjnfihbaaStillTailB
namespace Go.Proofs.Ytkbmnefjnfihbaa
set_option linter.unusedVariables false
open Go.RowKit Go.Shelf Adj

namespace Vw
theorem own_block {w w' : World} {base size : Nat} {e : TypeId} {v : Value} {n : Nat} {xs : List Value} (h : w.ownsRow base e size v n xs) (hs : ∀ b, v.ownBlock = some b → w'.heap[b]? = w.heap[b]?) : w'.ownsRow base e size v n xs := by
  refine ⟨h.1, ?_⟩
  rcases h.2 with h2 | ⟨g, cap, cur, h1, h2, hg, h3⟩
  · exact .inl h2
  · exact .inr ⟨g, cap, cur, h1, h2, (hs g (by rw [h1]; rfl)).trans hg, h3⟩
section
variable {NL B N bw bl : Nat} {W0 W W' : World} {st0 : Int} {A1 : Option Addr} {c1 : Nat} {v2 : Value} {xs ys : List Int}
theorem Fs.to (h : Fs B N bw W0 st0 A1 c1 v2 xs ys W) (hb : Below NL W W') (hbw : bw < NL) (hv : ∀ b, v2.ownBlock = some b → b < NL) (hi : IntsAt W NL A1 xs) (hN : N ≤ NL) (hs : NL ≤ W'.heap.size) : Fs B N bw W0 st0 A1 c1 v2 xs ys W' :=
  ⟨h.blk.below hb hbw, (hi.below hb).up hs, h.g1, h.l1, h.l2, own_block h.own2 (fun b e => hb.block b (hv b e)), h.n2, h.below.trans (hb.mono hN), h.low⟩
/-- A store into a block that is neither of the view's three. -/
theorem Fs.far (h : Fs B N bw W0 st0 A1 c1 v2 xs ys W) {g : Nat} (hg : g ≠ bw) (hv : v2.ownBlock ≠ some g) (hA : ∀ b off, A1 = some ⟨b, off, none⟩ → 0 < xs.length → b ≠ g) (hN : N ≤ g) (j : Nat) (x : Value) : Fs B N bw W0 st0 A1 c1 v2 xs ys (W.setCell ⟨g, j, none⟩ x) :=
  ⟨h.blk.far (p := ⟨g, j, none⟩) (Ne.symm hg) x, (h.i1.set hA j x).up (by simp), h.g1, h.l1, h.l2, own_block h.own2 (fun b e => Below.heap_setCell W ⟨g, j, none⟩ x b (fun e2 => hv (by rw [e, e2]))), h.n2, h.below.setCell (p := ⟨g, j, none⟩) hN x, h.low⟩
/-- The numbers that bind the blocks: below C the view's; from C on, below bl, the row of blocks; bl itself. -/
structure Lays (NL C N bw bl : Nat) (A1 : Option Addr) (v2 : Value) (AB : Option Addr) (xs : List Int) : Prop where
  bw_ : bw < C
  v2_ : ∀ b, v2.ownBlock = some b → b < C
  a1_ : ∀ b off, A1 = some ⟨b, off, none⟩ → 0 < xs.length → b < C
  ab_ : ∀ b off, AB = some ⟨b, off, none⟩ → C ≤ b ∧ b < bl
  bl_ : C ≤ bl ∧ bl < NL
  n_ : N ≤ C
/-- The view that is being made, and the blocks that are left. -/
structure RfM (NL B C N bw bl : Nat) (W0 : World) (st0 : Int) (A1 : Option Addr) (c1 : Nat) (v2 : Value) (AB : Option Addr) (cap : Nat) (xs ys : List Int) (st : List (Int × Int)) (W : World) : Prop where
  size : NL ≤ W.heap.size
  i1 : IntsAt W NL A1 xs
  lvar : Blk W bl 63 #[.slice AB st.length cap]
  row : W.ownsRow C 67 2 (.slice AB st.length cap) st.length (bcells st.reverse)
  fs : Fs B N bw W0 st0 A1 c1 v2 xs ys W
variable {C cap : Nat} {AB : Option Addr} {st : List (Int × Int)}
theorem RfM.to (L : Lays NL C N bw bl A1 v2 AB xs) (h : RfM NL B C N bw bl W0 st0 A1 c1 v2 AB cap xs ys st W) (hb : Below NL W W') : RfM NL B C N bw bl W0 st0 A1 c1 v2 AB cap xs ys st W' := by
  have h1 := L.bl_
  have hs : NL ≤ W'.heap.size := Nat.le_trans h.size hb.size
  refine ⟨hs, h.i1.below hb, h.lvar.below hb h1.2, own_block h.row (fun b e => hb.block b ?_), h.fs.to hb (by have := L.bw_; omega) (fun b e => by have := L.v2_ b e; omega) h.i1 (by have := L.n_; omega) hs⟩
  cases AB with
  | none => simp [Value.ownBlock] at e
  | some a =>
    obtain ⟨g, off, sp⟩ := a
    have e' : g = b := by simpa [Value.ownBlock] using e
    subst e'
    rcases h.row.2 with ⟨h2, _⟩ | ⟨g', cap', cur, h2, _⟩
    · cases h2
    · simp only [Value.slice.injEq, Option.some.injEq, Addr.mk.injEq] at h2
      obtain ⟨⟨rfl, rfl, rfl⟩, _, _⟩ := h2
      have := L.ab_ _ _ rfl
      omega
theorem RfM.drew (h : RfM NL B C N bw bl W0 st0 A1 c1 v2 AB cap xs ys st W) : RfM NL B C N bw bl W0 st0 A1 c1 v2 AB cap xs ys st W.drew := ⟨h.size, h.i1, h.lvar, h.row, h.fs.drew⟩
theorem RfM.store {g n cv : Nat} (L : Lays NL C N bw bl A1 (.slice (some ⟨g, 0, none⟩) n cv) AB xs) (h : RfM NL B C N bw bl W0 st0 A1 c1 (.slice (some ⟨g, 0, none⟩) n cv) AB cap xs ys st W) (hn : ys.length = n) (j : Nat) (x : Int) :
    RfM NL B C N bw bl W0 st0 A1 c1 (.slice (some ⟨g, 0, none⟩) n cv) AB cap xs (ys.set j x) st (W.setCell ⟨g, j, none⟩ (.int .i64 x)) := by
  have hg := L.v2_ g rfl
  have hbl := L.bl_
  refine ⟨by simpa using h.size, h.i1.set (fun b off e hp e2 => (h.fs.g1 b off e hp).2.2 (by simp [Value.ownBlock, e2])) j _, h.lvar.far (p := ⟨g, j, none⟩) (by simp; omega) _, own_block h.row (fun b e => Below.heap_setCell W ⟨g, j, none⟩ _ b ?_), h.fs.store2' hn j x⟩
  have := (h.row.lt b e).1
  simp; omega
theorem RfM.top {n s n' s' : Int} {gB mN : Nat} {r : List (Int × Int)} (L : Lays NL C N bw bl A1 v2 (some ⟨gB, 0, none⟩) xs) (h : RfM NL B C N bw bl W0 st0 A1 c1 v2 (some ⟨gB, 0, none⟩) cap xs ys ((n, s) :: r) W) (hm : r.length = mN) :
    RfM NL B C N bw bl W0 st0 A1 c1 v2 (some ⟨gB, 0, none⟩) cap xs ys ((n', s') :: r) ((W.setCell ⟨gB, mN * 2, none⟩ (.int .i64 n')).setCell ⟨gB, mN * 2 + 1, none⟩ (.int .i64 s')) := by
  subst hm
  have hab := L.ab_ _ _ rfl
  have hbl := L.bl_
  have hbw := L.bw_
  have hN := L.n_
  have h1 := h.row.stored (r.length * 2) (.int .i64 n')
  have h2 := h1.1.stored (r.length * 2 + 1) (.int .i64 s')
  rw [List.reverse_cons, bcells_set] at h2
  have hA : ∀ b off, A1 = some ⟨b, off, none⟩ → 0 < xs.length → b ≠ gB := fun b off e hp => by have := L.a1_ b off e hp; omega
  have hv : v2.ownBlock ≠ some gB := fun e => by have := L.v2_ _ e; omega
  refine ⟨by simpa using h.size, (h.i1.set hA _ _).set hA _ _, (h.lvar.far (p := ⟨gB, _, none⟩) (by simp; omega) _).far (p := ⟨gB, _, none⟩) (by simp; omega) _, ?_, (h.fs.far (by omega) hv hA (by omega) _ _).far (by omega) hv hA (by omega) _ _⟩
  rw [List.reverse_cons, List.length_cons]
  exact h2.1
theorem RfM.pop {gB : Nat} {y : Int × Int} {r : List (Int × Int)} (L : Lays NL C N bw bl A1 v2 (some ⟨gB, 0, none⟩) xs) (h : RfM NL B C N bw bl W0 st0 A1 c1 v2 (some ⟨gB, 0, none⟩) cap xs ys (y :: r) W) :
    RfM NL B C N bw bl W0 st0 A1 c1 v2 (some ⟨gB, 0, none⟩) cap xs ys r (W.setCell ⟨bl, 0, none⟩ (.slice (some ⟨gB, 0, none⟩) r.length cap)) := by
  have hab := L.ab_ _ _ rfl
  have hbl := L.bl_
  have hbw := L.bw_
  have hN := L.n_
  have hA : ∀ b off, A1 = some ⟨b, off, none⟩ → 0 < xs.length → b ≠ bl := fun b off e hp => by have := L.a1_ b off e hp; omega
  have hv : v2.ownBlock ≠ some bl := fun e => by have := L.v2_ _ e; omega
  refine ⟨by simpa using h.size, h.i1.set hA _ _, h.lvar.set_ 0 _, ?_, h.fs.far (by omega) hv hA (by omega) _ _⟩
  have hk := own_block (w' := W.setCell ⟨bl, 0, none⟩ (.slice (some ⟨gB, 0, none⟩) r.length cap)) h.row (fun b e => Below.heap_setCell W ⟨bl, 0, none⟩ _ b (by
    have e' : gB = b := by simpa [Value.ownBlock] using e
    simp; omega))
  rw [List.reverse_cons, bcells_append] at hk
  obtain ⟨hl, hf⟩ := hk
  rcases hf with ⟨h2, _⟩ | ⟨g', cap', cur, h2, hb, hg, hnc, hcm, hcs, htk⟩
  · cases h2
  · simp only [Value.slice.injEq, Option.some.injEq, Addr.mk.injEq] at h2
    obtain ⟨⟨rfl, _, _⟩, _, rfl⟩ := h2
    refine ⟨by rw [bcells_length, List.length_reverse], .inr ⟨gB, cap, cur, rfl, hb, hg, by simp at hnc; omega, hcm, hcs, ?_⟩⟩
    have := congrArg (List.take (r.length * 2)) htk
    rw [List.take_take, Nat.min_eq_left (by simp; omega), List.take_append_of_le_length (by rw [bcells_length, List.length_reverse]; exact Nat.le_refl _)] at this
    rw [this, List.take_of_length_le (by rw [bcells_length, List.length_reverse]; exact Nat.le_refl _)]
/-- What lies while Reform goes through the new dimensions. -/
structure RfI (NL B C N bw bl : Nat) (W0 : World) (v : AdjV.V) (A1 : Option Addr) (c1 : Nat) (v2 : Value) (AB : Option Addr) (cap : Nat) (dims : List Int) (pre : List (Spot dims)) (W : World) : Prop where
  len : pre.length ≤ dims.length
  order : pre.map (·.1) = upto (down dims.length) pre.length
  run : ∃ ss st, AdjV.grun (dims.reverse.take pre.length) (AdjV.blocks v) = some (ss, st) ∧ RfM NL B C N bw bl W0 v.st A1 c1 v2 AB cap dims (List.replicate (dims.length - pre.length) 0 ++ ss.reverse) st W
theorem RfI.own {v : AdjV.V} {dims : List Int} (L : Lays NL C N bw bl A1 v2 AB dims) : OwnFrom NL (RfI NL B C N bw bl W0 v A1 c1 v2 AB cap dims) :=
  own_from_below (N := NL) (Nat.le_refl _) (fun s X Y h hb => ⟨h.len, h.order, by obtain ⟨ss, st, h1, h2⟩ := h.run; exact ⟨ss, st, h1, h2.to L hb⟩⟩) (fun s X h => by obtain ⟨ss, st, h1, h2⟩ := h.run; exact h2.size)
end
theorem RfI.next {NL B C N bw bl c1 cap : Nat} {W0 W' : World} {v : AdjV.V} {A1 AB : Option Addr} {v2 : Value} {dims : List Int} {pre : List (Spot dims)} {x : Spot dims} {ss : List Int} {st : List (Int × Int)} (hlt : pre.length < dims.length)
    (ho : (pre ++ [x]).map (·.1) = upto (down dims.length) (pre ++ [x]).length) (hr : AdjV.grun (dims.reverse.take (pre.length + 1)) (AdjV.blocks v) = some (ss, st))
    (hM : RfM NL B C N bw bl W0 v.st A1 c1 v2 AB cap dims (List.replicate (dims.length - (pre.length + 1)) 0 ++ ss.reverse) st W') : RfI NL B C N bw bl W0 v A1 c1 v2 AB cap dims (pre ++ [x]) W' :=
  ⟨by rw [List.length_append, List.length_singleton]; exact hlt, ho, ss, st, by rw [List.length_append, List.length_singleton]; exact hr, by rw [List.length_append, List.length_singleton]; exact hM⟩
theorem keeps_set {Bs b NL : Nat} {W : World} {g j : Nat} {x : Value} (h1 : Bs ≠ g) (h2 : b ≠ g) : Keeps Bs b W (W.setCell ⟨g, j, none⟩ x) := fun p hp =>
  World.cell?_of_block (Below.heap_setCell W ⟨g, j, none⟩ x p.block (by rcases hp with e | e <;> rw [e] <;> assumption))
theorem Keeps.drew {Bs b : Nat} {W W' : World} (h : Keeps Bs b W W') : Keeps Bs b W W'.drew := h
theorem from_set {NL : Nat} (W : World) (p : Addr) (x : Value) : KeepsFrom NL W (W.setCell p x) := (KeepsOthers.setCell _ _ _).from _
theorem from_drew {NL : Nat} (W : World) : KeepsFrom NL W W.drew := (KeepsOthers.drew _).from _
/-- A block has been cut across: what is answered lies where it must. -/
structure RfX (NL : Nat) (w : World) (v : AdjV.V) (dims : List Int) (c : Code) (pre : List (Spot dims)) (W : World) : Prop where
  ret : c = .ret
  no : AdjV.go dims.reverse (AdjV.blocks v) = none
  size : NL ≤ W.heap.size
  view : Blk W (w.heap.size + 1) 34 #[.int .i64 0, .slice none 0 0, .slice none 0 0]
  err : Blk W (w.heap.size + 1 + 1) 23 #[.int .i64 9]
  below : Below w.heap.size w W
theorem RfX.own {NL : Nat} {w : World} {v : AdjV.V} {dims : List Int} {c : Code} (hN : w.heap.size + 1 + 1 < NL) : OwnFrom NL (RfX NL w v dims c) :=
  own_from_below (N := NL) (Nat.le_refl _) (fun s X Y h hb => ⟨h.ret, h.no, Nat.le_trans h.size hb.size, h.view.below hb (by omega), h.err.below hb hN, h.below.trans (hb.mono (by omega))⟩) (fun s X h => h.size)
theorem stopped {NL : Nat} {w W : World} {v : AdjV.V} {dims : List Int} {pre : List (Spot dims)} (hno : AdjV.go dims.reverse (AdjV.blocks v) = none) (hs : NL ≤ W.heap.size) (hv : Blk W (w.heap.size + 1) 34 #[.int .i64 0, .slice none 0 0, .slice none 0 0])
    (he : Blk W (w.heap.size + 1 + 1) 23 #[.int .i64 0]) (hb : Below w.heap.size w W) :
    let W' := (((W.setCell ⟨w.heap.size + 1, 0, none⟩ (.int .i64 0)).setCell ⟨w.heap.size + 1, 1, none⟩ (.slice none 0 0)).setCell ⟨w.heap.size + 1, 2, none⟩ (.slice none 0 0)).setCell ⟨w.heap.size + 1 + 1, 0, none⟩ (.int .i64 9)
    KeepsFrom NL W W' ∧ RfX NL w v dims .ret pre W' := by
  intro W'
  refine ⟨(((from_set _ _ _).trans (from_set _ _ _)).trans (from_set _ _ _)).trans (from_set _ _ _), rfl, hno, by simpa [W'] using hs, ?_, ?_, ?_⟩
  · exact (((hv.set_ 0 _).set_ 1 _).set_ 2 _).far (p := ⟨w.heap.size + 1 + 1, 0, none⟩) (by simp) _
  · exact (((he.far (p := ⟨w.heap.size + 1, 0, none⟩) (by simp) _).far (p := ⟨w.heap.size + 1, 1, none⟩) (by simp) _).far (p := ⟨w.heap.size + 1, 2, none⟩) (by simp) _).set_ 0 _
  · exact (((hb.setCell (p := ⟨w.heap.size + 1, 0, none⟩) (by simp) _).setCell (p := ⟨w.heap.size + 1, 1, none⟩) (by simp) _).setCell (p := ⟨w.heap.size + 1, 2, none⟩) (by simp) _).setCell (p := ⟨w.heap.size + 1 + 1, 0, none⟩) (by simp; omega) _
theorem IntsAt.same {w w' : World} {B B' : Nat} {A : Option Addr} {l : List Int} (h : IntsAt w B A l) (hB : B ≤ B') (hs : ∀ b off, A = some ⟨b, off, none⟩ → 0 < l.length → w'.heap[b]? = w.heap[b]?) : IntsAt w' B' A l := fun hp => by
  obtain ⟨b, off, hA, hlt, hc⟩ := h hp
  exact ⟨b, off, hA, by omega, fun i hi => (World.cell?_of_block (hs b off hA hp)).trans (hc i hi)⟩
/-- The last world of Reform: what was answered is laid, what was put off is taken. -/
structure Last (w w8 : World) (D : Nat) (x y z e : Value) (WF : World) : Prop where
  eq : ((((w8.setCell ⟨w.heap.size + 1, 0, none⟩ x).setCell ⟨w.heap.size + 1, 1, none⟩ y).setCell ⟨w.heap.size + 1, 2, none⟩ z).setCell ⟨w.heap.size + 1 + 1, 0, none⟩ e).putObj D (.deferred none) = WF
theorem Last.same {w w8 WF : World} {D : Nat} {x y z e : Value} (h : Last w w8 D x y z e WF) (b : Nat) (h1 : b ≠ w.heap.size + 1) (h2 : b ≠ w.heap.size + 1 + 1) (h3 : b ≠ D) : WF.heap[b]? = w8.heap[b]? := by
  rw [← h.eq, World.putObj_heap_other h3]
  exact (Below.heap_setCell _ ⟨w.heap.size + 1 + 1, 0, none⟩ e b h2).trans ((Below.heap_setCell _ ⟨w.heap.size + 1, 2, none⟩ z b h1).trans ((Below.heap_setCell _ ⟨w.heap.size + 1, 1, none⟩ y b h1).trans (Below.heap_setCell _ ⟨w.heap.size + 1, 0, none⟩ x b h1)))
theorem Last.size {w w8 WF : World} {D : Nat} {x y z e : Value} (h : Last w w8 D x y z e WF) : WF.heap.size = w8.heap.size := by
  rw [← h.eq]; simp [World.putObj]
theorem Last.cells {w w8 WF : World} {D : Nat} {x y z e a b c d : Value} (h : Last w w8 D x y z e WF) (hv : Blk w8 (w.heap.size + 1) 34 #[a, b, c]) (he : Blk w8 (w.heap.size + 1 + 1) 23 #[d]) (hD : w.heap.size + 1 + 1 < D) :
    Blk WF (w.heap.size + 1) 34 #[x, y, z] ∧ Blk WF (w.heap.size + 1 + 1) 23 #[e] := by
  have h1 := (((hv.set_ 0 x).set_ 1 y).set_ 2 z).far (p := ⟨w.heap.size + 1 + 1, 0, none⟩) (by simp) e
  have h2 := (((he.far (p := ⟨w.heap.size + 1, 0, none⟩) (by simp) x).far (p := ⟨w.heap.size + 1, 1, none⟩) (by simp) y).far (p := ⟨w.heap.size + 1, 2, none⟩) (by simp) z).set_ 0 e
  rw [← h.eq]
  exact ⟨(World.putObj_heap_other (by omega)).trans h1, (World.putObj_heap_other (by omega)).trans h2⟩
theorem Last.below {w w8 WF : World} {D : Nat} {x y z e : Value} (h : Last w w8 D x y z e WF) (hb : Below w.heap.size w w8) (hD : w.heap.size ≤ D) (hD2 : D < w8.heap.size) : Below w.heap.size w WF := by
  rw [← h.eq]
  refine ((((hb.setCell (p := ⟨w.heap.size + 1, 0, none⟩) (by simp) x).setCell (p := ⟨w.heap.size + 1, 1, none⟩) (by simp) y).setCell (p := ⟨w.heap.size + 1, 2, none⟩) (by simp) z).setCell (p := ⟨w.heap.size + 1 + 1, 0, none⟩) (by simp; omega) e).grown (grownBy_putObj' _ D (.deferred none)) (by have := hb.size; simp; omega) (fun k e => by cases e; exact hD)
theorem deferred_still {w w8 : World} {D : Nat} {x y z e : Value} (h : w8.heap[D]? = some (.deferred (some []))) (hD : w.heap.size + 1 + 1 < D) :
    ((((w8.setCell ⟨w.heap.size + 1, 0, none⟩ x).setCell ⟨w.heap.size + 1, 1, none⟩ y).setCell ⟨w.heap.size + 1, 2, none⟩ z).setCell ⟨w.heap.size + 1 + 1, 0, none⟩ e).heap[D]? = some (.deferred (some [])) :=
  (Below.heap_setCell _ ⟨w.heap.size + 1 + 1, 0, none⟩ e D (by simp; omega)).trans ((Below.heap_setCell _ ⟨w.heap.size + 1, 2, none⟩ z D (by simp; omega)).trans ((Below.heap_setCell _ ⟨w.heap.size + 1, 1, none⟩ y D (by simp; omega)).trans ((Below.heap_setCell _ ⟨w.heap.size + 1, 0, none⟩ x D (by simp; omega)).trans h)))
/-- Where a new step is laid. -/
theorem steps_put {n j q : Nat} {ss : List Int} (hs : ss.length = j) (hj : j < n) (hq : q = n - 1 - j) (s : Int) : (List.replicate (n - j) 0 ++ ss.reverse).set q s = List.replicate (n - (j + 1)) 0 ++ (ss ++ [s]).reverse := by
  subst hq
  rw [List.set_append_left _ _ (by rw [List.length_replicate]; omega)]
  rw [show n - j = (n - (j + 1)) + 1 by omega, List.replicate_succ', List.set_append_right _ _ (by rw [List.length_replicate]; omega), List.length_replicate, show n - 1 - j - (n - (j + 1)) = 0 by omega]
  simp
theorem steps_zero {n j : Nat} {ss : List Int} (hj : j < n) : List.replicate (n - j) 0 ++ ss.reverse = List.replicate (n - (j + 1)) (0 : Int) ++ (ss ++ [0]).reverse := by
  rw [show n - j = (n - (j + 1)) + 1 by omega, List.replicate_succ']
  simp
theorem order_next {dims : List Int} {pre : List (Spot dims)} {q : Nat} {hq : q < dims.length} (h : pre.map (·.1) = upto (down dims.length) pre.length) (hR : q = down dims.length pre.length) :
    (pre ++ [(⟨q, hq⟩ : Spot dims)]).map (·.1) = upto (down dims.length) (pre ++ [(⟨q, hq⟩ : Spot dims)]).length := by
  rw [List.map_append, List.map_singleton, h, List.length_append, List.length_singleton, upto_succ, ← hR]
theorem rev_at {dims : List Int} {j q : Nat} (hq : q < dims.length) (h : q = down dims.length j) (hj : j < dims.length) : dims.reverse.take (j + 1) = dims.reverse.take j ++ [dims[q]] := by
  rw [AdjV.take_next dims.reverse j (by rw [List.length_reverse]; exact hj), List.getElem_reverse]
  congr 3
  unfold down at h
  omega
end Vw
end Go.Proofs.Ytkbmnefjnfihbaa
