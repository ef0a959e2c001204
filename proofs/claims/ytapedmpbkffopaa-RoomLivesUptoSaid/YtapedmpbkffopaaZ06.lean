/-
  The walk of the program's Flip; Cut and Spread, in plain Lean. Conditions: where the theorems name them.
-/
import Derived.Test.YtapedmpbkffopaaZ02
import Derived.Test.YtapedmpbkffopaaZ04
import Derived.Test.YtapedmpbkffopaaZ05
import Derived.Deep.DeepCutAuto
section
namespace Go.Proofs.Ytapedmpbkffopaa
set_option linter.unusedVariables false
open Go.RowKit Adj
attribute [local go_sem ↓] Go.wp_at_zero Go.wp_at_succ
namespace Vw
structure Fl (N bw : Nat) (W0 : World) (st : Int) (v1 v2 : Value) (xs ys : List Int) (W : World) : Prop where
 blk : Blk W bw 68 #[.int .i64 st, v1, v2]
 own1 : W.ownsRow N 3 1 v1 xs.length (ints xs)
 own2 : W.ownsRow N 3 1 v2 ys.length (ints ys)
 n1 : v1.ownBlock ≠ some bw
 n2 : v2.ownBlock ≠ some bw
 apart : ∀ b, v1.ownBlock = some b → v2.ownBlock = some b → False
 below : Below N W0 W
 low : N ≤ bw
theorem Fl.drew {N bw : Nat} {W0 W : World} {st : Int} {v1 v2 : Value} {xs ys : List Int} (h : Fl N bw W0 st v1 v2 xs ys W) : Fl N bw W0 st v1 v2 xs ys W.drew :=
 ⟨h.blk.drew, h.own1.drew, h.own2.drew, h.n1, h.n2, h.apart, h.below.drew, h.low⟩
theorem Fl.set0 {N bw : Nat} {W0 W : World} {st : Int} {v1 v2 : Value} {xs ys : List Int} (h : Fl N bw W0 st v1 v2 xs ys W) (x : Int) : Fl N bw W0 x v1 v2 xs ys (W.setCell ⟨bw, 0, none⟩ (.int .i64 x)) :=
 ⟨h.blk.set_ 0 _, h.own1.kept (grownBy_set W bw 0 _) (.inr h.n1), h.own2.kept (grownBy_set W bw 0 _) (.inr h.n2), h.n1, h.n2, h.apart, h.below.setCell (p := ⟨bw, 0, none⟩) h.low _, h.low⟩
theorem Fl.store2 {N bw g cap : Nat} {W0 W : World} {st : Int} {v1 : Value} {xs ys : List Int} (h : Fl N bw W0 st v1 (.slice (some ⟨g, 0, none⟩) ys.length cap) xs ys W) (j : Nat) (x : Int) :
    Fl N bw W0 st v1 (.slice (some ⟨g, 0, none⟩) (ys.set j x).length cap) xs (ys.set j x) (W.setCell ⟨g, j, none⟩ (.int .i64 x)) := by
 have hs := h.own2.stored j (.int .i64 x)
 have hg : g ≠ bw := fun e => h.n2 (by simp [Value.ownBlock, e])
 have hlt := h.own2.lt g rfl
 rw [List.length_set]
 refine ⟨h.blk.far (p := ⟨g, j, none⟩) (Ne.symm hg) _, h.own1.kept hs.2 ?_, ?_, h.n1, h.n2, h.apart, h.below.setCell (p := ⟨g, j, none⟩) hlt.1 _, h.low⟩
 ·cases hv : v1.ownBlock with
  | none => exact .inl rfl
  | some b => exact .inr fun e => h.apart b hv (by cases e; rfl)
 ·rw [List.length_set]
  have : ints (ys.set j x) = (ints ys).set j (.int .i64 x) := by unfold ints; rw [List.map_set]
  rw [this]
  exact hs.1
theorem Fl.laid {N bw : Nat} {W0 W : World} {st : Int} {v1 v2 : Value} {xs ys : List Int} {cs : Array Value} (hb : Blk W bw 68 cs) (hcs : cs.size = 3)
    (o1 : W.ownsRow N 3 1 v1 xs.length (ints xs)) (o2 : W.ownsRow N 3 1 v2 ys.length (ints ys)) (n1 : v1.ownBlock ≠ some bw) (n2 : v2.ownBlock ≠ some bw) (ap : ∀ b, v1.ownBlock = some b → v2.ownBlock = some b → False)
    (hbel : Below N W0 W) (low : N ≤ bw) : Fl N bw W0 st v1 v2 xs ys (((W.setCell ⟨bw, 0, none⟩ (.int .i64 st)).setCell ⟨bw, 1, none⟩ v1).setCell ⟨bw, 2, none⟩ v2) := by
 have hb3 := ((hb.set_ 0 (.int .i64 st)).set_ 1 v1).set_ 2 v2
 have hc : ((cs.setIfInBounds 0 (.int .i64 st)).setIfInBounds 1 v1).setIfInBounds 2 v2 = #[.int .i64 st, v1, v2] := by
  apply Array.ext
  ·simp [hcs]
  ·intro i h1 h2
   have : i = 0 ∨ i = 1 ∨ i = 2 := by simp at h2; omega
   rcases this with rfl | rfl | rfl <;> simp [hcs]
 rw [hc] at hb3
 have k : ∀ {v : Value} {l : List Int}, W.ownsRow N 3 1 v l.length (ints l) → v.ownBlock ≠ some bw → (((W.setCell ⟨bw, 0, none⟩ (.int .i64 st)).setCell ⟨bw, 1, none⟩ v1).setCell ⟨bw, 2, none⟩ v2).ownsRow N 3 1 v l.length (ints l) :=
  fun h hn => ((h.kept (grownBy_set _ bw 0 _) (.inr hn)).kept (grownBy_set _ bw 1 _) (.inr hn)).kept (grownBy_set _ bw 2 _) (.inr hn)
 exact ⟨hb3, k o1 n1, k o2 n2, n1, n2, ap, three hbel low _ _ _, low⟩
theorem Fl.fresh {N : Nat} {W0 W : World} {st : Int} {v1 v2 : Value} {xs ys : List Int}
    (o1 : W.ownsRow N 3 1 v1 xs.length (ints xs)) (o2 : W.ownsRow N 3 1 v2 ys.length (ints ys)) (ap : ∀ b, v1.ownBlock = some b → v2.ownBlock = some b → False)
    (hbel : Below N W0 W) (low : N ≤ W.heap.size) : Fl N W.heap.size W0 st v1 v2 xs ys (W.alloc (.cells #[.int .i64 st, v1, v2] 68)) :=
 ⟨Blk.new W _ _, o1.alloc _, o2.alloc _, fun e => by have := (o1.lt _ e).2; omega, fun e => by have := (o2.lt _ e).2; omega, ap, hbel.alloc low _, low⟩
theorem own_lt_ne {w : World} {base : Nat} {e : TypeId} {v : Value} {n : Nat} {xs : List Value} (h : w.ownsRow base e 1 v n xs) {b : Nat} (hb : w.heap.size ≤ b) : v.ownBlock ≠ some b := fun e => by
 have := (h.lt b e).2
 omega
theorem own_apart {w w' : World} {base base' : Nat} {e : TypeId} {v v' : Value} {n n' : Nat} {xs xs' : List Value} (h : w.ownsRow base e 1 v n xs) (h' : w'.ownsRow base' e 1 v' n' xs') (hb : w.heap.size ≤ base') : ∀ b, v.ownBlock = some b → v'.ownBlock = some b → False := fun b e1 e2 => by
 have := (h.lt b e1).2
 have := (h'.lt b e2).1
 omega
theorem view_set3 {w : World} {B B' : Nat} {st : Int} {A A' : Option Addr} {n n' c c2 : Nat} {v : AdjV.V} {val : Value} (h : ViewAt w B val v) (hval : val = .agg #[.int .i64 st, .slice A n c, .slice A' n' c2]) {cc : Nat}
    (g1 : ∀ b off, A = some ⟨b, off, none⟩ → 0 < v.dims.length → b ≠ cc) (g2 : ∀ b off, A' = some ⟨b, off, none⟩ → 0 < v.steps.length → b ≠ cc) (hB : B ≤ B') (x y z : Value) :
    ViewAt (((w.setCell ⟨cc, 0, none⟩ x).setCell ⟨cc, 1, none⟩ y).setCell ⟨cc, 2, none⟩ z) B' val v := by
 obtain ⟨D, dn, D', dn', hv, h1, h2, h3⟩ := h
 subst hval
 simp only [Value.agg.injEq, Array.mk.injEq, List.cons.injEq, Value.slice.injEq, and_true] at hv
 obtain ⟨e0, ⟨rfl, e1, e2⟩, rfl, e3, e4⟩ := hv
 refine ⟨A, dn, A', dn', ?_, (h1.set3 g1 x y z).up hB, (h2.set3 g2 x y z).up hB, h3⟩
 subst e1 e2 e3 e4
 rw [e0]
theorem Fl.view {N bw : Nat} {W0 W : World} {st : Int} {v1 v2 : Value} {xs ys : List Int} (h : Fl N bw W0 st v1 v2 xs ys W) :
    ∃ A1 n1 A2 n2, v1 = .slice A1 xs.length n1 ∧ v2 = .slice A2 ys.length n2 ∧ ViewAt W W.heap.size (.agg #[.int .i64 st, .slice A1 xs.length n1, .slice A2 ys.length n2]) ⟨st, xs, ys⟩ ∧
     (∀ b off, A1 = some ⟨b, off, none⟩ → 0 < xs.length → N ≤ b) ∧ ∀ b off, A2 = some ⟨b, off, none⟩ → 0 < ys.length → N ≤ b := by
 obtain ⟨A1, n1, hv1, ia1, la1, ma1, ga1⟩ := own_view h.own1
 obtain ⟨A2, n2, hv2, ia2, la2, ma2, ga2⟩ := own_view h.own2
 exact ⟨A1, n1, A2, n2, hv1, hv2, ⟨A1, n1, A2, n2, rfl, ia1, ia2, la1, ma1, la2, ma2⟩, ga1, ga2⟩
end Vw
set_option maxRecDepth 100000 in
set_option maxHeartbeats 8000000 in
theorem Flip_any (val : Value) (v : AdjV.V) (P : Option Addr) (cp : Nat) (p : List Int) (B : Nat) (w : World) (hB : B ≤ w.heap.size) (h : Vw.ViewAt w B val v) (hp : Vw.IntsAt w B P p) (hp1 : p.length ≤ cp) (hp2 : cp ≤ 9223372036854775807) :
    Calls Try.prog 62 #[val, .slice P p.length cp] w fun e w' => Vw.ViewOut 0 w w' (AdjV.flip v p) e ∧ Below w.heap.size w w' := by
 have HW := Lib.hid (fun (W : World) (hb : Below w.heap.size w W) => Wrong_any val v B W (Nat.le_trans hB hb.size) (h.below (hb.mono hB)))
 have HP := Lib.hid hp
 obtain ⟨A, c, A', c', rfl, hd, hs, c1, c2, c3, c4⟩ := h
 have HD := Lib.hid hd
 have HS := Lib.hid hs
 have HB := Lib.hid ((((Below.refl w.heap.size w).alloc (Nat.le_refl _) (.cells #[.int .i64 v.st, .slice A v.dims.length c, .slice A' v.steps.length c'] 68))).alloc (by simp) (.cells #[.int .i64 0, .slice none 0 0, .slice none 0 0] 68))
 clear hd hs hp
 by_cases h0 : AdjV.wrong v = 0
 ·have H0 := Lib.hid h0
  obtain ⟨z1, z2, z3, z4⟩ := AdjV.wrong_fine h0
  have hn6 : v.dims.length ≤ 6 := (AdjV.size_fine z1).1
  have HLS := Lib.hid z2
  clear h0 z1 z2 z4
  by_cases hri : AdjV.riseB v.dims.length p = true
  ·have HRI := Lib.hid hri
   clear hri
   go_enter Try.func62, Try.ntmps62
   go_wp2_with fail
   refine (HW.out _ HB.out).mono ?_
   rintro e w1 ⟨rfl, hb1⟩
   rw [H0.out]
   have hx := ((Blk.new w 68 #[.int .i64 v.st, .slice A v.dims.length c, .slice A' v.steps.length c']).alloc (.cells #[.int .i64 0, .slice none 0 0, .slice none 0 0] 68)).below hb1 (by simp; omega)
   have hr := (Vw.blk2 w (.cells #[.int .i64 v.st, .slice A v.dims.length c, .slice A' v.steps.length c'] 68) 68 #[.int .i64 0, .slice none 0 0, .slice none 0 0]).below hb1 (by simp)
   have HX := Lib.hid hx
   have HR := Lib.hid hr
   have HB1 := Lib.hid (HB.out.trans (hb1.mono HB.out.size))
   have hz : w.heap.size + 1 < w1.heap.size := by have := hb1.size; simp at this; omega
   have x1 : w1.cell? ⟨w.heap.size, 1, none⟩ = some (.slice A v.dims.length c) := hx.cell 1
   have x2 : w1.cell? ⟨w.heap.size, 2, none⟩ = some (.slice A' v.steps.length c') := hx.cell 2
   have x0 : w1.cell? ⟨w.heap.size, 0, none⟩ = some (.int .i64 v.st) := hx.cell 0
   have HRC := Lib.hid (rising_any P cp p v.dims.length B w1 (by omega) (by omega) (HP.out.below (HB1.out.mono hB)))
   have HC1 := Lib.hid (fun (W : World) (hb : Below w1.heap.size w1 W) => Clone_any A c v.dims B W (by omega) (HD.out.below ((HB1.out.trans (hb.mono HB1.out.size)).mono hB)) (by have := hb.size; omega))
   have HC2 := Lib.hid (fun (W : World) (hb : Below w1.heap.size w1 W) => Clone_any A' c' v.steps B W (by have := HLS.out; omega) (HS.out.below ((HB1.out.trans (hb.mono HB1.out.size)).mono hB)) (by have := hb.size; omega))
   clear hb1 hx hr
   go_wp2_with fail
   refine HRC.out.mono ?_
   rintro e w2 ⟨rfl, rfl⟩
   rw [HRI.out]
   go_wp2_with fail
   go_cut [7] (fun s7 wx => ∃ (bw : Nat) (v1 v2 : Value), s7 = .pointer (some ⟨bw, 0, none⟩) ∧ Vw.Fl w1.heap.size bw w1 v.st v1 v2 v.dims v.steps wx)
   case first =>
    refine wp_region_T (fun w' => w'.cell? ⟨w.heap.size, 0, none⟩ = some (.int .i64 v.st) ∧ w'.cell? ⟨w.heap.size, 1, none⟩ = some (.slice A v.dims.length c) ∧ w'.cell? ⟨w.heap.size, 2, none⟩ = some (.slice A' v.steps.length c')) 10 (fun _ => True) 10 11 rfl (by kernel_rfl) ⟨⟨x0, x1, x2⟩, trivial⟩ (fun hHeld => ?_)
    simp only [List.replicate_succ, List.replicate_zero]
    refine tk (v := ?_) [] 0 23 hHeld ?_ ?_; rotate_left; (intro w h; (try dsimp only at h); go_simp; try with_reducible rfl); try simp only [Act.put, zA, zB, zC]
    refine tk (v := ?_) [] 1 24 hHeld ?_ ?_; rotate_left; (intro w h; (try dsimp only at h); go_simp; try with_reducible rfl); try simp only [Act.put, zA, zB, zC]
    refine tk (v := ?_) [] 2 25 hHeld ?_ ?_; rotate_left; (intro w h; (try dsimp only at h); go_simp; try with_reducible rfl); try simp only [Act.put, zA, zB, zC]
    refine tk (v := ?_) [] 3 26 hHeld ?_ ?_; rotate_left; (intro w h; (try dsimp only at h); go_simp; try with_reducible rfl); try simp only [Act.put, zA, zB, zC]
    refine tk (v := ?_) [] 5 28 hHeld ?_ ?_; rotate_left; (intro w h; (try dsimp only at h); go_simp; try with_reducible rfl); try simp only [Act.put, zA, zB, zC]
    refine tk (v := ?_) [] 6 29 hHeld ?_ ?_; rotate_left; (intro w h; (try dsimp only at h); go_simp; try with_reducible rfl); try simp only [Act.put, zA, zB, zC]
    refine wpT_two 4 9 (by kernel_rfl) (stepT_early rfl rfl (fun K hK => ?_)) (stepT_early rfl rfl (fun K hK => ?_))
    ·go_simp
     refine (HC1.out _ (Below.refl w1.heap.size w1).drew).mono ?_
     rintro e W3 ⟨va, rfl, ho3, hb3⟩
     obtain ⟨G3, m3, rfl, hm3⟩ := Vw.own_any ho3
     have hs3 := hb3.size
     have hl3 := ho3
     try go_simp
     refine hK.out _ _ ?_ (fun hHeld2 => ?_)
     ·exact ⟨⟨(hb3.cell (p := ⟨w.heap.size, 0, none⟩) (by simp <;> omega)).trans hHeld.1.1, (hb3.cell (p := ⟨w.heap.size, 1, none⟩) (by simp <;> omega)).trans hHeld.1.2.1, (hb3.cell (p := ⟨w.heap.size, 2, none⟩) (by simp <;> omega)).trans hHeld.1.2.2⟩, trivial⟩
     have BW3 := Lib.hid (Below.trans (Below.refl w1.heap.size w1).drew (hb3.mono (Below.refl w1.heap.size w1).drew.size))
     have hz3 : w1.heap.size ≤ W3.heap.size := BW3.out.size
     clear hK K hHeld
     have hHeld := hHeld2
     clear hHeld2
     try simp only [zA, zB, zC]
     refine wpT_two 7 9 (by kernel_rfl) (stepT_early rfl rfl (fun K hK => ?_)) (stepT_early rfl rfl (fun K hK => ?_))
     ·go_simp
      refine (HC2.out _ BW3.out).mono ?_
      rintro e W4 ⟨vb, rfl, ho4, hb4⟩
      obtain ⟨G4, m4, rfl, hm4⟩ := Vw.own_any ho4
      have hs4 := hb4.size
      have hl4 := ho4
      try go_simp
      refine hK.out _ _ ?_ (fun hHeld2 => ?_)
      ·exact ⟨⟨(hb4.cell (p := ⟨w.heap.size, 0, none⟩) (by simp <;> omega)).trans hHeld.1.1, (hb4.cell (p := ⟨w.heap.size, 1, none⟩) (by simp <;> omega)).trans hHeld.1.2.1, (hb4.cell (p := ⟨w.heap.size, 2, none⟩) (by simp <;> omega)).trans hHeld.1.2.2⟩, trivial⟩
      have BW4 := Lib.hid (Below.trans BW3.out (hb4.mono BW3.out.size))
      have hz4 : w1.heap.size ≤ W4.heap.size := BW4.out.size
      clear hK K hHeld
      have hHeld := hHeld2
      clear hHeld2
      try simp only [zA, zB, zC]
      refine tp (v := ?_) 8 31 ⟨fun _ => hHeld.1, fun _ => hHeld.2⟩ ?_ ?_; rotate_left; (intro w; go_simp; try with_reducible rfl); try simp only [Act.put, zA, zB, zC]
      refine wpT_one 9 (by kernel_rfl) (stepT_early rfl rfl (fun K hK => ?_))
      go_simp
      refine hK.out _ _ ?_ (fun hHeld2 => ?_)
      ·exact ⟨⟨by go_keep, by go_keep, by go_keep⟩, trivial⟩
      clear hK K hHeld
      have hHeld := hHeld2
      clear hHeld2
      try simp only [zA, zB, zC]
      refine wpT_tail [_] 10 [] rfl (by kernel_rfl) ?_
      have HF := Lib.hid (Vw.Fl.fresh (st := v.st) (Vw.own_base (Vw.own_kept ho3 hb4) (by simp)) (Vw.own_base ho4 hz3) (Vw.own_apart ho3 ho4 (Nat.le_refl _)) BW4.out hz4)
      clear ho3 hl3 ho4 hl4 hb3 hb4 hHeld
      go_wp2_with fail
      go_meet
      exact ⟨_, _, _, rfl, HF.out⟩
     ·go_simp
      refine hK.out _ _ ?_ (fun hHeld2 => ?_)
      ·exact ⟨⟨by go_keep, by go_keep, by go_keep⟩, trivial⟩
      clear hK K hHeld
      have hHeld := hHeld2
      clear hHeld2
      try simp only [zA, zB, zC]
      refine wpT_one 7 (by kernel_rfl) (stepT_early rfl rfl (fun K hK => ?_))
      go_simp
      refine (HC2.out _ (BW3.out.alloc hz3 (.cells #[.int .i64 0, .slice none 0 0, .slice none 0 0] 68))).mono ?_
      rintro e W4 ⟨vb, rfl, ho4, hb4⟩
      obtain ⟨G4, m4, rfl, hm4⟩ := Vw.own_any ho4
      have hs4 := hb4.size
      have hl4 := ho4
      try go_simp
      refine hK.out _ _ ?_ (fun hHeld2 => ?_)
      ·exact ⟨⟨(hb4.cell (p := ⟨w.heap.size, 0, none⟩) (by simp <;> omega)).trans hHeld.1.1, (hb4.cell (p := ⟨w.heap.size, 1, none⟩) (by simp <;> omega)).trans hHeld.1.2.1, (hb4.cell (p := ⟨w.heap.size, 2, none⟩) (by simp <;> omega)).trans hHeld.1.2.2⟩, trivial⟩
      have BW4 := Lib.hid (Below.trans (BW3.out.alloc hz3 (.cells #[.int .i64 0, .slice none 0 0, .slice none 0 0] 68)) (hb4.mono (BW3.out.alloc hz3 (.cells #[.int .i64 0, .slice none 0 0, .slice none 0 0] 68)).size))
      have hz4 : w1.heap.size ≤ W4.heap.size := BW4.out.size
      clear hK K hHeld
      have hHeld := hHeld2
      clear hHeld2
      try simp only [zA, zB, zC]
      refine tp (v := ?_) 8 31 ⟨fun _ => hHeld.1, fun _ => hHeld.2⟩ ?_ ?_; rotate_left; (intro w; go_simp; try with_reducible rfl); try simp only [Act.put, zA, zB, zC]
      refine wpT_tail [_] 10 [] rfl (by kernel_rfl) ?_
      have HBK := Lib.hid ((Blk.new W3 68 #[.int .i64 0, .slice none 0 0, .slice none 0 0]).below hb4 (by simp))
      have q0 : W4.cell? ⟨W3.heap.size, 0, none⟩ = some (.int .i64 0) := HBK.out.cell 0
      have q1 : W4.cell? ⟨W3.heap.size, 1, none⟩ = some (.slice none 0 0) := HBK.out.cell 1
      have q2 : W4.cell? ⟨W3.heap.size, 2, none⟩ = some (.slice none 0 0) := HBK.out.cell 2
      have fq0 := HBK.out.frozen 0
      have fq1 := HBK.out.frozen 1
      have fq2 := HBK.out.frozen 2
      have hblt : W3.heap.size < W4.heap.size := HBK.out.lt
      have HF := Lib.hid (Vw.Fl.laid (st := v.st) HBK.out rfl (Vw.own_base (Vw.own_kept (ho3.alloc _) hb4) (by first | omega | (simp <;> omega))) (Vw.own_base ho4 (by first | omega | (simp <;> omega))) (Vw.own_lt_ne ho3 (Nat.le_refl _)) (Vw.own_ne ho4 (by simp)) (Vw.own_apart ho3 ho4 (by first | omega | (simp <;> omega))) BW4.out hz3)
      clear ho3 hl3 ho4 hl4 hb3 hb4 hHeld
      go_wp2_with fail
      go_meet
      exact ⟨_, _, _, rfl, HF.out⟩
    ·go_simp
     refine hK.out _ _ ?_ (fun hHeld2 => ?_)
     ·exact ⟨⟨by go_keep, by go_keep, by go_keep⟩, trivial⟩
     clear hK K hHeld
     have hHeld := hHeld2
     clear hHeld2
     try simp only [zA, zB, zC]
     refine wpT_one 4 (by kernel_rfl) (stepT_early rfl rfl (fun K hK => ?_))
     go_simp
     refine (HC1.out _ ((Below.refl w1.heap.size w1).drew.alloc (by simp) (.cells #[.int .i64 0, .slice none 0 0, .slice none 0 0] 68))).mono ?_
     rintro e W3 ⟨va, rfl, ho3, hb3⟩
     obtain ⟨G3, m3, rfl, hm3⟩ := Vw.own_any ho3
     have hs3 := hb3.size
     have hl3 := ho3
     try go_simp
     refine hK.out _ _ ?_ (fun hHeld2 => ?_)
     ·exact ⟨⟨(hb3.cell (p := ⟨w.heap.size, 0, none⟩) (by simp <;> omega)).trans hHeld.1.1, (hb3.cell (p := ⟨w.heap.size, 1, none⟩) (by simp <;> omega)).trans hHeld.1.2.1, (hb3.cell (p := ⟨w.heap.size, 2, none⟩) (by simp <;> omega)).trans hHeld.1.2.2⟩, trivial⟩
     have BW3 := Lib.hid (Below.trans ((Below.refl w1.heap.size w1).drew.alloc (by simp) (.cells #[.int .i64 0, .slice none 0 0, .slice none 0 0] 68)) (hb3.mono ((Below.refl w1.heap.size w1).drew.alloc (by simp) (.cells #[.int .i64 0, .slice none 0 0, .slice none 0 0] 68)).size))
     have hz3 : w1.heap.size ≤ W3.heap.size := BW3.out.size
     clear hK K hHeld
     have hHeld := hHeld2
     clear hHeld2
     try simp only [zA, zB, zC]
     refine wpT_one 7 (by kernel_rfl) (stepT_early rfl rfl (fun K hK => ?_))
     go_simp
     refine (HC2.out _ BW3.out).mono ?_
     rintro e W4 ⟨vb, rfl, ho4, hb4⟩
     obtain ⟨G4, m4, rfl, hm4⟩ := Vw.own_any ho4
     have hs4 := hb4.size
     have hl4 := ho4
     try go_simp
     refine hK.out _ _ ?_ (fun hHeld2 => ?_)
     ·exact ⟨⟨(hb4.cell (p := ⟨w.heap.size, 0, none⟩) (by simp <;> omega)).trans hHeld.1.1, (hb4.cell (p := ⟨w.heap.size, 1, none⟩) (by simp <;> omega)).trans hHeld.1.2.1, (hb4.cell (p := ⟨w.heap.size, 2, none⟩) (by simp <;> omega)).trans hHeld.1.2.2⟩, trivial⟩
     have BW4 := Lib.hid (Below.trans BW3.out (hb4.mono BW3.out.size))
     have hz4 : w1.heap.size ≤ W4.heap.size := BW4.out.size
     clear hK K hHeld
     have hHeld := hHeld2
     clear hHeld2
     try simp only [zA, zB, zC]
     refine tp (v := ?_) 8 31 ⟨fun _ => hHeld.1, fun _ => hHeld.2⟩ ?_ ?_; rotate_left; (intro w; go_simp; try with_reducible rfl); try simp only [Act.put, zA, zB, zC]
     refine wpT_tail [_] 10 [] rfl (by kernel_rfl) ?_
     have HBK := Lib.hid (((Vw.blkn w1.drew w1.heap.size (by simp) 68 #[.int .i64 0, .slice none 0 0, .slice none 0 0]).below hb3 (by simp)).below hb4 (by simp at hs3; omega))
     have q0 : W4.cell? ⟨w1.heap.size, 0, none⟩ = some (.int .i64 0) := HBK.out.cell 0
     have q1 : W4.cell? ⟨w1.heap.size, 1, none⟩ = some (.slice none 0 0) := HBK.out.cell 1
     have q2 : W4.cell? ⟨w1.heap.size, 2, none⟩ = some (.slice none 0 0) := HBK.out.cell 2
     have fq0 := HBK.out.frozen 0
     have fq1 := HBK.out.frozen 1
     have fq2 := HBK.out.frozen 2
     have hblt : w1.heap.size < W4.heap.size := HBK.out.lt
     have HF := Lib.hid (Vw.Fl.laid (st := v.st) HBK.out rfl (Vw.own_base (Vw.own_kept ho3 hb4) (by first | omega | (simp <;> omega))) (Vw.own_base ho4 (by first | omega | (simp <;> omega))) (Vw.own_ne ho3 (by simp)) (Vw.own_ne ho4 (by simp at hs3; omega)) (Vw.own_apart ho3 ho4 (by first | omega | (simp <;> omega))) BW4.out (Nat.le_refl _))
     clear ho3 hl3 ho4 hl4 hb3 hb4 hHeld
     go_wp2_with fail
     go_meet
     exact ⟨_, _, _, rfl, HF.out⟩
   case rest =>
    obtain ⟨bw, v1, v2, rfl, hfl0⟩ := hcut
    have HF0 := Lib.hid hfl0
    clear hfl0 HC1 HC2 HRC x0 x1 x2
    go_wp2_with fail
    go_loopw [9, 34] (fun _ i wr => ∃ (k cc : Nat), k ≤ p.length ∧ i = .int .i64 (k : Int) ∧ cc ≤ v.dims.length ∧ (∀ j (h : j < p.length), j < k → p[j] < (cc : Int)) ∧ (∀ j (h : j < p.length), k ≤ j → (cc : Int) ≤ p[j]) ∧
        Vw.Fl w1.heap.size bw w1 (AdjV.flSt v p cc) v1 v2 v.dims (AdjV.flSteps v p cc) wr) (fun _ i _ => p.length + 1 - (intOf i).toNat)
    case atStart => exact ⟨0, 0, by omega, rfl, by omega, fun j h h2 => by omega, fun j h _ => AdjV.rise_pos (AdjV.riseB_true HRI.out) j h, by rw [AdjV.flSteps_zero]; exact HF0.out⟩
    case round =>
     obtain ⟨k, cc, hk, rfl, hcc, hlo, hhi, hfl⟩ := hrel
     obtain ⟨wo, rfl⟩ : ∃ wo : World, wo = wr := ⟨_, rfl⟩
     have hlsN : v.steps.length = v.dims.length := HLS.out
     have HBO := Lib.hid hfl.below
     by_cases hlt : k < p.length
     ·obtain ⟨pb, poff, rfl, hpb, hpc⟩ := HP.out (by omega)
      have hsz : bw < wo.heap.size := hfl.blk.lt
      have hpk := (HBO.out.cell (p := ⟨pb, poff + k, none⟩) (by simp; omega)).trans ((HB1.out.cell (p := ⟨pb, poff + k, none⟩) (by simp; omega)).trans (hpc k hlt))
      have hri2 := AdjV.riseB_true HRI.out
      have hx0 := AdjV.rise_pos hri2 k hlt
      have hxn := (hri2 k hlt).2
      have hxc := hhi k hlt (Nat.le_refl _)
      obtain ⟨q, hq⟩ : ∃ q : Nat, p[k] = (q : Int) := ⟨p[k].toNat, by omega⟩
      have hmem : (q : Int) ∈ p := hq ▸ List.getElem_mem hlt
      have hgap : ∀ j : Nat, cc ≤ j → j < q → (j : Int) ∉ p := fun j h1 h2 hm => by
       obtain ⟨m, hm1, hm2⟩ := List.getElem_of_mem hm
       rcases Nat.lt_trichotomy m k with h3 | h3 | h3
       ·have := hlo m hm1 h3; omega
       ·subst h3; omega
       ·have := AdjV.rise_lt hri2 m hm1 h3; omega
      rw [hq] at hpk hxn hxc
      have hqn : q < v.dims.length := by omega
      have hqs : q < v.steps.length := by omega
      rw [← AdjV.flSt_skip (c := cc) (c' := q) (by omega) hgap, ← AdjV.flSteps_skip (c := cc) (c' := q) (by omega) hgap] at hfl
      have HNX := Lib.hid (show (∀ j (h : j < p.length), j < k + 1 → p[j] < ((q + 1 : Nat) : Int)) ∧ ∀ j (h : j < p.length), k + 1 ≤ j → ((q + 1 : Nat) : Int) ≤ p[j] from
       ⟨fun j h h2 => by
        rcases Nat.lt_or_ge j k with h3 | h3
        ·have := hlo j h h3; omega
        ·obtain rfl : j = k := by omega
         omega,
        fun j h h2 => by have := AdjV.rise_lt hri2 j h (i := k) (by omega); omega⟩)
      have hps := AdjV.part_small H0.out hqn hqs
      have hfs := AdjV.flSt_small H0.out p q (by omega)
      have HFN := Lib.hid (AdjV.flSt_next (v := v) (l := p) hqn hqs hmem)
      have HFT := Lib.hid (AdjV.flSteps_set (v := v) (l := p) hqs hmem)
      have hys := AdjV.flSteps_here v p q hqs
      have hyl := AdjV.flSteps_length v p q
      have HYS := Lib.hid hys
      obtain ⟨g1, m1, hv1, _, _⟩ := hfl.own1.form (by omega)
      obtain ⟨g2, m2, hv2, _, _⟩ := hfl.own2.form (by omega)
      subst hv1 hv2
      have hd1 := hfl.own1.cellAt q (by omega)
      have hs1 := hfl.own2.cellAt q (by omega)
      have fs1 := hfl.own2.frozenAt q
      rw [ints_at _ q hqn] at hd1
      rw [ints_at _ q (by omega)] at hs1
      rw [hys] at hs1
      have HF := Lib.hid hfl
      have HYL := Lib.hid hyl
      clear hlo hhi hri2 hgap hmem hpc hys hfl hq hx0 hlsN
      have b0 : wo.cell? ⟨bw, 0, none⟩ = some (.int .i64 (AdjV.flSt v p q)) := HF.out.blk.cell 0
      have b1 : wo.cell? ⟨bw, 1, none⟩ = some (.slice (some ⟨g1, 0, none⟩) v.dims.length m1) := HF.out.blk.cell 1
      have b2 : wo.cell? ⟨bw, 2, none⟩ = some (.slice (some ⟨g2, 0, none⟩) v.steps.length m2) := by rw [← HYL.out]; exact HF.out.blk.cell 2
      have fb0 := HF.out.blk.frozen 0
      generalize v.dims[q] = d at hd1 hps HFN
      generalize v.steps[q] = s at hs1 hps HFN HFT HYS
      generalize hst : AdjV.flSt v p q = st at hfs HFN HF b0
      clear hst hyl
      have i1 : (0 : Int) ≤ (k : Int) := by omega
      have i2 : (k : Int) < (p.length : Int) := by omega
      have i3 : (0 : Int) ≤ (q : Int) := by omega
      have i4 : (q : Int) < (v.dims.length : Int) := by omega
      have i5 : (q : Int) < (v.steps.length : Int) := by omega
      by_cases hd0 : 1 < d
      ·have hsm : -4503599627370496 ≤ (d - 1) * s ∧ (d - 1) * s ≤ 4503599627370496 := ⟨hps.2.2.2.2.1, hps.2.2.2.2.2⟩
       have HN := Lib.hid (show AdjV.flSt v p (q + 1) = st + (d - 1) * s by rw [HFN.out, if_pos (by omega)])
       generalize hP : (d - 1) * s = pr at *
       have hmx : 0 < d - 1 := by omega
       have hw1 : IntKind.i64.wrap (d - 1) = d - 1 := IntWalk.i64_in _ (by omega)
       have hw2 : IntKind.i64.wrap pr = pr := IntWalk.i64_in _ (by omega)
       have hw3 : IntKind.i64.wrap (st + pr) = st + pr := IntWalk.i64_in _ (by omega)
       go_wp2_with fail
       refine wp_region_T (fun w' => w'.cell? ⟨bw, 0, none⟩ = some (.int .i64 st) ∧ w'.cell? ⟨bw, 1, none⟩ = some (.slice (some ⟨g1, 0, none⟩) v.dims.length m1) ∧ w'.cell? ⟨bw, 2, none⟩ = some (.slice (some ⟨g2, 0, none⟩) v.steps.length m2) ∧ w'.cell? ⟨g1, q, none⟩ = some (.int .i64 d) ∧ w'.cell? ⟨g2, q, none⟩ = some (.int .i64 s)) 16 (fun _ => True) 16 18 rfl (by kernel_rfl) ⟨⟨b0, b1, b2, hd1, hs1⟩, trivial⟩ (fun hHeld => ?_)
       simp only [List.replicate_succ, List.replicate_zero]
       refine tk (v := ?_) [] 0 38 hHeld ?_ ?_; rotate_left; (intro w h; (try dsimp only at h); go_simp; try with_reducible rfl); try simp only [Act.put, zA, zB, zC]
       refine tk (v := ?_) [] 1 39 hHeld ?_ ?_; rotate_left; (intro w h; (try dsimp only at h); go_simp; try with_reducible rfl); try simp only [Act.put, zA, zB, zC]
       refine tk (v := ?_) [] 2 40 hHeld ?_ ?_; rotate_left; (intro w h; (try dsimp only at h); go_simp; try with_reducible rfl); try simp only [Act.put, zA, zB, zC]
       refine tk (v := ?_) [] 3 41 hHeld ?_ ?_; rotate_left; (intro w h; (try dsimp only at h); go_simp; try with_reducible rfl); try simp only [Act.put, zA, zB, zC]
       refine tk (v := ?_) [] 4 42 hHeld ?_ ?_; rotate_left; (intro w h; (try dsimp only at h); go_simp; try with_reducible rfl); try simp only [Act.put, zA, zB, zC]
       refine tk (v := ?_) [] 5 43 hHeld ?_ ?_; rotate_left; (intro w h; (try dsimp only at h); go_simp; try with_reducible rfl); try simp only [Act.put, zA, zB, zC]
       refine tk (v := ?_) [] 6 44 hHeld ?_ ?_; rotate_left; (intro w h; (try dsimp only at h); go_simp; try with_reducible rfl); try simp only [Act.put, zA, zB, zC]
       refine tk (v := ?_) [] 7 45 hHeld ?_ ?_; rotate_left; (intro w h; (try dsimp only at h); go_simp; try with_reducible rfl); try simp only [Act.put, zA, zB, zC]
       refine tk (v := ?_) [] 8 46 hHeld ?_ ?_; rotate_left; (intro w h; (try dsimp only at h); go_simp; try with_reducible rfl); try simp only [Act.put, zA, zB, zC]
       refine tk (v := ?_) [] 9 47 hHeld ?_ ?_; rotate_left; (intro w h; (try dsimp only at h); go_simp; try with_reducible rfl); try simp only [Act.put, zA, zB, zC]
       refine tk (v := ?_) [] 10 48 hHeld ?_ ?_; rotate_left; (intro w h; (try dsimp only at h); go_simp; try with_reducible rfl); try simp only [Act.put, zA, zB, zC]
       refine tk (v := ?_) [] 11 49 hHeld ?_ ?_; rotate_left; (intro w h; (try dsimp only at h); go_simp; try with_reducible rfl); try simp only [Act.put, zA, zB, zC]
       refine tk (v := ?_) [] 12 50 hHeld ?_ ?_; rotate_left; (intro w h; (try dsimp only at h); go_simp; try with_reducible rfl); try simp only [Act.put, zA, zB, zC]
       refine tk (v := ?_) [] 13 51 hHeld ?_ ?_; rotate_left; (intro w h; (try dsimp only at h); go_simp; try with_reducible rfl); try simp only [Act.put, zA, zB, zC]
       refine tk (v := ?_) [] 14 52 hHeld ?_ ?_; rotate_left; (intro w h; (try dsimp only at h); go_simp; try with_reducible rfl); try simp only [Act.put, zA, zB, zC]
       refine tk (v := ?_) [] 15 53 hHeld ?_ ?_; rotate_left; (intro w h; (try dsimp only at h); go_simp; try with_reducible rfl); try simp only [Act.put, zA, zB, zC]
       refine wpT_tail [_, _] 16 [17] rfl (by kernel_rfl) ?_
       go_wp2_with fail
       have HG := Lib.hid (HF.out.set0 ((st + pr))).drew
       generalize hW2 : (wo.setCell ⟨bw, 0, none⟩ (.int .i64 ((st + pr)))).drew = W2 at HG ⊢
       clear hW2 hd1 hs1 fs1 b0 b1 b2 fb0 HF
       have d2 : W2.cell? ⟨bw, 2, none⟩ = some (.slice (some ⟨g2, 0, none⟩) v.steps.length m2) := by rw [← HYL.out]; exact HG.out.blk.cell 2
       have dq : W2.cell? ⟨g2, q, none⟩ = some (.int .i64 s) := by rw [HG.out.own2.cellAt q (by rw [HYL.out]; omega), ints_at _ q (by rw [HYL.out]; omega), HYS.out]
       have fq := HG.out.own2.frozenAt q
       have hwn : IntKind.i64.wrap (-s) = -s := IntWalk.i64_in _ (by omega)
       refine wp_region_T (fun w' => w'.cell? ⟨bw, 2, none⟩ = some (.slice (some ⟨g2, 0, none⟩) v.steps.length m2) ∧ w'.cell? ⟨g2, q, none⟩ = some (.int .i64 s)) 9 (fun _ => True) 9 11 rfl (by kernel_rfl) ⟨⟨d2, dq⟩, trivial⟩ (fun hHeld => ?_)
       simp only [List.replicate_succ, List.replicate_zero]
       refine tk (v := ?_) [] 0 55 hHeld ?_ ?_; rotate_left; (intro w h; (try dsimp only at h); go_simp; try with_reducible rfl); try simp only [Act.put, zA, zB, zC]
       refine tk (v := ?_) [] 1 56 hHeld ?_ ?_; rotate_left; (intro w h; (try dsimp only at h); go_simp; try with_reducible rfl); try simp only [Act.put, zA, zB, zC]
       refine tk (v := ?_) [] 2 57 hHeld ?_ ?_; rotate_left; (intro w h; (try dsimp only at h); go_simp; try with_reducible rfl); try simp only [Act.put, zA, zB, zC]
       refine tk (v := ?_) [] 3 58 hHeld ?_ ?_; rotate_left; (intro w h; (try dsimp only at h); go_simp; try with_reducible rfl); try simp only [Act.put, zA, zB, zC]
       refine tk (v := ?_) [] 4 59 hHeld ?_ ?_; rotate_left; (intro w h; (try dsimp only at h); go_simp; try with_reducible rfl); try simp only [Act.put, zA, zB, zC]
       refine tk (v := ?_) [] 5 60 hHeld ?_ ?_; rotate_left; (intro w h; (try dsimp only at h); go_simp; try with_reducible rfl); try simp only [Act.put, zA, zB, zC]
       refine tk (v := ?_) [] 6 61 hHeld ?_ ?_; rotate_left; (intro w h; (try dsimp only at h); go_simp; try with_reducible rfl); try simp only [Act.put, zA, zB, zC]
       refine tk (v := ?_) [] 7 62 hHeld ?_ ?_; rotate_left; (intro w h; (try dsimp only at h); go_simp; try with_reducible rfl); try simp only [Act.put, zA, zB, zC]
       refine tk (v := ?_) [] 8 63 hHeld ?_ ?_; rotate_left; (intro w h; (try dsimp only at h); go_simp; try with_reducible rfl); try simp only [Act.put, zA, zB, zC]
       refine wpT_tail [_, _] 9 [10] rfl (by kernel_rfl) ?_
       have HE := Lib.hid (HG.out.store2 q (-s)).drew
       clear hHeld d2
       go_wp2_with fail
       have HR2 := Lib.hid (show Vw.Fl w1.heap.size bw w1 (AdjV.flSt v p (q + 1)) (.slice (some ⟨g1, 0, none⟩) v.dims.length m1) (.slice (some ⟨g2, 0, none⟩) (AdjV.flSteps v p q).length m2) v.dims (AdjV.flSteps v p (q + 1)) (W2.setCell ⟨g2, q, none⟩ (.int .i64 (-s))).drew by
        have h := HE.out
        rw [HFT.out] at h
        rw [HN.out]
        simp only [AdjV.flSteps_length] at h ⊢
        exact h)
       first
        | exact ⟨⟨k + 1, q + 1, by omega, by go_num, by omega, HNX.out.1, HNX.out.2, HR2.out⟩, by simp [intOf]; omega⟩
        | (go_roundw
           case rel => exact ⟨k + 1, q + 1, by omega, by go_num, by omega, HNX.out.1, HNX.out.2, HR2.out⟩
           case measure => simp [intOf]; omega)
      ·have HN := Lib.hid (show AdjV.flSt v p (q + 1) = st by
         rw [HFN.out]
         by_cases e : 0 < d
         ·obtain rfl : d = 1 := by omega
          rw [if_pos e]; omega
         ·rw [if_neg e]; omega)
       have hmx : ¬ 0 < d - 1 := by omega
       have hw1 : IntKind.i64.wrap (d - 1) = d - 1 := IntWalk.i64_in _ (by omega)
       go_wp2_with fail
       have hw5 : RowKit.wrap64 0 = 0 := IntWalk.wrap64_in 0 ⟨by omega, by omega⟩
       have hw6 : RowKit.wrap64 st = st := IntWalk.wrap64_in st ⟨by omega, by omega⟩
       refine wp_region_T (fun w' => w'.cell? ⟨bw, 0, none⟩ = some (.int .i64 st) ∧ w'.cell? ⟨bw, 1, none⟩ = some (.slice (some ⟨g1, 0, none⟩) v.dims.length m1) ∧ w'.cell? ⟨bw, 2, none⟩ = some (.slice (some ⟨g2, 0, none⟩) v.steps.length m2) ∧ w'.cell? ⟨g1, q, none⟩ = some (.int .i64 d) ∧ w'.cell? ⟨g2, q, none⟩ = some (.int .i64 s)) 16 (fun _ => True) 16 18 rfl (by kernel_rfl) ⟨⟨b0, b1, b2, hd1, hs1⟩, trivial⟩ (fun hHeld => ?_)
       simp only [List.replicate_succ, List.replicate_zero]
       refine tk (v := ?_) [] 0 38 hHeld ?_ ?_; rotate_left; (intro w h; (try dsimp only at h); go_simp; try with_reducible rfl); try simp only [Act.put, zA, zB, zC]
       refine tk (v := ?_) [] 1 39 hHeld ?_ ?_; rotate_left; (intro w h; (try dsimp only at h); go_simp; try with_reducible rfl); try simp only [Act.put, zA, zB, zC]
       refine tk (v := ?_) [] 2 40 hHeld ?_ ?_; rotate_left; (intro w h; (try dsimp only at h); go_simp; try with_reducible rfl); try simp only [Act.put, zA, zB, zC]
       refine tk (v := ?_) [] 3 41 hHeld ?_ ?_; rotate_left; (intro w h; (try dsimp only at h); go_simp; try with_reducible rfl); try simp only [Act.put, zA, zB, zC]
       refine tk (v := ?_) [] 4 42 hHeld ?_ ?_; rotate_left; (intro w h; (try dsimp only at h); go_simp; try with_reducible rfl); try simp only [Act.put, zA, zB, zC]
       refine tk (v := ?_) [] 5 43 hHeld ?_ ?_; rotate_left; (intro w h; (try dsimp only at h); go_simp; try with_reducible rfl); try simp only [Act.put, zA, zB, zC]
       refine tk (v := ?_) [] 6 44 hHeld ?_ ?_; rotate_left; (intro w h; (try dsimp only at h); go_simp; try with_reducible rfl); try simp only [Act.put, zA, zB, zC]
       refine tk (v := ?_) [] 7 45 hHeld ?_ ?_; rotate_left; (intro w h; (try dsimp only at h); go_simp; try with_reducible rfl); try simp only [Act.put, zA, zB, zC]
       refine tk (v := ?_) [] 8 46 hHeld ?_ ?_; rotate_left; (intro w h; (try dsimp only at h); go_simp; try with_reducible rfl); try simp only [Act.put, zA, zB, zC]
       refine tk (v := ?_) [] 9 47 hHeld ?_ ?_; rotate_left; (intro w h; (try dsimp only at h); go_simp; try with_reducible rfl); try simp only [Act.put, zA, zB, zC]
       refine tk (v := ?_) [] 10 48 hHeld ?_ ?_; rotate_left; (intro w h; (try dsimp only at h); go_simp; try with_reducible rfl); try simp only [Act.put, zA, zB, zC]
       refine tk (v := ?_) [] 11 49 hHeld ?_ ?_; rotate_left; (intro w h; (try dsimp only at h); go_simp; try with_reducible rfl); try simp only [Act.put, zA, zB, zC]
       refine tk (v := ?_) [] 12 50 hHeld ?_ ?_; rotate_left; (intro w h; (try dsimp only at h); go_simp; try with_reducible rfl); try simp only [Act.put, zA, zB, zC]
       refine tk (v := ?_) [] 13 51 hHeld ?_ ?_; rotate_left; (intro w h; (try dsimp only at h); go_simp; try with_reducible rfl); try simp only [Act.put, zA, zB, zC]
       refine tk (v := ?_) [] 14 52 hHeld ?_ ?_; rotate_left; (intro w h; (try dsimp only at h); go_simp; try with_reducible rfl); try simp only [Act.put, zA, zB, zC]
       refine tk (v := ?_) [] 15 53 hHeld ?_ ?_; rotate_left; (intro w h; (try dsimp only at h); go_simp; try with_reducible rfl); try simp only [Act.put, zA, zB, zC]
       refine wpT_tail [_, _] 16 [17] rfl (by kernel_rfl) ?_
       go_wp2_with fail
       clear hw5 hw6
       have HG := Lib.hid (HF.out.set0 (st)).drew
       generalize hW2 : (wo.setCell ⟨bw, 0, none⟩ (.int .i64 (st))).drew = W2 at HG ⊢
       clear hW2 hd1 hs1 fs1 b0 b1 b2 fb0 HF
       have d2 : W2.cell? ⟨bw, 2, none⟩ = some (.slice (some ⟨g2, 0, none⟩) v.steps.length m2) := by rw [← HYL.out]; exact HG.out.blk.cell 2
       have dq : W2.cell? ⟨g2, q, none⟩ = some (.int .i64 s) := by rw [HG.out.own2.cellAt q (by rw [HYL.out]; omega), ints_at _ q (by rw [HYL.out]; omega), HYS.out]
       have fq := HG.out.own2.frozenAt q
       have hwn : IntKind.i64.wrap (-s) = -s := IntWalk.i64_in _ (by omega)
       refine wp_region_T (fun w' => w'.cell? ⟨bw, 2, none⟩ = some (.slice (some ⟨g2, 0, none⟩) v.steps.length m2) ∧ w'.cell? ⟨g2, q, none⟩ = some (.int .i64 s)) 9 (fun _ => True) 9 11 rfl (by kernel_rfl) ⟨⟨d2, dq⟩, trivial⟩ (fun hHeld => ?_)
       simp only [List.replicate_succ, List.replicate_zero]
       refine tk (v := ?_) [] 0 55 hHeld ?_ ?_; rotate_left; (intro w h; (try dsimp only at h); go_simp; try with_reducible rfl); try simp only [Act.put, zA, zB, zC]
       refine tk (v := ?_) [] 1 56 hHeld ?_ ?_; rotate_left; (intro w h; (try dsimp only at h); go_simp; try with_reducible rfl); try simp only [Act.put, zA, zB, zC]
       refine tk (v := ?_) [] 2 57 hHeld ?_ ?_; rotate_left; (intro w h; (try dsimp only at h); go_simp; try with_reducible rfl); try simp only [Act.put, zA, zB, zC]
       refine tk (v := ?_) [] 3 58 hHeld ?_ ?_; rotate_left; (intro w h; (try dsimp only at h); go_simp; try with_reducible rfl); try simp only [Act.put, zA, zB, zC]
       refine tk (v := ?_) [] 4 59 hHeld ?_ ?_; rotate_left; (intro w h; (try dsimp only at h); go_simp; try with_reducible rfl); try simp only [Act.put, zA, zB, zC]
       refine tk (v := ?_) [] 5 60 hHeld ?_ ?_; rotate_left; (intro w h; (try dsimp only at h); go_simp; try with_reducible rfl); try simp only [Act.put, zA, zB, zC]
       refine tk (v := ?_) [] 6 61 hHeld ?_ ?_; rotate_left; (intro w h; (try dsimp only at h); go_simp; try with_reducible rfl); try simp only [Act.put, zA, zB, zC]
       refine tk (v := ?_) [] 7 62 hHeld ?_ ?_; rotate_left; (intro w h; (try dsimp only at h); go_simp; try with_reducible rfl); try simp only [Act.put, zA, zB, zC]
       refine tk (v := ?_) [] 8 63 hHeld ?_ ?_; rotate_left; (intro w h; (try dsimp only at h); go_simp; try with_reducible rfl); try simp only [Act.put, zA, zB, zC]
       refine wpT_tail [_, _] 9 [10] rfl (by kernel_rfl) ?_
       have HE := Lib.hid (HG.out.store2 q (-s)).drew
       clear hHeld d2
       go_wp2_with fail
       have HR2 := Lib.hid (show Vw.Fl w1.heap.size bw w1 (AdjV.flSt v p (q + 1)) (.slice (some ⟨g1, 0, none⟩) v.dims.length m1) (.slice (some ⟨g2, 0, none⟩) (AdjV.flSteps v p q).length m2) v.dims (AdjV.flSteps v p (q + 1)) (W2.setCell ⟨g2, q, none⟩ (.int .i64 (-s))).drew by
        have h := HE.out
        rw [HFT.out] at h
        rw [HN.out]
        simp only [AdjV.flSteps_length] at h ⊢
        exact h)
       first
        | exact ⟨⟨k + 1, q + 1, by omega, by go_num, by omega, HNX.out.1, HNX.out.2, HR2.out⟩, by simp [intOf]; omega⟩
        | (go_roundw
           case rel => exact ⟨k + 1, q + 1, by omega, by go_num, by omega, HNX.out.1, HNX.out.2, HR2.out⟩
           case measure => simp [intOf]; omega)
     ·obtain rfl : k = p.length := by omega
      have hgap : ∀ j : Nat, cc ≤ j → j < v.dims.length → (j : Int) ∉ p := fun j h1 h2 hm => by
       obtain ⟨m, hm1, hm2⟩ := List.getElem_of_mem hm
       have := hlo m hm1 hm1
       omega
      rw [← AdjV.flSt_skip hcc hgap, ← AdjV.flSteps_skip hcc hgap] at hfl
      have HFL := Lib.hid (AdjV.flip_ok (p := p) H0.out HRI.out)
      have hr := HR.out.below HBO.out (by omega)
      have hbk := hfl.blk
      obtain ⟨A1, n1, A2, n2, hv1, hv2, hva, ga1, ga2⟩ := hfl.view
      subst hv1 hv2
      have e0 : wo.cell? ⟨bw, 0, none⟩ = some (.int .i64 (AdjV.flSt v p v.dims.length)) := hbk.cell 0
      have e1 : wo.cell? ⟨bw, 1, none⟩ = some (.slice A1 v.dims.length n1) := hbk.cell 1
      have e2 : wo.cell? ⟨bw, 2, none⟩ = some (.slice A2 (AdjV.flSteps v p v.dims.length).length n2) := hbk.cell 2
      have HMD := Lib.hid (done_any _ _ _ wo (Nat.le_refl _) hva)
      have HVA := Lib.hid hva
      have HGA := Lib.hid (And.intro ga1 ga2)
      have HBF := Lib.hid (HB1.out.trans (HBO.out.mono HB1.out.size))
      have HRR := Lib.hid hr
      clear hr hbk hfl hgap hlo hhi hva ga1 ga2 hlsN
      have HMK := Lib.hid (fun (h : AdjV.wrong ⟨AdjV.flSt v p v.dims.length, v.dims, AdjV.flSteps v p v.dims.length⟩ = 4) => HFL.out.trans (if_pos h))
      have HMK' := Lib.hid (fun (h : AdjV.wrong ⟨AdjV.flSt v p v.dims.length, v.dims, AdjV.flSteps v p v.dims.length⟩ ≠ 4) => HFL.out.trans (if_neg h))
      generalize AdjV.flSt v p v.dims.length = st' at *
      generalize AdjV.flSteps v p v.dims.length = ys at *
      go_wp2_with fail
      refine HMD.out.mono ?_
      rintro e w4 ⟨rfl, hb4⟩
      have hr4 := HRR.out.below hb4 HRR.out.lt
      have r0 : w4.cell? ⟨w.heap.size + 1, 0, none⟩ = some (.int .i64 0) := hr4.cell 0
      have r1 : w4.cell? ⟨w.heap.size + 1, 1, none⟩ = some (.slice none 0 0) := hr4.cell 1
      have r2 : w4.cell? ⟨w.heap.size + 1, 2, none⟩ = some (.slice none 0 0) := hr4.cell 2
      have f0 := hr4.frozen 0
      have f1 := hr4.frozen 1
      have f2 := hr4.frozen 2
      have HBX := Lib.hid (fun x y z => Vw.three (HBF.out.trans (hb4.mono HBF.out.size)) (Nat.le_succ w.heap.size) x y z)
      have HV4 := Lib.hid (HVA.out.below hb4)
      have hlt4 : wo.heap.size ≤ w4.heap.size := hb4.size
      have hlt5 : w.heap.size + 1 < wo.heap.size := HRR.out.lt
      clear hr4 hb4
      by_cases h4 : AdjV.wrong ⟨st', v.dims, ys⟩ = 4
      ·have HX4 := Lib.hid (HMK.out h4)
       rw [show Vw.madeR (.agg #[.int .i64 st', .slice A1 v.dims.length n1, .slice A2 ys.length n2]) ⟨st', v.dims, ys⟩ = .tuple #[.agg #[.int .i64 0, .slice none 0 0, .slice none 0 0], .int .i64 5] from if_pos h4]
       clear h4
       go_wp2_with fail
       refine bodyPost_ret (v := .tuple #[.agg #[.int .i64 0, .slice none 0 0, .slice none 0 0], .int .i64 5]) (by simp [results, Try.results62, go_sem, r0, r1, r2]) rfl ⟨?_, HBX.out _ _ _⟩
       rw [HX4.out]; exact Vw.out_none _ _ _ _
      ·have HX4 := Lib.hid (HMK'.out h4)
       rw [show Vw.madeR (.agg #[.int .i64 st', .slice A1 v.dims.length n1, .slice A2 ys.length n2]) ⟨st', v.dims, ys⟩ = .tuple #[.agg #[.int .i64 st', .slice A1 v.dims.length n1, .slice A2 ys.length n2], .int .i64 0] from if_neg h4]
       clear h4
       go_wp2_with fail
       refine bodyPost_ret (v := .tuple #[.agg #[.int .i64 st', .slice A1 v.dims.length n1, .slice A2 ys.length n2], .int .i64 0]) (by simp [results, Try.results62, go_sem, r0, r1, r2]) rfl ⟨?_, HBX.out _ _ _⟩
       rw [HX4.out]
       exact Vw.out_mk (Vw.view_set3 HV4.out (cc := w.heap.size + 1) rfl (fun b off e hp => by have := HGA.out.1 b off e hp; omega) (fun b off e hp => by have := HGA.out.2 b off e hp; omega) (by simp; omega) _ _ _) (fun b off e hp => by have := HGA.out.1 b off e hp; omega) (fun b off e hp => by have := HGA.out.2 b off e hp; omega)
  ·have HT := Lib.hid (AdjV.flip_bad H0.out (by simpa using hri))
   have HRI := Lib.hid (show AdjV.riseB v.dims.length p = false by simpa using hri)
   clear hri
   go_enter Try.func62, Try.ntmps62
   go_wp2_with fail
   refine (HW.out _ HB.out).mono ?_
   rintro e w1 ⟨rfl, hb1⟩
   rw [H0.out]
   have HRC := Lib.hid (rising_any P cp p v.dims.length B w1 (by omega) (by omega) (HP.out.below ((HB.out.trans (hb1.mono HB.out.size)).mono hB)))
   obtain ⟨hc, hf⟩ := bcell hb1
   have hz : w.heap.size + 1 < w1.heap.size := by have := hb1.size; simp at this; omega
   go_wp2_with fail
   refine HRC.out.mono ?_
   rintro e w2 ⟨rfl, rfl⟩
   rw [HRI.out]
   go_wp2_with fail
   refine bodyPost_ret (v := .tuple #[.agg #[.int .i64 0, .slice none 0 0, .slice none 0 0], .int .i64 6]) (by simp [results, Try.results62, go_sem, hc]) rfl ⟨?_, ?_⟩
   ·rw [HT.out]; exact Vw.out_none _ _ _ _
   ·exact Vw.three (HB.out.trans (hb1.mono HB.out.size)) (Nat.le_succ _) _ _ _
 ·have HT := Lib.hid (AdjV.flip_wrong (p := p) h0)
  have hq : (AdjV.wrong v != 0) = true := by simpa using h0
  clear h0
  go_enter Try.func62, Try.ntmps62
  go_wp2_with fail
  refine (HW.out _ HB.out).mono ?_
  rintro e w1 ⟨rfl, hb1⟩
  obtain ⟨hc, hf⟩ := bcell hb1
  have hz : w.heap.size + 1 < w1.heap.size := by have := hb1.size; simp at this; omega
  go_wp2_with fail
  refine bodyPost_ret (v := .tuple #[.agg #[.int .i64 0, .slice none 0 0, .slice none 0 0], .int .i64 (AdjV.wrong v)]) (by simp [results, Try.results62, go_sem, hc]) rfl ⟨?_, ?_⟩
  ·rw [HT.out]; exact Vw.out_none _ _ _ _
  ·exact Vw.three (HB.out.trans (hb1.mono HB.out.size)) (Nat.le_succ _) _ _ _
end Go.Proofs.Ytapedmpbkffopaa
end
section
namespace AdjV
set_option linter.unusedVariables false
def cutB (d lo hi st : Int) : Bool := decide (0 ≤ lo) && (decide (lo ≤ hi) && (decide (hi ≤ d) && (decide (1 ≤ st) && decide (st ≤ 4096))))
theorem cutB_true {d lo hi st : Int} : cutB d lo hi st = true ↔ 0 ≤ lo ∧ lo ≤ hi ∧ hi ≤ d ∧ 1 ≤ st ∧ st ≤ 4096 := by unfold cutB; simp
def cutAll (v : V) (lo hi st : List Int) : Bool := (List.range v.dims.length).all fun k => cutB (v.dims.getD k 0) (lo.getD k 0) (hi.getD k 0) (st.getD k 0)
theorem cutAll_true {v : V} {lo hi st : List Int} (h : cutAll v lo hi st = true) {k : Nat} (hk : k < v.dims.length) : cutB (v.dims.getD k 0) (lo.getD k 0) (hi.getD k 0) (st.getD k 0) = true :=
 List.all_eq_true.1 h k (List.mem_range.2 hk)
theorem cutAll_bad {v : V} {lo hi st : List Int} {k : Nat} (hk : k < v.dims.length) (h : cutB (v.dims.getD k 0) (lo.getD k 0) (hi.getD k 0) (st.getD k 0) = false) : cutAll v lo hi st = false := by
 unfold cutAll
 rw [List.all_eq_false]
 exact ⟨k, List.mem_range.2 hk, by rw [h]; simp⟩
theorem cutAll_of {v : V} {lo hi st : List Int} (h : ∀ k, k < v.dims.length → cutB (v.dims.getD k 0) (lo.getD k 0) (hi.getD k 0) (st.getD k 0) = true) : cutAll v lo hi st = true :=
 List.all_eq_true.2 fun k hk => h k (List.mem_range.1 hk)
def kept (lo hi st : Int) : Int := (hi - lo + st - 1) / st
theorem kept_tdiv {lo hi st : Int} (h1 : lo ≤ hi) (h2 : 1 ≤ st) : (hi - lo + st - 1).tdiv st = kept lo hi st := Int.tdiv_eq_ediv_of_nonneg (by omega)
theorem kept_more {lo hi st n : Int} (h2 : 1 ≤ st) (h : lo + n * st < hi) : n + 1 ≤ kept lo hi st := by
 unfold kept
 refine (Int.le_ediv_iff_mul_le (by omega)).2 ?_
 rw [Int.add_mul, Int.one_mul]
 omega
theorem kept_done {lo hi st n : Int} (h2 : 1 ≤ st) (h : n ≤ kept lo hi st) (h3 : ¬ lo + n * st < hi) : kept lo hi st = n := by
 have : kept lo hi st < n + 1 := by
  unfold kept
  refine (Int.ediv_lt_iff_lt_mul (by omega)).2 ?_
  rw [Int.add_mul, Int.one_mul]
  omega
 omega
theorem kept_nonneg {lo hi st : Int} (h1 : lo ≤ hi) (h2 : 1 ≤ st) : 0 ≤ kept lo hi st := Int.ediv_nonneg (by omega) (by omega)
def cutSt (v : V) (lo : List Int) : Nat → Int
 | 0 => v.st
 | k + 1 => cutSt v lo k + lo.getD k 0 * v.steps.getD k 0
def cutDims (v : V) (lo hi st : List Int) : List Int := (List.range v.dims.length).map fun k => kept (lo.getD k 0) (hi.getD k 0) (st.getD k 0)
def cutSteps (v : V) (st : List Int) : List Int := (List.range v.dims.length).map fun k => v.steps.getD k 0 * st.getD k 0
theorem cutDims_length (v : V) (lo hi st : List Int) : (cutDims v lo hi st).length = v.dims.length := by simp [cutDims]
theorem cutSteps_length (v : V) (st : List Int) : (cutSteps v st).length = v.dims.length := by simp [cutSteps]
theorem cutDims_at (v : V) (lo hi st : List Int) (k : Nat) (h : k < (cutDims v lo hi st).length) : (cutDims v lo hi st)[k] = kept (lo.getD k 0) (hi.getD k 0) (st.getD k 0) := by simp [cutDims]
theorem cutSteps_at (v : V) (st : List Int) (k : Nat) (h : k < (cutSteps v st).length) : (cutSteps v st)[k] = v.steps.getD k 0 * st.getD k 0 := by simp [cutSteps]
def cut (v : V) (lo hi st : List Int) : V × Int :=
 if wrong v ≠ 0 then (none_, wrong v) else if lo.length ≠ v.dims.length ∨ hi.length ≠ v.dims.length ∨ st.length ≠ v.dims.length then (none_, 6)
 else if cutAll v lo hi st then made ⟨cutSt v lo v.dims.length, cutDims v lo hi st, cutSteps v st⟩ else (none_, 4)
theorem cut_wrong {v : V} {lo hi st : List Int} (h : wrong v ≠ 0) : cut v lo hi st = (none_, wrong v) := if_pos h
theorem cut_shape {v : V} {lo hi st : List Int} (h : wrong v = 0) (h2 : lo.length ≠ v.dims.length ∨ hi.length ≠ v.dims.length ∨ st.length ≠ v.dims.length) : cut v lo hi st = (none_, 6) := by
 unfold cut; rw [if_neg (by simp [h]), if_pos h2]
theorem cut_range {v : V} {lo hi st : List Int} (h : wrong v = 0) (h2 : lo.length = v.dims.length ∧ hi.length = v.dims.length ∧ st.length = v.dims.length) (h3 : cutAll v lo hi st = false) : cut v lo hi st = (none_, 4) := by
 unfold cut; rw [if_neg (by simp [h]), if_neg (by simp [h2]), if_neg (by simp [h3])]
theorem cut_ok {v : V} {lo hi st : List Int} (h : wrong v = 0) (h2 : lo.length = v.dims.length ∧ hi.length = v.dims.length ∧ st.length = v.dims.length) (h3 : cutAll v lo hi st = true) :
    cut v lo hi st = made ⟨cutSt v lo v.dims.length, cutDims v lo hi st, cutSteps v st⟩ := by
 unfold cut; rw [if_neg (by simp [h]), if_neg (by simp [h2]), if_pos h3]
theorem mul_small {a b : Int} (h1 : 0 ≤ a) (h2 : a ≤ 4096) (h3 : -1099511627776 ≤ b) (h4 : b ≤ 1099511627776) : -4503599627370496 ≤ a * b ∧ a * b ≤ 4503599627370496 := by
 have := mul_abs (a := a) (b := b) (x := 4096) (y := 1099511627776) (by omega) (by omega) h3 h4 (by omega)
 omega
theorem cutSt_small {v : V} (h : wrong v = 0) {lo : List Int} {m : Nat} (hm : m ≤ v.dims.length) (hc : ∀ k, k < m → 0 ≤ lo.getD k 0 ∧ lo.getD k 0 ≤ 4096) : ∀ k, k ≤ m → -1099511627776 - 4503599627370496 * (k : Int) ≤ cutSt v lo k ∧ cutSt v lo k ≤ 1099511627776 + 4503599627370496 * (k : Int)
 | 0, _ => by
  have := (wrong_fine h).2.2.1
  simp only [cutSt]; omega
 | k + 1, hk => by
  have ih := cutSt_small h hm hc k (by omega)
  obtain ⟨z1, z2, _, z4⟩ := wrong_fine h
  have hs := z4 _ (List.getElem_mem (show k < v.steps.length by omega))
  have hl := hc k (by omega)
  simp only [cutSt]
  rw [getD_at v.steps k (by omega)]
  have := mul_small hl.1 hl.2 hs.1 hs.2
  omega
theorem cutB_small {v : V} (h : wrong v = 0) {lo hi st : List Int} {j : Nat} (hj : j < v.dims.length) (hc : cutB (v.dims.getD j 0) (lo.getD j 0) (hi.getD j 0) (st.getD j 0) = true) : 0 ≤ lo.getD j 0 ∧ lo.getD j 0 ≤ 4096 := by
 have h1 := cutB_true.1 hc
 rw [getD_at v.dims j hj] at h1
 have := (size_fine (wrong_fine h).1).2.1 _ (List.getElem_mem hj)
 omega
def le2 : List Int → List Int → Prop
 | [], [] => True
 | a :: l, b :: m => (0 ≤ a ∧ a ≤ b) ∧ le2 l m
 | _, _ => False
theorem le2_of : ∀ {l m : List Int}, l.length = m.length → (∀ k (h : k < l.length) (h2 : k < m.length), 0 ≤ l[k] ∧ l[k] ≤ m[k]) → le2 l m
 | [], [], _, _ => trivial
 | a :: l, b :: m, hl, h => ⟨h 0 (by simp) (by simp), le2_of (by simpa using hl) (fun k h1 h2 => by have := h (k + 1) (by simpa using h1) (by simpa using h2); simpa using this)⟩
 | [], _ :: _, hl, _ => by simp at hl
 | _ :: _, [], hl, _ => by simp at hl
theorem le2_prod : ∀ {l m : List Int}, le2 l m → 0 ≤ prod l ∧ prod l ≤ prod m
 | [], [], _ => by simp [prod]
 | a :: l, b :: m, h => by
  have ih := le2_prod h.2
  simp only [prod]
  exact ⟨Int.mul_nonneg h.1.1 ih.1, Int.mul_le_mul h.1.2 ih.2 ih.1 (by have := h.1; omega)⟩
 | [], _ :: _, h => h.elim
 | _ :: _, [], h => h.elim
theorem le2_mem : ∀ {l m : List Int}, le2 l m → ∀ a ∈ l, ∃ b ∈ m, 0 ≤ a ∧ a ≤ b
 | a :: l, b :: m, h, x, hx => by
  rcases List.mem_cons.1 hx with rfl | hx
  ·exact ⟨b, by simp, h.1⟩
  ·obtain ⟨y, hy, h2⟩ := le2_mem h.2 x hx
   exact ⟨y, by simp [hy], h2⟩
 | [], [], _, _, hx => by simp at hx
 | [], _ :: _, h, _, _ => h.elim
 | _ :: _, [], h, _, _ => h.elim
theorem size_less {l m : List Int} (hl : l.length = m.length) (h : le2 l m) (hm : (size m).2 = 0) : (size l).2 = 0 := by
 obtain ⟨z1, z2, z3, z4, z5⟩ := size_fine hm
 have h1 : ¬ 6 < l.length := by omega
 have h2 : l.any bad = false := by
  rw [List.any_eq_false]
  intro a ha
  obtain ⟨b, hb, h3⟩ := le2_mem h a ha
  have := z2 b hb
  rw [bad_false.2 (by omega)]; simp
 by_cases h3 : (0 : Int) ∈ l
 ·rw [size_none h1 h2 h3]
 ·have hp := le2_prod h
  rw [size_ok h1 h2 h3 (by omega)]
theorem kept_small {lo hi st : Int} (h1 : lo ≤ hi) (h2 : 1 ≤ st) : kept lo hi st ≤ hi - lo := by
 unfold kept
 have : (hi - lo + st - 1) / st < hi - lo + 1 := by
  refine (Int.ediv_lt_iff_lt_mul (by omega)).2 ?_
  have e := Int.mul_le_mul_of_nonneg_left h2 (show 0 ≤ hi - lo by omega)
  rw [Int.mul_one] at e
  rw [Int.add_mul, Int.one_mul]
  omega
 omega
theorem cut_two {v : V} {lo hi st : List Int} (h : wrong v = 0) (h3 : cutAll v lo hi st = true) (s : Int) : wrong ⟨s, cutDims v lo hi st, cutSteps v st⟩ = 0 ∨ wrong ⟨s, cutDims v lo hi st, cutSteps v st⟩ = 4 := by
 obtain ⟨z1, z2, _⟩ := wrong_fine h
 have hl : (cutDims v lo hi st).length = v.dims.length := cutDims_length v lo hi st
 refine wrong_two (size_less hl (le2_of hl fun k h1 h2 => ?_) z1) (by show (cutSteps v st).length = (cutDims v lo hi st).length; rw [cutSteps_length, hl])
 have hb := cutB_true.1 (cutAll_true h3 h2)
 rw [getD_at v.dims k h2] at hb
 rw [cutDims_at]
 have a1 := kept_nonneg (lo := lo.getD k 0) (hi := hi.getD k 0) (st := st.getD k 0) (by omega) (by omega)
 have a2 := kept_small (lo := lo.getD k 0) (hi := hi.getD k 0) (st := st.getD k 0) (by omega) (by omega)
 omega
end AdjV
end
