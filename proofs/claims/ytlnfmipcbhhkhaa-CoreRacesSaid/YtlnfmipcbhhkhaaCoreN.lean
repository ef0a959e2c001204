/-
  The walk of the reference's Clash. Conditions: the instructions are right.
-/
import Derived.Test.YtlnfmipcbhhkhaaCoreE
import Derived.Test.YtlnfmipcbhhkhaaCoreK
import Derived.Test.YtlnfmipcbhhkhaaHeld3
namespace Go.Proofs.Ytlnfmipcbhhkhaa
set_option linter.unusedVariables false
open Go.RowKit Adj

namespace Cr
/-- The cells of the two instructions. -/
def S2 (w : World) (x y : AdjC.I) (W : World) : Prop :=
  (W.cell? ⟨w.heap.size, 0, none⟩ = some (.int .i64 x.d) ∧ W.cell? ⟨w.heap.size, 1, none⟩ = some (.int .i64 x.a) ∧ W.cell? ⟨w.heap.size, 2, none⟩ = some (.int .i64 x.b) ∧ W.cell? ⟨w.heap.size, 3, none⟩ = some (.int .i64 x.c) ∧ W.cell? ⟨w.heap.size, 4, none⟩ = some (.int .i64 x.n) ∧ W.cell? ⟨w.heap.size, 5, none⟩ = some (.int .i64 x.v)) ∧
  W.cell? ⟨w.heap.size + 1, 0, none⟩ = some (.int .i64 y.d) ∧ W.cell? ⟨w.heap.size + 1, 1, none⟩ = some (.int .i64 y.a) ∧ W.cell? ⟨w.heap.size + 1, 2, none⟩ = some (.int .i64 y.b) ∧ W.cell? ⟨w.heap.size + 1, 3, none⟩ = some (.int .i64 y.c) ∧ W.cell? ⟨w.heap.size + 1, 4, none⟩ = some (.int .i64 y.n) ∧ W.cell? ⟨w.heap.size + 1, 5, none⟩ = some (.int .i64 y.v)
theorem S2.same {w W W' : World} {x y : AdjC.I} (h : S2 w x y W) (hc : ∀ b i, b ≤ w.heap.size + 1 → W'.cell? ⟨b, i, none⟩ = W.cell? ⟨b, i, none⟩) : S2 w x y W' := by
  obtain ⟨⟨a0, a1, a2, a3, a4, a5⟩, b0, b1, b2, b3, b4, b5⟩ := h
  exact ⟨⟨(hc _ _ (by omega)).trans a0, (hc _ _ (by omega)).trans a1, (hc _ _ (by omega)).trans a2, (hc _ _ (by omega)).trans a3, (hc _ _ (by omega)).trans a4, (hc _ _ (by omega)).trans a5⟩,
    (hc _ _ (by omega)).trans b0, (hc _ _ (by omega)).trans b1, (hc _ _ (by omega)).trans b2, (hc _ _ (by omega)).trans b3, (hc _ _ (by omega)).trans b4, (hc _ _ (by omega)).trans b5⟩
theorem S2.alloc {w W : World} {x y : AdjC.I} (h : S2 w x y W) (hs : w.heap.size + 1 < W.heap.size) (o : Obj) : S2 w x y (W.alloc o) := h.same fun b i hb => World.cell?_alloc_lt _ _ _ (show b < _ by omega)
theorem S2.below {w W W' : World} {x y : AdjC.I} (h : S2 w x y W) (hb : Below W.heap.size W W') (hs : w.heap.size + 1 < W.heap.size) : S2 w x y W' := h.same fun b i hbi => hb.cell (p := ⟨b, i, none⟩) (show b < _ by omega)
theorem S2.far8 {w W : World} {x y : AdjC.I} {g : Nat} (h : S2 w x y W) (hg : w.heap.size + 1 < g) (T : (Int × Int) × (Int × Int) × (Int × Int) × (Int × Int)) : S2 w x y ((((((((W.setCell ⟨g, 0, none⟩ (.int .i64 T.1.1)).setCell ⟨g, 1, none⟩ (.int .i64 T.1.2)).setCell ⟨g, 2, none⟩ (.int .i64 T.2.1.1)).setCell ⟨g, 3, none⟩ (.int .i64 T.2.1.2)).setCell ⟨g, 4, none⟩ (.int .i64 T.2.2.1.1)).setCell ⟨g, 5, none⟩ (.int .i64 T.2.2.1.2)).setCell ⟨g, 6, none⟩ (.int .i64 T.2.2.2.1)).setCell ⟨g, 7, none⟩ (.int .i64 T.2.2.2.2)) :=
  h.same fun b i hb => by
    have e : ∀ (X : World) (k : Nat) (v : Value), (X.setCell ⟨g, k, none⟩ v).cell? ⟨b, i, none⟩ = X.cell? ⟨b, i, none⟩ := fun X k v => World.cell?_setCell_other _ _ _ _ (fun e => by injection e with e; omega)
    simp only [e]
/-- The eight cells of what is touched. -/
def tc (T : (Int × Int) × (Int × Int) × (Int × Int) × (Int × Int)) : Array Value := #[.int .i64 T.1.1, .int .i64 T.1.2, .int .i64 T.2.1.1, .int .i64 T.2.1.2, .int .i64 T.2.2.1.1, .int .i64 T.2.2.1.2, .int .i64 T.2.2.2.1, .int .i64 T.2.2.2.2]
theorem blkv8 {W : World} {g : Nat} {t : TypeId} (h : Blk W g t #[.int .i64 0, .int .i64 0, .int .i64 0, .int .i64 0, .int .i64 0, .int .i64 0, .int .i64 0, .int .i64 0]) (a0 a1 a2 a3 a4 a5 a6 a7 : Value) :
    Blk ((((((((W.setCell ⟨g, 0, none⟩ a0).setCell ⟨g, 1, none⟩ a1).setCell ⟨g, 2, none⟩ a2).setCell ⟨g, 3, none⟩ a3).setCell ⟨g, 4, none⟩ a4).setCell ⟨g, 5, none⟩ a5).setCell ⟨g, 6, none⟩ a6).setCell ⟨g, 7, none⟩ a7) g t #[a0, a1, a2, a3, a4, a5, a6, a7] := by
  have h2 := ((((((((h.set_ 0 a0).set_ 1 a1).set_ 2 a2).set_ 3 a3).set_ 4 a4).set_ 5 a5).set_ 6 a6).set_ 7 a7)
  simpa only [List.setIfInBounds_toArray, List.set_cons_zero, List.set_cons_succ] using h2
theorem blk8 {W : World} {g : Nat} {t : TypeId} (h : Blk W g t #[.int .i64 0, .int .i64 0, .int .i64 0, .int .i64 0, .int .i64 0, .int .i64 0, .int .i64 0, .int .i64 0]) (T : (Int × Int) × (Int × Int) × (Int × Int) × (Int × Int)) : Blk ((((((((W.setCell ⟨g, 0, none⟩ (.int .i64 T.1.1)).setCell ⟨g, 1, none⟩ (.int .i64 T.1.2)).setCell ⟨g, 2, none⟩ (.int .i64 T.2.1.1)).setCell ⟨g, 3, none⟩ (.int .i64 T.2.1.2)).setCell ⟨g, 4, none⟩ (.int .i64 T.2.2.1.1)).setCell ⟨g, 5, none⟩ (.int .i64 T.2.2.1.2)).setCell ⟨g, 6, none⟩ (.int .i64 T.2.2.2.1)).setCell ⟨g, 7, none⟩ (.int .i64 T.2.2.2.2)) g t (tc T) := blkv8 h _ _ _ _ _ _ _ _
theorem far8 {W : World} {g g' : Nat} {t : TypeId} {cs : Array Value} (h : Blk W g' t cs) (hg : g' ≠ g) (T : (Int × Int) × (Int × Int) × (Int × Int) × (Int × Int)) : Blk ((((((((W.setCell ⟨g, 0, none⟩ (.int .i64 T.1.1)).setCell ⟨g, 1, none⟩ (.int .i64 T.1.2)).setCell ⟨g, 2, none⟩ (.int .i64 T.2.1.1)).setCell ⟨g, 3, none⟩ (.int .i64 T.2.1.2)).setCell ⟨g, 4, none⟩ (.int .i64 T.2.2.1.1)).setCell ⟨g, 5, none⟩ (.int .i64 T.2.2.1.2)).setCell ⟨g, 6, none⟩ (.int .i64 T.2.2.2.1)).setCell ⟨g, 7, none⟩ (.int .i64 T.2.2.2.2)) g' t cs :=
  ((((((((h.far (p := ⟨g, 0, none⟩) hg _).far (p := ⟨g, 1, none⟩) hg _).far (p := ⟨g, 2, none⟩) hg _).far (p := ⟨g, 3, none⟩) hg _).far (p := ⟨g, 4, none⟩) hg _).far (p := ⟨g, 5, none⟩) hg _).far (p := ⟨g, 6, none⟩) hg _).far (p := ⟨g, 7, none⟩) hg _)
theorem below8 {N : Nat} {w W : World} {g : Nat} (h : Below N w W) (hg : N ≤ g) (T : (Int × Int) × (Int × Int) × (Int × Int) × (Int × Int)) : Below N w ((((((((W.setCell ⟨g, 0, none⟩ (.int .i64 T.1.1)).setCell ⟨g, 1, none⟩ (.int .i64 T.1.2)).setCell ⟨g, 2, none⟩ (.int .i64 T.2.1.1)).setCell ⟨g, 3, none⟩ (.int .i64 T.2.1.2)).setCell ⟨g, 4, none⟩ (.int .i64 T.2.2.1.1)).setCell ⟨g, 5, none⟩ (.int .i64 T.2.2.1.2)).setCell ⟨g, 6, none⟩ (.int .i64 T.2.2.2.1)).setCell ⟨g, 7, none⟩ (.int .i64 T.2.2.2.2)) :=
  ((((((((h.setCell (p := ⟨g, 0, none⟩) hg _).setCell (p := ⟨g, 1, none⟩) hg _).setCell (p := ⟨g, 2, none⟩) hg _).setCell (p := ⟨g, 3, none⟩) hg _).setCell (p := ⟨g, 4, none⟩) hg _).setCell (p := ⟨g, 5, none⟩) hg _).setCell (p := ⟨g, 6, none⟩) hg _).setCell (p := ⟨g, 7, none⟩) hg _)
/-- Both have been told. -/
def Told (w : World) (x y : AdjC.I) (g h : Nat) (W : World) : Prop := Below w.heap.size w W ∧ Blk W g 75 (tc (AdjC.touch x)) ∧ Blk W h 75 (tc (AdjC.touch y))
theorem laidS (w : World) (x y : AdjC.I) : S2 w x y ((w.alloc (.cells #[.int .i64 x.d, .int .i64 x.a, .int .i64 x.b, .int .i64 x.c, .int .i64 x.n, .int .i64 x.v] 42)).alloc (.cells #[.int .i64 y.d, .int .i64 y.a, .int .i64 y.b, .int .i64 y.c, .int .i64 y.n, .int .i64 y.v] 42)) := by
  have h1 := (Blk.new w 42 #[.int .i64 x.d, .int .i64 x.a, .int .i64 x.b, .int .i64 x.c, .int .i64 x.n, .int .i64 x.v]).alloc (.cells #[.int .i64 y.d, .int .i64 y.a, .int .i64 y.b, .int .i64 y.c, .int .i64 y.n, .int .i64 y.v] 42)
  have h2 := (laid1 w x y).2
  exact ⟨⟨h1.cell 0, h1.cell 1, h1.cell 2, h1.cell 3, h1.cell 4, h1.cell 5⟩, h2.cell 0, h2.cell 1, h2.cell 2, h2.cell 3, h2.cell 4, h2.cell 5⟩
theorem touch_smallI {x : AdjC.I} (k : 1 ≤ x.d ∧ x.d ≤ 14) (h : SmallI x) : Small (AdjC.touch x).1 ∧ Small (AdjC.touch x).2.1 ∧ Small (AdjC.touch x).2.2.1 ∧ Small (AdjC.touch x).2.2.2 := by
  have z : Small (0, 0) := by unfold Small; simp only; omega
  have hw : Small (AdjC.touch x).2.2.2 := by rw [AdjC.touch_write k]; exact h _ (by simp)
  have hr : ∀ s ∈ AdjC.reads x, Small s := fun s hs => h s (by simp [hs])
  obtain ⟨d, a, b, c, n, v⟩ := x
  refine ⟨?_, ?_, ?_, hw⟩
  all_goals
    clear hw h
    rcases AdjC.kinds k with e | e | e | e | e | e | e | e | e | e | e | e | e | e <;> (simp only at e; subst e; first | exact z | exact hr _ (by simp [AdjC.touch, AdjC.reads]) | (simp only [AdjC.touch]; exact z))
theorem clash_touch {x y : AdjC.I} (kx : 1 ≤ x.d ∧ x.d ≤ 14) (ky : 1 ≤ y.d ∧ y.d ≤ 14) :
    AdjC.clash x y = (AdjC.meet (AdjC.touch x).2.2.2 (AdjC.touch y).2.2.2 || (AdjC.meet (AdjC.touch y).1 (AdjC.touch x).2.2.2 || AdjC.meet (AdjC.touch y).2.1 (AdjC.touch x).2.2.2 || AdjC.meet (AdjC.touch y).2.2.1 (AdjC.touch x).2.2.2) ||
      (AdjC.meet (AdjC.touch x).1 (AdjC.touch y).2.2.2 || AdjC.meet (AdjC.touch x).2.1 (AdjC.touch y).2.2.2 || AdjC.meet (AdjC.touch x).2.2.1 (AdjC.touch y).2.2.2)) := by
  unfold AdjC.clash
  rw [AdjC.touch_reads ky (fun s => AdjC.meet s (AdjC.write x)) (AdjC.meet_none' _), AdjC.touch_reads kx (fun s => AdjC.meet s (AdjC.write y)) (AdjC.meet_none' _), AdjC.touch_write kx, AdjC.touch_write ky]
end Cr
set_option maxRecDepth 100000 in
set_option maxHeartbeats 16000000 in
theorem refClash_any (x y : AdjC.I) (w : World) (hx : Cr.SmallI x) (hy : Cr.SmallI y) (kx : 1 ≤ x.d ∧ x.d ≤ 14) (ky : 1 ≤ y.d ∧ y.d ≤ 14) :
    Calls Try.prog 17 #[Cr.insV x, Cr.insV y] w fun e w' => e = .returned (.bool (AdjC.clash x y)) ∧ Below w.heap.size w w' := by
  have HTX := Lib.hid (fun W => Touched_any x W)
  have HTY := Lib.hid (fun W => Touched_any y W)
  have HBS := Lib.hid (Cr.laid1 w x y).1
  have HSS := Lib.hid (Cr.laidS w x y)
  simp only [Cr.insV] at HTX HTY ⊢
  unfold Cr.touchV at HTX HTY
  go_enter Try.func17, Try.ntmps17
  go_upto_region 1 with (fail)
  have hz : w.heap.size + 1 < ((w.alloc (.cells #[.int .i64 x.d, .int .i64 x.a, .int .i64 x.b, .int .i64 x.c, .int .i64 x.n, .int .i64 x.v] 42)).alloc (.cells #[.int .i64 y.d, .int .i64 y.a, .int .i64 y.b, .int .i64 y.c, .int .i64 y.n, .int .i64 y.v] 42)).heap.size := by simp
  generalize (w.alloc (.cells #[.int .i64 x.d, .int .i64 x.a, .int .i64 x.b, .int .i64 x.c, .int .i64 x.n, .int .i64 x.v] 42)).alloc (.cells #[.int .i64 y.d, .int .i64 y.a, .int .i64 y.b, .int .i64 y.c, .int .i64 y.n, .int .i64 y.v] 42) = W1 at HBS HSS hz ⊢
  go_cut [5, 6] (fun s5 s6 wx => ∃ g h : Nat, s5 = .pointer (some ⟨g, 0, none⟩) ∧ s6 = .pointer (some ⟨h, 0, none⟩) ∧ Cr.Told w x y g h wx)
  case first =>
    refine wp_region_T (Cr.S2 w x y) 7 (fun _ => True) 7 8 rfl (by kernel_rfl) ⟨HSS.out, trivial⟩ (fun hHeld => ?_)
    simp only [List.replicate_succ, List.replicate_zero]
    refine wpT_take 0 8 (v := ?_) hHeld.1 hHeld.2 rfl rfl (by kernel_rfl) (fun _ _ _ h => h) rfl ?_ ?_
    rotate_left
    · (intro w hSw; unfold Cr.S2 at hSw; go_simp; try with_reducible rfl)
    try simp only [Act.put, List.setIfInBounds_toArray, List.set_cons_zero, List.set_cons_succ]
    refine wpT_take 2 10 (v := ?_) hHeld.1 hHeld.2 rfl rfl (by kernel_rfl) (fun _ _ _ h => h) rfl ?_ ?_
    rotate_left
    · (intro w hSw; unfold Cr.S2 at hSw; go_simp; try with_reducible rfl)
    try simp only [Act.put, List.setIfInBounds_toArray, List.set_cons_zero, List.set_cons_succ]
    have HB0 := Lib.hid HBS.out.drew
    have HS0 := Lib.hid (show Cr.S2 w x y W1.drew from HSS.out)
    have hz0 : w.heap.size + 1 < W1.drew.heap.size := hz
    generalize W1.drew = W0 at HB0 HS0 hz0 hHeld ⊢
    clear HBS HSS hz
    refine wpT_three 1 4 5 (by kernel_rfl) (stepT_early rfl rfl (fun K hK => ?_)) (stepT_early rfl rfl (fun K hK => ?_)) (stepT_early rfl rfl (fun K hK => ?_))
    · go_simp
      ((with_reducible refine (HTX.out _).mono ?_); rintro e W1 ⟨rfl, hb⟩)
      have HB1 := Lib.hid (HB0.out.trans (hb.mono HB0.out.size))
      have HS1 := Lib.hid (HS0.out.below hb (by omega))
      have hz1 : W0.heap.size ≤ W1.heap.size := hb.size
      clear hb
      try go_simp
      refine hK.out _ _ ⟨HS1.out, trivial⟩ (fun hHeld2 => ?_)
      clear hK K hHeld
      have hHeld := hHeld2
      clear hHeld2
      try simp only [List.setIfInBounds_toArray, List.set_cons_zero, List.set_cons_succ]
      refine wpT_three 3 4 5 (by kernel_rfl) (stepT_early rfl rfl (fun K hK => ?_)) (stepT_early rfl rfl (fun K hK => ?_)) (stepT_early rfl rfl (fun K hK => ?_))
      · go_simp
        ((with_reducible refine (HTY.out _).mono ?_); rintro e W2 ⟨rfl, hb⟩)
        have HB2 := Lib.hid (HB1.out.trans (hb.mono HB1.out.size))
        have HS2 := Lib.hid (HS1.out.below hb (by omega))
        have hz2 : W1.heap.size ≤ W2.heap.size := hb.size
        clear hb
        try go_simp
        refine hK.out _ _ ⟨HS2.out, trivial⟩ (fun hHeld2 => ?_)
        clear hK K hHeld
        have hHeld := hHeld2
        clear hHeld2
        try simp only [List.setIfInBounds_toArray, List.set_cons_zero, List.set_cons_succ]
        refine wpT_two 4 5 (by kernel_rfl) (stepT_early rfl rfl (fun K hK => ?_)) (stepT_early rfl rfl (fun K hK => ?_))
        · go_simp
          have HB3 := Lib.hid (HB2.out.alloc (by omega) (.cells #[.int .i64 0, .int .i64 0, .int .i64 0, .int .i64 0, .int .i64 0, .int .i64 0, .int .i64 0, .int .i64 0] 75))
          have HS3 := Lib.hid (HS2.out.alloc (by omega) (.cells #[.int .i64 0, .int .i64 0, .int .i64 0, .int .i64 0, .int .i64 0, .int .i64 0, .int .i64 0, .int .i64 0] 75))
          have H53 := Lib.hid (Blk.new W2 75 #[.int .i64 0, .int .i64 0, .int .i64 0, .int .i64 0, .int .i64 0, .int .i64 0, .int .i64 0, .int .i64 0])
          have hz3 : W2.heap.size < (W2.alloc (.cells #[.int .i64 0, .int .i64 0, .int .i64 0, .int .i64 0, .int .i64 0, .int .i64 0, .int .i64 0, .int .i64 0] 75)).heap.size := by simp
          refine hK.out _ _ ⟨HS3.out, trivial⟩ (fun hHeld2 => ?_)
          clear hK K hHeld
          have hHeld := hHeld2
          clear hHeld2
          try simp only [List.setIfInBounds_toArray, List.set_cons_zero, List.set_cons_succ]
          generalize W2.alloc (.cells #[.int .i64 0, .int .i64 0, .int .i64 0, .int .i64 0, .int .i64 0, .int .i64 0, .int .i64 0, .int .i64 0] 75) = W3 at HB3 HS3 H53 hz3 hHeld ⊢
          refine wpT_one 5 (by kernel_rfl) (stepT_early rfl rfl (fun K hK => ?_))
          go_simp
          have HB4 := Lib.hid (HB3.out.alloc (by omega) (.cells #[.int .i64 0, .int .i64 0, .int .i64 0, .int .i64 0, .int .i64 0, .int .i64 0, .int .i64 0, .int .i64 0] 75))
          have HS4 := Lib.hid (HS3.out.alloc (by omega) (.cells #[.int .i64 0, .int .i64 0, .int .i64 0, .int .i64 0, .int .i64 0, .int .i64 0, .int .i64 0, .int .i64 0] 75))
          have H54 := Lib.hid (H53.out.alloc (.cells #[.int .i64 0, .int .i64 0, .int .i64 0, .int .i64 0, .int .i64 0, .int .i64 0, .int .i64 0, .int .i64 0] 75))
          have H64 := Lib.hid (Blk.new W3 75 #[.int .i64 0, .int .i64 0, .int .i64 0, .int .i64 0, .int .i64 0, .int .i64 0, .int .i64 0, .int .i64 0])
          have hz4 : W3.heap.size < (W3.alloc (.cells #[.int .i64 0, .int .i64 0, .int .i64 0, .int .i64 0, .int .i64 0, .int .i64 0, .int .i64 0, .int .i64 0] 75)).heap.size := by simp
          refine hK.out _ _ ⟨HS4.out, trivial⟩ (fun hHeld2 => ?_)
          clear hK K hHeld
          have hHeld := hHeld2
          clear hHeld2
          try simp only [List.setIfInBounds_toArray, List.set_cons_zero, List.set_cons_succ]
          generalize W3.alloc (.cells #[.int .i64 0, .int .i64 0, .int .i64 0, .int .i64 0, .int .i64 0, .int .i64 0, .int .i64 0, .int .i64 0] 75) = W4 at HB4 HS4 H54 H64 hz4 hHeld ⊢
          have q0 := H54.out.cell 0
          have q1 := H54.out.cell 1
          have q2 := H54.out.cell 2
          have q3 := H54.out.cell 3
          have q4 := H54.out.cell 4
          have q5 := H54.out.cell 5
          have q6 := H54.out.cell 6
          have q7 := H54.out.cell 7
          have f0 := H54.out.frozen 0
          have f1 := H54.out.frozen 1
          have f2 := H54.out.frozen 2
          have f3 := H54.out.frozen 3
          have f4 := H54.out.frozen 4
          have f5 := H54.out.frozen 5
          have f6 := H54.out.frozen 6
          have f7 := H54.out.frozen 7
          refine wpT_one 6 (by kernel_rfl) (stepT_early rfl rfl (fun K hK => ?_))
          go_simp
          refine hK.out _ _ ⟨HS4.out.far8 (g := W2.heap.size) (by omega) (AdjC.touch x), trivial⟩ (fun hHeld2 => ?_)
          clear hK K hHeld hHeld2
          clear q0 f0 q1 f1 q2 f2 q3 f3 q4 f4 q5 f5 q6 f6 q7 f7
          try simp only [List.setIfInBounds_toArray, List.set_cons_zero, List.set_cons_succ]
          have HB9 := Lib.hid (Cr.below8 (g := W2.heap.size) HB4.out (by omega) (AdjC.touch x))
          have H59 := Lib.hid (Cr.blk8 H54.out (AdjC.touch x))
          have H69 := Lib.hid (Cr.far8 (g := W2.heap.size) H64.out (by omega) (AdjC.touch x))
          generalize ((((((((W4.setCell ⟨W2.heap.size, 0, none⟩ (.int .i64 (AdjC.touch x).1.1)).setCell ⟨W2.heap.size, 1, none⟩ (.int .i64 (AdjC.touch x).1.2)).setCell ⟨W2.heap.size, 2, none⟩ (.int .i64 (AdjC.touch x).2.1.1)).setCell ⟨W2.heap.size, 3, none⟩ (.int .i64 (AdjC.touch x).2.1.2)).setCell ⟨W2.heap.size, 4, none⟩ (.int .i64 (AdjC.touch x).2.2.1.1)).setCell ⟨W2.heap.size, 5, none⟩ (.int .i64 (AdjC.touch x).2.2.1.2)).setCell ⟨W2.heap.size, 6, none⟩ (.int .i64 (AdjC.touch x).2.2.2.1)).setCell ⟨W2.heap.size, 7, none⟩ (.int .i64 (AdjC.touch x).2.2.2.2)) = W9 at HB9 H59 H69 ⊢
          have q0 := H69.out.cell 0
          have q1 := H69.out.cell 1
          have q2 := H69.out.cell 2
          have q3 := H69.out.cell 3
          have q4 := H69.out.cell 4
          have q5 := H69.out.cell 5
          have q6 := H69.out.cell 6
          have q7 := H69.out.cell 7
          have f0 := H69.out.frozen 0
          have f1 := H69.out.frozen 1
          have f2 := H69.out.frozen 2
          have f3 := H69.out.frozen 3
          have f4 := H69.out.frozen 4
          have f5 := H69.out.frozen 5
          have f6 := H69.out.frozen 6
          have f7 := H69.out.frozen 7
          refine wpT_tail [_] 7 [] rfl (by kernel_rfl) ?_
          go_wp2_with fail
          go_meet
          case rel => exact ⟨W2.heap.size, W3.heap.size, rfl, rfl, Cr.below8 (g := W3.heap.size) HB9.out (by omega) (AdjC.touch y), Cr.far8 (g := W3.heap.size) H59.out (by omega) (AdjC.touch y), Cr.blk8 H69.out (AdjC.touch y)⟩
        · go_simp
          have HB3 := Lib.hid (HB2.out.alloc (by omega) (.cells #[.int .i64 0, .int .i64 0, .int .i64 0, .int .i64 0, .int .i64 0, .int .i64 0, .int .i64 0, .int .i64 0] 75))
          have HS3 := Lib.hid (HS2.out.alloc (by omega) (.cells #[.int .i64 0, .int .i64 0, .int .i64 0, .int .i64 0, .int .i64 0, .int .i64 0, .int .i64 0, .int .i64 0] 75))
          have H63 := Lib.hid (Blk.new W2 75 #[.int .i64 0, .int .i64 0, .int .i64 0, .int .i64 0, .int .i64 0, .int .i64 0, .int .i64 0, .int .i64 0])
          have hz3 : W2.heap.size < (W2.alloc (.cells #[.int .i64 0, .int .i64 0, .int .i64 0, .int .i64 0, .int .i64 0, .int .i64 0, .int .i64 0, .int .i64 0] 75)).heap.size := by simp
          refine hK.out _ _ ⟨HS3.out, trivial⟩ (fun hHeld2 => ?_)
          clear hK K hHeld
          have hHeld := hHeld2
          clear hHeld2
          try simp only [List.setIfInBounds_toArray, List.set_cons_zero, List.set_cons_succ]
          generalize W2.alloc (.cells #[.int .i64 0, .int .i64 0, .int .i64 0, .int .i64 0, .int .i64 0, .int .i64 0, .int .i64 0, .int .i64 0] 75) = W3 at HB3 HS3 H63 hz3 hHeld ⊢
          refine wpT_one 4 (by kernel_rfl) (stepT_early rfl rfl (fun K hK => ?_))
          go_simp
          have HB4 := Lib.hid (HB3.out.alloc (by omega) (.cells #[.int .i64 0, .int .i64 0, .int .i64 0, .int .i64 0, .int .i64 0, .int .i64 0, .int .i64 0, .int .i64 0] 75))
          have HS4 := Lib.hid (HS3.out.alloc (by omega) (.cells #[.int .i64 0, .int .i64 0, .int .i64 0, .int .i64 0, .int .i64 0, .int .i64 0, .int .i64 0, .int .i64 0] 75))
          have H64 := Lib.hid (H63.out.alloc (.cells #[.int .i64 0, .int .i64 0, .int .i64 0, .int .i64 0, .int .i64 0, .int .i64 0, .int .i64 0, .int .i64 0] 75))
          have H54 := Lib.hid (Blk.new W3 75 #[.int .i64 0, .int .i64 0, .int .i64 0, .int .i64 0, .int .i64 0, .int .i64 0, .int .i64 0, .int .i64 0])
          have hz4 : W3.heap.size < (W3.alloc (.cells #[.int .i64 0, .int .i64 0, .int .i64 0, .int .i64 0, .int .i64 0, .int .i64 0, .int .i64 0, .int .i64 0] 75)).heap.size := by simp
          refine hK.out _ _ ⟨HS4.out, trivial⟩ (fun hHeld2 => ?_)
          clear hK K hHeld
          have hHeld := hHeld2
          clear hHeld2
          try simp only [List.setIfInBounds_toArray, List.set_cons_zero, List.set_cons_succ]
          generalize W3.alloc (.cells #[.int .i64 0, .int .i64 0, .int .i64 0, .int .i64 0, .int .i64 0, .int .i64 0, .int .i64 0, .int .i64 0] 75) = W4 at HB4 HS4 H54 H64 hz4 hHeld ⊢
          have q0 := H54.out.cell 0
          have q1 := H54.out.cell 1
          have q2 := H54.out.cell 2
          have q3 := H54.out.cell 3
          have q4 := H54.out.cell 4
          have q5 := H54.out.cell 5
          have q6 := H54.out.cell 6
          have q7 := H54.out.cell 7
          have f0 := H54.out.frozen 0
          have f1 := H54.out.frozen 1
          have f2 := H54.out.frozen 2
          have f3 := H54.out.frozen 3
          have f4 := H54.out.frozen 4
          have f5 := H54.out.frozen 5
          have f6 := H54.out.frozen 6
          have f7 := H54.out.frozen 7
          refine wpT_one 6 (by kernel_rfl) (stepT_early rfl rfl (fun K hK => ?_))
          go_simp
          refine hK.out _ _ ⟨HS4.out.far8 (g := W3.heap.size) (by omega) (AdjC.touch x), trivial⟩ (fun hHeld2 => ?_)
          clear hK K hHeld hHeld2
          clear q0 f0 q1 f1 q2 f2 q3 f3 q4 f4 q5 f5 q6 f6 q7 f7
          try simp only [List.setIfInBounds_toArray, List.set_cons_zero, List.set_cons_succ]
          have HB9 := Lib.hid (Cr.below8 (g := W3.heap.size) HB4.out (by omega) (AdjC.touch x))
          have H59 := Lib.hid (Cr.blk8 H54.out (AdjC.touch x))
          have H69 := Lib.hid (Cr.far8 (g := W3.heap.size) H64.out (by omega) (AdjC.touch x))
          generalize ((((((((W4.setCell ⟨W3.heap.size, 0, none⟩ (.int .i64 (AdjC.touch x).1.1)).setCell ⟨W3.heap.size, 1, none⟩ (.int .i64 (AdjC.touch x).1.2)).setCell ⟨W3.heap.size, 2, none⟩ (.int .i64 (AdjC.touch x).2.1.1)).setCell ⟨W3.heap.size, 3, none⟩ (.int .i64 (AdjC.touch x).2.1.2)).setCell ⟨W3.heap.size, 4, none⟩ (.int .i64 (AdjC.touch x).2.2.1.1)).setCell ⟨W3.heap.size, 5, none⟩ (.int .i64 (AdjC.touch x).2.2.1.2)).setCell ⟨W3.heap.size, 6, none⟩ (.int .i64 (AdjC.touch x).2.2.2.1)).setCell ⟨W3.heap.size, 7, none⟩ (.int .i64 (AdjC.touch x).2.2.2.2)) = W9 at HB9 H59 H69 ⊢
          have q0 := H69.out.cell 0
          have q1 := H69.out.cell 1
          have q2 := H69.out.cell 2
          have q3 := H69.out.cell 3
          have q4 := H69.out.cell 4
          have q5 := H69.out.cell 5
          have q6 := H69.out.cell 6
          have q7 := H69.out.cell 7
          have f0 := H69.out.frozen 0
          have f1 := H69.out.frozen 1
          have f2 := H69.out.frozen 2
          have f3 := H69.out.frozen 3
          have f4 := H69.out.frozen 4
          have f5 := H69.out.frozen 5
          have f6 := H69.out.frozen 6
          have f7 := H69.out.frozen 7
          refine wpT_tail [_] 7 [] rfl (by kernel_rfl) ?_
          go_wp2_with fail
          go_meet
          case rel => exact ⟨W3.heap.size, W2.heap.size, rfl, rfl, Cr.below8 (g := W2.heap.size) HB9.out (by omega) (AdjC.touch y), Cr.far8 (g := W2.heap.size) H59.out (by omega) (AdjC.touch y), Cr.blk8 H69.out (AdjC.touch y)⟩
      · go_simp
        have HB2 := Lib.hid (HB1.out.alloc (by omega) (.cells #[.int .i64 0, .int .i64 0, .int .i64 0, .int .i64 0, .int .i64 0, .int .i64 0, .int .i64 0, .int .i64 0] 75))
        have HS2 := Lib.hid (HS1.out.alloc (by omega) (.cells #[.int .i64 0, .int .i64 0, .int .i64 0, .int .i64 0, .int .i64 0, .int .i64 0, .int .i64 0, .int .i64 0] 75))
        have H52 := Lib.hid (Blk.new W1 75 #[.int .i64 0, .int .i64 0, .int .i64 0, .int .i64 0, .int .i64 0, .int .i64 0, .int .i64 0, .int .i64 0])
        have hz2 : W1.heap.size < (W1.alloc (.cells #[.int .i64 0, .int .i64 0, .int .i64 0, .int .i64 0, .int .i64 0, .int .i64 0, .int .i64 0, .int .i64 0] 75)).heap.size := by simp
        refine hK.out _ _ ⟨HS2.out, trivial⟩ (fun hHeld2 => ?_)
        clear hK K hHeld
        have hHeld := hHeld2
        clear hHeld2
        try simp only [List.setIfInBounds_toArray, List.set_cons_zero, List.set_cons_succ]
        generalize W1.alloc (.cells #[.int .i64 0, .int .i64 0, .int .i64 0, .int .i64 0, .int .i64 0, .int .i64 0, .int .i64 0, .int .i64 0] 75) = W2 at HB2 HS2 H52 hz2 hHeld ⊢
        refine wpT_two 3 5 (by kernel_rfl) (stepT_early rfl rfl (fun K hK => ?_)) (stepT_early rfl rfl (fun K hK => ?_))
        · go_simp
          ((with_reducible refine (HTY.out _).mono ?_); rintro e W3 ⟨rfl, hb⟩)
          have HB3 := Lib.hid (HB2.out.trans (hb.mono HB2.out.size))
          have HS3 := Lib.hid (HS2.out.below hb (by omega))
          have H53 := Lib.hid (H52.out.below hb H52.out.lt)
          have hz3 : W2.heap.size ≤ W3.heap.size := hb.size
          clear hb
          try go_simp
          refine hK.out _ _ ⟨HS3.out, trivial⟩ (fun hHeld2 => ?_)
          clear hK K hHeld
          have hHeld := hHeld2
          clear hHeld2
          try simp only [List.setIfInBounds_toArray, List.set_cons_zero, List.set_cons_succ]
          refine wpT_one 5 (by kernel_rfl) (stepT_early rfl rfl (fun K hK => ?_))
          go_simp
          have HB4 := Lib.hid (HB3.out.alloc (by omega) (.cells #[.int .i64 0, .int .i64 0, .int .i64 0, .int .i64 0, .int .i64 0, .int .i64 0, .int .i64 0, .int .i64 0] 75))
          have HS4 := Lib.hid (HS3.out.alloc (by omega) (.cells #[.int .i64 0, .int .i64 0, .int .i64 0, .int .i64 0, .int .i64 0, .int .i64 0, .int .i64 0, .int .i64 0] 75))
          have H54 := Lib.hid (H53.out.alloc (.cells #[.int .i64 0, .int .i64 0, .int .i64 0, .int .i64 0, .int .i64 0, .int .i64 0, .int .i64 0, .int .i64 0] 75))
          have H64 := Lib.hid (Blk.new W3 75 #[.int .i64 0, .int .i64 0, .int .i64 0, .int .i64 0, .int .i64 0, .int .i64 0, .int .i64 0, .int .i64 0])
          have hz4 : W3.heap.size < (W3.alloc (.cells #[.int .i64 0, .int .i64 0, .int .i64 0, .int .i64 0, .int .i64 0, .int .i64 0, .int .i64 0, .int .i64 0] 75)).heap.size := by simp
          refine hK.out _ _ ⟨HS4.out, trivial⟩ (fun hHeld2 => ?_)
          clear hK K hHeld
          have hHeld := hHeld2
          clear hHeld2
          try simp only [List.setIfInBounds_toArray, List.set_cons_zero, List.set_cons_succ]
          generalize W3.alloc (.cells #[.int .i64 0, .int .i64 0, .int .i64 0, .int .i64 0, .int .i64 0, .int .i64 0, .int .i64 0, .int .i64 0] 75) = W4 at HB4 HS4 H54 H64 hz4 hHeld ⊢
          have q0 := H54.out.cell 0
          have q1 := H54.out.cell 1
          have q2 := H54.out.cell 2
          have q3 := H54.out.cell 3
          have q4 := H54.out.cell 4
          have q5 := H54.out.cell 5
          have q6 := H54.out.cell 6
          have q7 := H54.out.cell 7
          have f0 := H54.out.frozen 0
          have f1 := H54.out.frozen 1
          have f2 := H54.out.frozen 2
          have f3 := H54.out.frozen 3
          have f4 := H54.out.frozen 4
          have f5 := H54.out.frozen 5
          have f6 := H54.out.frozen 6
          have f7 := H54.out.frozen 7
          refine wpT_one 6 (by kernel_rfl) (stepT_early rfl rfl (fun K hK => ?_))
          go_simp
          refine hK.out _ _ ⟨HS4.out.far8 (g := W1.heap.size) (by omega) (AdjC.touch x), trivial⟩ (fun hHeld2 => ?_)
          clear hK K hHeld hHeld2
          clear q0 f0 q1 f1 q2 f2 q3 f3 q4 f4 q5 f5 q6 f6 q7 f7
          try simp only [List.setIfInBounds_toArray, List.set_cons_zero, List.set_cons_succ]
          have HB9 := Lib.hid (Cr.below8 (g := W1.heap.size) HB4.out (by omega) (AdjC.touch x))
          have H59 := Lib.hid (Cr.blk8 H54.out (AdjC.touch x))
          have H69 := Lib.hid (Cr.far8 (g := W1.heap.size) H64.out (by omega) (AdjC.touch x))
          generalize ((((((((W4.setCell ⟨W1.heap.size, 0, none⟩ (.int .i64 (AdjC.touch x).1.1)).setCell ⟨W1.heap.size, 1, none⟩ (.int .i64 (AdjC.touch x).1.2)).setCell ⟨W1.heap.size, 2, none⟩ (.int .i64 (AdjC.touch x).2.1.1)).setCell ⟨W1.heap.size, 3, none⟩ (.int .i64 (AdjC.touch x).2.1.2)).setCell ⟨W1.heap.size, 4, none⟩ (.int .i64 (AdjC.touch x).2.2.1.1)).setCell ⟨W1.heap.size, 5, none⟩ (.int .i64 (AdjC.touch x).2.2.1.2)).setCell ⟨W1.heap.size, 6, none⟩ (.int .i64 (AdjC.touch x).2.2.2.1)).setCell ⟨W1.heap.size, 7, none⟩ (.int .i64 (AdjC.touch x).2.2.2.2)) = W9 at HB9 H59 H69 ⊢
          have q0 := H69.out.cell 0
          have q1 := H69.out.cell 1
          have q2 := H69.out.cell 2
          have q3 := H69.out.cell 3
          have q4 := H69.out.cell 4
          have q5 := H69.out.cell 5
          have q6 := H69.out.cell 6
          have q7 := H69.out.cell 7
          have f0 := H69.out.frozen 0
          have f1 := H69.out.frozen 1
          have f2 := H69.out.frozen 2
          have f3 := H69.out.frozen 3
          have f4 := H69.out.frozen 4
          have f5 := H69.out.frozen 5
          have f6 := H69.out.frozen 6
          have f7 := H69.out.frozen 7
          refine wpT_tail [_] 7 [] rfl (by kernel_rfl) ?_
          go_wp2_with fail
          go_meet
          case rel => exact ⟨W1.heap.size, W3.heap.size, rfl, rfl, Cr.below8 (g := W3.heap.size) HB9.out (by omega) (AdjC.touch y), Cr.far8 (g := W3.heap.size) H59.out (by omega) (AdjC.touch y), Cr.blk8 H69.out (AdjC.touch y)⟩
        · go_simp
          have HB3 := Lib.hid (HB2.out.alloc (by omega) (.cells #[.int .i64 0, .int .i64 0, .int .i64 0, .int .i64 0, .int .i64 0, .int .i64 0, .int .i64 0, .int .i64 0] 75))
          have HS3 := Lib.hid (HS2.out.alloc (by omega) (.cells #[.int .i64 0, .int .i64 0, .int .i64 0, .int .i64 0, .int .i64 0, .int .i64 0, .int .i64 0, .int .i64 0] 75))
          have H53 := Lib.hid (H52.out.alloc (.cells #[.int .i64 0, .int .i64 0, .int .i64 0, .int .i64 0, .int .i64 0, .int .i64 0, .int .i64 0, .int .i64 0] 75))
          have H63 := Lib.hid (Blk.new W2 75 #[.int .i64 0, .int .i64 0, .int .i64 0, .int .i64 0, .int .i64 0, .int .i64 0, .int .i64 0, .int .i64 0])
          have hz3 : W2.heap.size < (W2.alloc (.cells #[.int .i64 0, .int .i64 0, .int .i64 0, .int .i64 0, .int .i64 0, .int .i64 0, .int .i64 0, .int .i64 0] 75)).heap.size := by simp
          refine hK.out _ _ ⟨HS3.out, trivial⟩ (fun hHeld2 => ?_)
          clear hK K hHeld
          have hHeld := hHeld2
          clear hHeld2
          try simp only [List.setIfInBounds_toArray, List.set_cons_zero, List.set_cons_succ]
          generalize W2.alloc (.cells #[.int .i64 0, .int .i64 0, .int .i64 0, .int .i64 0, .int .i64 0, .int .i64 0, .int .i64 0, .int .i64 0] 75) = W3 at HB3 HS3 H53 H63 hz3 hHeld ⊢
          refine wpT_one 3 (by kernel_rfl) (stepT_early rfl rfl (fun K hK => ?_))
          go_simp
          ((with_reducible refine (HTY.out _).mono ?_); rintro e W4 ⟨rfl, hb⟩)
          have HB4 := Lib.hid (HB3.out.trans (hb.mono HB3.out.size))
          have HS4 := Lib.hid (HS3.out.below hb (by omega))
          have H54 := Lib.hid (H53.out.below hb H53.out.lt)
          have H64 := Lib.hid (H63.out.below hb H63.out.lt)
          have hz4 : W3.heap.size ≤ W4.heap.size := hb.size
          clear hb
          try go_simp
          refine hK.out _ _ ⟨HS4.out, trivial⟩ (fun hHeld2 => ?_)
          clear hK K hHeld
          have hHeld := hHeld2
          clear hHeld2
          try simp only [List.setIfInBounds_toArray, List.set_cons_zero, List.set_cons_succ]
          have q0 := H54.out.cell 0
          have q1 := H54.out.cell 1
          have q2 := H54.out.cell 2
          have q3 := H54.out.cell 3
          have q4 := H54.out.cell 4
          have q5 := H54.out.cell 5
          have q6 := H54.out.cell 6
          have q7 := H54.out.cell 7
          have f0 := H54.out.frozen 0
          have f1 := H54.out.frozen 1
          have f2 := H54.out.frozen 2
          have f3 := H54.out.frozen 3
          have f4 := H54.out.frozen 4
          have f5 := H54.out.frozen 5
          have f6 := H54.out.frozen 6
          have f7 := H54.out.frozen 7
          refine wpT_one 6 (by kernel_rfl) (stepT_early rfl rfl (fun K hK => ?_))
          go_simp
          refine hK.out _ _ ⟨HS4.out.far8 (g := W1.heap.size) (by omega) (AdjC.touch x), trivial⟩ (fun hHeld2 => ?_)
          clear hK K hHeld hHeld2
          clear q0 f0 q1 f1 q2 f2 q3 f3 q4 f4 q5 f5 q6 f6 q7 f7
          try simp only [List.setIfInBounds_toArray, List.set_cons_zero, List.set_cons_succ]
          have HB9 := Lib.hid (Cr.below8 (g := W1.heap.size) HB4.out (by omega) (AdjC.touch x))
          have H59 := Lib.hid (Cr.blk8 H54.out (AdjC.touch x))
          have H69 := Lib.hid (Cr.far8 (g := W1.heap.size) H64.out (by omega) (AdjC.touch x))
          generalize ((((((((W4.setCell ⟨W1.heap.size, 0, none⟩ (.int .i64 (AdjC.touch x).1.1)).setCell ⟨W1.heap.size, 1, none⟩ (.int .i64 (AdjC.touch x).1.2)).setCell ⟨W1.heap.size, 2, none⟩ (.int .i64 (AdjC.touch x).2.1.1)).setCell ⟨W1.heap.size, 3, none⟩ (.int .i64 (AdjC.touch x).2.1.2)).setCell ⟨W1.heap.size, 4, none⟩ (.int .i64 (AdjC.touch x).2.2.1.1)).setCell ⟨W1.heap.size, 5, none⟩ (.int .i64 (AdjC.touch x).2.2.1.2)).setCell ⟨W1.heap.size, 6, none⟩ (.int .i64 (AdjC.touch x).2.2.2.1)).setCell ⟨W1.heap.size, 7, none⟩ (.int .i64 (AdjC.touch x).2.2.2.2)) = W9 at HB9 H59 H69 ⊢
          have q0 := H69.out.cell 0
          have q1 := H69.out.cell 1
          have q2 := H69.out.cell 2
          have q3 := H69.out.cell 3
          have q4 := H69.out.cell 4
          have q5 := H69.out.cell 5
          have q6 := H69.out.cell 6
          have q7 := H69.out.cell 7
          have f0 := H69.out.frozen 0
          have f1 := H69.out.frozen 1
          have f2 := H69.out.frozen 2
          have f3 := H69.out.frozen 3
          have f4 := H69.out.frozen 4
          have f5 := H69.out.frozen 5
          have f6 := H69.out.frozen 6
          have f7 := H69.out.frozen 7
          refine wpT_tail [_] 7 [] rfl (by kernel_rfl) ?_
          go_wp2_with fail
          go_meet
          case rel => exact ⟨W1.heap.size, W2.heap.size, rfl, rfl, Cr.below8 (g := W2.heap.size) HB9.out (by omega) (AdjC.touch y), Cr.far8 (g := W2.heap.size) H59.out (by omega) (AdjC.touch y), Cr.blk8 H69.out (AdjC.touch y)⟩
      · go_simp
        have HB2 := Lib.hid (HB1.out.alloc (by omega) (.cells #[.int .i64 0, .int .i64 0, .int .i64 0, .int .i64 0, .int .i64 0, .int .i64 0, .int .i64 0, .int .i64 0] 75))
        have HS2 := Lib.hid (HS1.out.alloc (by omega) (.cells #[.int .i64 0, .int .i64 0, .int .i64 0, .int .i64 0, .int .i64 0, .int .i64 0, .int .i64 0, .int .i64 0] 75))
        have H62 := Lib.hid (Blk.new W1 75 #[.int .i64 0, .int .i64 0, .int .i64 0, .int .i64 0, .int .i64 0, .int .i64 0, .int .i64 0, .int .i64 0])
        have hz2 : W1.heap.size < (W1.alloc (.cells #[.int .i64 0, .int .i64 0, .int .i64 0, .int .i64 0, .int .i64 0, .int .i64 0, .int .i64 0, .int .i64 0] 75)).heap.size := by simp
        refine hK.out _ _ ⟨HS2.out, trivial⟩ (fun hHeld2 => ?_)
        clear hK K hHeld
        have hHeld := hHeld2
        clear hHeld2
        try simp only [List.setIfInBounds_toArray, List.set_cons_zero, List.set_cons_succ]
        generalize W1.alloc (.cells #[.int .i64 0, .int .i64 0, .int .i64 0, .int .i64 0, .int .i64 0, .int .i64 0, .int .i64 0, .int .i64 0] 75) = W2 at HB2 HS2 H62 hz2 hHeld ⊢
        refine wpT_two 3 4 (by kernel_rfl) (stepT_early rfl rfl (fun K hK => ?_)) (stepT_early rfl rfl (fun K hK => ?_))
        · go_simp
          ((with_reducible refine (HTY.out _).mono ?_); rintro e W3 ⟨rfl, hb⟩)
          have HB3 := Lib.hid (HB2.out.trans (hb.mono HB2.out.size))
          have HS3 := Lib.hid (HS2.out.below hb (by omega))
          have H63 := Lib.hid (H62.out.below hb H62.out.lt)
          have hz3 : W2.heap.size ≤ W3.heap.size := hb.size
          clear hb
          try go_simp
          refine hK.out _ _ ⟨HS3.out, trivial⟩ (fun hHeld2 => ?_)
          clear hK K hHeld
          have hHeld := hHeld2
          clear hHeld2
          try simp only [List.setIfInBounds_toArray, List.set_cons_zero, List.set_cons_succ]
          refine wpT_one 4 (by kernel_rfl) (stepT_early rfl rfl (fun K hK => ?_))
          go_simp
          have HB4 := Lib.hid (HB3.out.alloc (by omega) (.cells #[.int .i64 0, .int .i64 0, .int .i64 0, .int .i64 0, .int .i64 0, .int .i64 0, .int .i64 0, .int .i64 0] 75))
          have HS4 := Lib.hid (HS3.out.alloc (by omega) (.cells #[.int .i64 0, .int .i64 0, .int .i64 0, .int .i64 0, .int .i64 0, .int .i64 0, .int .i64 0, .int .i64 0] 75))
          have H64 := Lib.hid (H63.out.alloc (.cells #[.int .i64 0, .int .i64 0, .int .i64 0, .int .i64 0, .int .i64 0, .int .i64 0, .int .i64 0, .int .i64 0] 75))
          have H54 := Lib.hid (Blk.new W3 75 #[.int .i64 0, .int .i64 0, .int .i64 0, .int .i64 0, .int .i64 0, .int .i64 0, .int .i64 0, .int .i64 0])
          have hz4 : W3.heap.size < (W3.alloc (.cells #[.int .i64 0, .int .i64 0, .int .i64 0, .int .i64 0, .int .i64 0, .int .i64 0, .int .i64 0, .int .i64 0] 75)).heap.size := by simp
          refine hK.out _ _ ⟨HS4.out, trivial⟩ (fun hHeld2 => ?_)
          clear hK K hHeld
          have hHeld := hHeld2
          clear hHeld2
          try simp only [List.setIfInBounds_toArray, List.set_cons_zero, List.set_cons_succ]
          generalize W3.alloc (.cells #[.int .i64 0, .int .i64 0, .int .i64 0, .int .i64 0, .int .i64 0, .int .i64 0, .int .i64 0, .int .i64 0] 75) = W4 at HB4 HS4 H54 H64 hz4 hHeld ⊢
          have q0 := H54.out.cell 0
          have q1 := H54.out.cell 1
          have q2 := H54.out.cell 2
          have q3 := H54.out.cell 3
          have q4 := H54.out.cell 4
          have q5 := H54.out.cell 5
          have q6 := H54.out.cell 6
          have q7 := H54.out.cell 7
          have f0 := H54.out.frozen 0
          have f1 := H54.out.frozen 1
          have f2 := H54.out.frozen 2
          have f3 := H54.out.frozen 3
          have f4 := H54.out.frozen 4
          have f5 := H54.out.frozen 5
          have f6 := H54.out.frozen 6
          have f7 := H54.out.frozen 7
          refine wpT_one 6 (by kernel_rfl) (stepT_early rfl rfl (fun K hK => ?_))
          go_simp
          refine hK.out _ _ ⟨HS4.out.far8 (g := W3.heap.size) (by omega) (AdjC.touch x), trivial⟩ (fun hHeld2 => ?_)
          clear hK K hHeld hHeld2
          clear q0 f0 q1 f1 q2 f2 q3 f3 q4 f4 q5 f5 q6 f6 q7 f7
          try simp only [List.setIfInBounds_toArray, List.set_cons_zero, List.set_cons_succ]
          have HB9 := Lib.hid (Cr.below8 (g := W3.heap.size) HB4.out (by omega) (AdjC.touch x))
          have H59 := Lib.hid (Cr.blk8 H54.out (AdjC.touch x))
          have H69 := Lib.hid (Cr.far8 (g := W3.heap.size) H64.out (by omega) (AdjC.touch x))
          generalize ((((((((W4.setCell ⟨W3.heap.size, 0, none⟩ (.int .i64 (AdjC.touch x).1.1)).setCell ⟨W3.heap.size, 1, none⟩ (.int .i64 (AdjC.touch x).1.2)).setCell ⟨W3.heap.size, 2, none⟩ (.int .i64 (AdjC.touch x).2.1.1)).setCell ⟨W3.heap.size, 3, none⟩ (.int .i64 (AdjC.touch x).2.1.2)).setCell ⟨W3.heap.size, 4, none⟩ (.int .i64 (AdjC.touch x).2.2.1.1)).setCell ⟨W3.heap.size, 5, none⟩ (.int .i64 (AdjC.touch x).2.2.1.2)).setCell ⟨W3.heap.size, 6, none⟩ (.int .i64 (AdjC.touch x).2.2.2.1)).setCell ⟨W3.heap.size, 7, none⟩ (.int .i64 (AdjC.touch x).2.2.2.2)) = W9 at HB9 H59 H69 ⊢
          have q0 := H69.out.cell 0
          have q1 := H69.out.cell 1
          have q2 := H69.out.cell 2
          have q3 := H69.out.cell 3
          have q4 := H69.out.cell 4
          have q5 := H69.out.cell 5
          have q6 := H69.out.cell 6
          have q7 := H69.out.cell 7
          have f0 := H69.out.frozen 0
          have f1 := H69.out.frozen 1
          have f2 := H69.out.frozen 2
          have f3 := H69.out.frozen 3
          have f4 := H69.out.frozen 4
          have f5 := H69.out.frozen 5
          have f6 := H69.out.frozen 6
          have f7 := H69.out.frozen 7
          refine wpT_tail [_] 7 [] rfl (by kernel_rfl) ?_
          go_wp2_with fail
          go_meet
          case rel => exact ⟨W3.heap.size, W1.heap.size, rfl, rfl, Cr.below8 (g := W1.heap.size) HB9.out (by omega) (AdjC.touch y), Cr.far8 (g := W1.heap.size) H59.out (by omega) (AdjC.touch y), Cr.blk8 H69.out (AdjC.touch y)⟩
        · go_simp
          have HB3 := Lib.hid (HB2.out.alloc (by omega) (.cells #[.int .i64 0, .int .i64 0, .int .i64 0, .int .i64 0, .int .i64 0, .int .i64 0, .int .i64 0, .int .i64 0] 75))
          have HS3 := Lib.hid (HS2.out.alloc (by omega) (.cells #[.int .i64 0, .int .i64 0, .int .i64 0, .int .i64 0, .int .i64 0, .int .i64 0, .int .i64 0, .int .i64 0] 75))
          have H63 := Lib.hid (H62.out.alloc (.cells #[.int .i64 0, .int .i64 0, .int .i64 0, .int .i64 0, .int .i64 0, .int .i64 0, .int .i64 0, .int .i64 0] 75))
          have H53 := Lib.hid (Blk.new W2 75 #[.int .i64 0, .int .i64 0, .int .i64 0, .int .i64 0, .int .i64 0, .int .i64 0, .int .i64 0, .int .i64 0])
          have hz3 : W2.heap.size < (W2.alloc (.cells #[.int .i64 0, .int .i64 0, .int .i64 0, .int .i64 0, .int .i64 0, .int .i64 0, .int .i64 0, .int .i64 0] 75)).heap.size := by simp
          refine hK.out _ _ ⟨HS3.out, trivial⟩ (fun hHeld2 => ?_)
          clear hK K hHeld
          have hHeld := hHeld2
          clear hHeld2
          try simp only [List.setIfInBounds_toArray, List.set_cons_zero, List.set_cons_succ]
          generalize W2.alloc (.cells #[.int .i64 0, .int .i64 0, .int .i64 0, .int .i64 0, .int .i64 0, .int .i64 0, .int .i64 0, .int .i64 0] 75) = W3 at HB3 HS3 H53 H63 hz3 hHeld ⊢
          refine wpT_one 3 (by kernel_rfl) (stepT_early rfl rfl (fun K hK => ?_))
          go_simp
          ((with_reducible refine (HTY.out _).mono ?_); rintro e W4 ⟨rfl, hb⟩)
          have HB4 := Lib.hid (HB3.out.trans (hb.mono HB3.out.size))
          have HS4 := Lib.hid (HS3.out.below hb (by omega))
          have H54 := Lib.hid (H53.out.below hb H53.out.lt)
          have H64 := Lib.hid (H63.out.below hb H63.out.lt)
          have hz4 : W3.heap.size ≤ W4.heap.size := hb.size
          clear hb
          try go_simp
          refine hK.out _ _ ⟨HS4.out, trivial⟩ (fun hHeld2 => ?_)
          clear hK K hHeld
          have hHeld := hHeld2
          clear hHeld2
          try simp only [List.setIfInBounds_toArray, List.set_cons_zero, List.set_cons_succ]
          have q0 := H54.out.cell 0
          have q1 := H54.out.cell 1
          have q2 := H54.out.cell 2
          have q3 := H54.out.cell 3
          have q4 := H54.out.cell 4
          have q5 := H54.out.cell 5
          have q6 := H54.out.cell 6
          have q7 := H54.out.cell 7
          have f0 := H54.out.frozen 0
          have f1 := H54.out.frozen 1
          have f2 := H54.out.frozen 2
          have f3 := H54.out.frozen 3
          have f4 := H54.out.frozen 4
          have f5 := H54.out.frozen 5
          have f6 := H54.out.frozen 6
          have f7 := H54.out.frozen 7
          refine wpT_one 6 (by kernel_rfl) (stepT_early rfl rfl (fun K hK => ?_))
          go_simp
          refine hK.out _ _ ⟨HS4.out.far8 (g := W2.heap.size) (by omega) (AdjC.touch x), trivial⟩ (fun hHeld2 => ?_)
          clear hK K hHeld hHeld2
          clear q0 f0 q1 f1 q2 f2 q3 f3 q4 f4 q5 f5 q6 f6 q7 f7
          try simp only [List.setIfInBounds_toArray, List.set_cons_zero, List.set_cons_succ]
          have HB9 := Lib.hid (Cr.below8 (g := W2.heap.size) HB4.out (by omega) (AdjC.touch x))
          have H59 := Lib.hid (Cr.blk8 H54.out (AdjC.touch x))
          have H69 := Lib.hid (Cr.far8 (g := W2.heap.size) H64.out (by omega) (AdjC.touch x))
          generalize ((((((((W4.setCell ⟨W2.heap.size, 0, none⟩ (.int .i64 (AdjC.touch x).1.1)).setCell ⟨W2.heap.size, 1, none⟩ (.int .i64 (AdjC.touch x).1.2)).setCell ⟨W2.heap.size, 2, none⟩ (.int .i64 (AdjC.touch x).2.1.1)).setCell ⟨W2.heap.size, 3, none⟩ (.int .i64 (AdjC.touch x).2.1.2)).setCell ⟨W2.heap.size, 4, none⟩ (.int .i64 (AdjC.touch x).2.2.1.1)).setCell ⟨W2.heap.size, 5, none⟩ (.int .i64 (AdjC.touch x).2.2.1.2)).setCell ⟨W2.heap.size, 6, none⟩ (.int .i64 (AdjC.touch x).2.2.2.1)).setCell ⟨W2.heap.size, 7, none⟩ (.int .i64 (AdjC.touch x).2.2.2.2)) = W9 at HB9 H59 H69 ⊢
          have q0 := H69.out.cell 0
          have q1 := H69.out.cell 1
          have q2 := H69.out.cell 2
          have q3 := H69.out.cell 3
          have q4 := H69.out.cell 4
          have q5 := H69.out.cell 5
          have q6 := H69.out.cell 6
          have q7 := H69.out.cell 7
          have f0 := H69.out.frozen 0
          have f1 := H69.out.frozen 1
          have f2 := H69.out.frozen 2
          have f3 := H69.out.frozen 3
          have f4 := H69.out.frozen 4
          have f5 := H69.out.frozen 5
          have f6 := H69.out.frozen 6
          have f7 := H69.out.frozen 7
          refine wpT_tail [_] 7 [] rfl (by kernel_rfl) ?_
          go_wp2_with fail
          go_meet
          case rel => exact ⟨W2.heap.size, W1.heap.size, rfl, rfl, Cr.below8 (g := W1.heap.size) HB9.out (by omega) (AdjC.touch y), Cr.far8 (g := W1.heap.size) H59.out (by omega) (AdjC.touch y), Cr.blk8 H69.out (AdjC.touch y)⟩
    · go_simp
      have HB1 := Lib.hid (HB0.out.alloc (by omega) (.cells #[.int .i64 0, .int .i64 0, .int .i64 0, .int .i64 0, .int .i64 0, .int .i64 0, .int .i64 0, .int .i64 0] 75))
      have HS1 := Lib.hid (HS0.out.alloc (by omega) (.cells #[.int .i64 0, .int .i64 0, .int .i64 0, .int .i64 0, .int .i64 0, .int .i64 0, .int .i64 0, .int .i64 0] 75))
      have H51 := Lib.hid (Blk.new W0 75 #[.int .i64 0, .int .i64 0, .int .i64 0, .int .i64 0, .int .i64 0, .int .i64 0, .int .i64 0, .int .i64 0])
      have hz1 : W0.heap.size < (W0.alloc (.cells #[.int .i64 0, .int .i64 0, .int .i64 0, .int .i64 0, .int .i64 0, .int .i64 0, .int .i64 0, .int .i64 0] 75)).heap.size := by simp
      refine hK.out _ _ ⟨HS1.out, trivial⟩ (fun hHeld2 => ?_)
      clear hK K hHeld
      have hHeld := hHeld2
      clear hHeld2
      try simp only [List.setIfInBounds_toArray, List.set_cons_zero, List.set_cons_succ]
      generalize W0.alloc (.cells #[.int .i64 0, .int .i64 0, .int .i64 0, .int .i64 0, .int .i64 0, .int .i64 0, .int .i64 0, .int .i64 0] 75) = W1 at HB1 HS1 H51 hz1 hHeld ⊢
      refine wpT_two 1 5 (by kernel_rfl) (stepT_early rfl rfl (fun K hK => ?_)) (stepT_early rfl rfl (fun K hK => ?_))
      · go_simp
        ((with_reducible refine (HTX.out _).mono ?_); rintro e W2 ⟨rfl, hb⟩)
        have HB2 := Lib.hid (HB1.out.trans (hb.mono HB1.out.size))
        have HS2 := Lib.hid (HS1.out.below hb (by omega))
        have H52 := Lib.hid (H51.out.below hb H51.out.lt)
        have hz2 : W1.heap.size ≤ W2.heap.size := hb.size
        clear hb
        try go_simp
        refine hK.out _ _ ⟨HS2.out, trivial⟩ (fun hHeld2 => ?_)
        clear hK K hHeld
        have hHeld := hHeld2
        clear hHeld2
        try simp only [List.setIfInBounds_toArray, List.set_cons_zero, List.set_cons_succ]
        refine wpT_two 3 5 (by kernel_rfl) (stepT_early rfl rfl (fun K hK => ?_)) (stepT_early rfl rfl (fun K hK => ?_))
        · go_simp
          ((with_reducible refine (HTY.out _).mono ?_); rintro e W3 ⟨rfl, hb⟩)
          have HB3 := Lib.hid (HB2.out.trans (hb.mono HB2.out.size))
          have HS3 := Lib.hid (HS2.out.below hb (by omega))
          have H53 := Lib.hid (H52.out.below hb H52.out.lt)
          have hz3 : W2.heap.size ≤ W3.heap.size := hb.size
          clear hb
          try go_simp
          refine hK.out _ _ ⟨HS3.out, trivial⟩ (fun hHeld2 => ?_)
          clear hK K hHeld
          have hHeld := hHeld2
          clear hHeld2
          try simp only [List.setIfInBounds_toArray, List.set_cons_zero, List.set_cons_succ]
          refine wpT_one 5 (by kernel_rfl) (stepT_early rfl rfl (fun K hK => ?_))
          go_simp
          have HB4 := Lib.hid (HB3.out.alloc (by omega) (.cells #[.int .i64 0, .int .i64 0, .int .i64 0, .int .i64 0, .int .i64 0, .int .i64 0, .int .i64 0, .int .i64 0] 75))
          have HS4 := Lib.hid (HS3.out.alloc (by omega) (.cells #[.int .i64 0, .int .i64 0, .int .i64 0, .int .i64 0, .int .i64 0, .int .i64 0, .int .i64 0, .int .i64 0] 75))
          have H54 := Lib.hid (H53.out.alloc (.cells #[.int .i64 0, .int .i64 0, .int .i64 0, .int .i64 0, .int .i64 0, .int .i64 0, .int .i64 0, .int .i64 0] 75))
          have H64 := Lib.hid (Blk.new W3 75 #[.int .i64 0, .int .i64 0, .int .i64 0, .int .i64 0, .int .i64 0, .int .i64 0, .int .i64 0, .int .i64 0])
          have hz4 : W3.heap.size < (W3.alloc (.cells #[.int .i64 0, .int .i64 0, .int .i64 0, .int .i64 0, .int .i64 0, .int .i64 0, .int .i64 0, .int .i64 0] 75)).heap.size := by simp
          refine hK.out _ _ ⟨HS4.out, trivial⟩ (fun hHeld2 => ?_)
          clear hK K hHeld
          have hHeld := hHeld2
          clear hHeld2
          try simp only [List.setIfInBounds_toArray, List.set_cons_zero, List.set_cons_succ]
          generalize W3.alloc (.cells #[.int .i64 0, .int .i64 0, .int .i64 0, .int .i64 0, .int .i64 0, .int .i64 0, .int .i64 0, .int .i64 0] 75) = W4 at HB4 HS4 H54 H64 hz4 hHeld ⊢
          have q0 := H54.out.cell 0
          have q1 := H54.out.cell 1
          have q2 := H54.out.cell 2
          have q3 := H54.out.cell 3
          have q4 := H54.out.cell 4
          have q5 := H54.out.cell 5
          have q6 := H54.out.cell 6
          have q7 := H54.out.cell 7
          have f0 := H54.out.frozen 0
          have f1 := H54.out.frozen 1
          have f2 := H54.out.frozen 2
          have f3 := H54.out.frozen 3
          have f4 := H54.out.frozen 4
          have f5 := H54.out.frozen 5
          have f6 := H54.out.frozen 6
          have f7 := H54.out.frozen 7
          refine wpT_one 6 (by kernel_rfl) (stepT_early rfl rfl (fun K hK => ?_))
          go_simp
          refine hK.out _ _ ⟨HS4.out.far8 (g := W0.heap.size) (by omega) (AdjC.touch x), trivial⟩ (fun hHeld2 => ?_)
          clear hK K hHeld hHeld2
          clear q0 f0 q1 f1 q2 f2 q3 f3 q4 f4 q5 f5 q6 f6 q7 f7
          try simp only [List.setIfInBounds_toArray, List.set_cons_zero, List.set_cons_succ]
          have HB9 := Lib.hid (Cr.below8 (g := W0.heap.size) HB4.out (by omega) (AdjC.touch x))
          have H59 := Lib.hid (Cr.blk8 H54.out (AdjC.touch x))
          have H69 := Lib.hid (Cr.far8 (g := W0.heap.size) H64.out (by omega) (AdjC.touch x))
          generalize ((((((((W4.setCell ⟨W0.heap.size, 0, none⟩ (.int .i64 (AdjC.touch x).1.1)).setCell ⟨W0.heap.size, 1, none⟩ (.int .i64 (AdjC.touch x).1.2)).setCell ⟨W0.heap.size, 2, none⟩ (.int .i64 (AdjC.touch x).2.1.1)).setCell ⟨W0.heap.size, 3, none⟩ (.int .i64 (AdjC.touch x).2.1.2)).setCell ⟨W0.heap.size, 4, none⟩ (.int .i64 (AdjC.touch x).2.2.1.1)).setCell ⟨W0.heap.size, 5, none⟩ (.int .i64 (AdjC.touch x).2.2.1.2)).setCell ⟨W0.heap.size, 6, none⟩ (.int .i64 (AdjC.touch x).2.2.2.1)).setCell ⟨W0.heap.size, 7, none⟩ (.int .i64 (AdjC.touch x).2.2.2.2)) = W9 at HB9 H59 H69 ⊢
          have q0 := H69.out.cell 0
          have q1 := H69.out.cell 1
          have q2 := H69.out.cell 2
          have q3 := H69.out.cell 3
          have q4 := H69.out.cell 4
          have q5 := H69.out.cell 5
          have q6 := H69.out.cell 6
          have q7 := H69.out.cell 7
          have f0 := H69.out.frozen 0
          have f1 := H69.out.frozen 1
          have f2 := H69.out.frozen 2
          have f3 := H69.out.frozen 3
          have f4 := H69.out.frozen 4
          have f5 := H69.out.frozen 5
          have f6 := H69.out.frozen 6
          have f7 := H69.out.frozen 7
          refine wpT_tail [_] 7 [] rfl (by kernel_rfl) ?_
          go_wp2_with fail
          go_meet
          case rel => exact ⟨W0.heap.size, W3.heap.size, rfl, rfl, Cr.below8 (g := W3.heap.size) HB9.out (by omega) (AdjC.touch y), Cr.far8 (g := W3.heap.size) H59.out (by omega) (AdjC.touch y), Cr.blk8 H69.out (AdjC.touch y)⟩
        · go_simp
          have HB3 := Lib.hid (HB2.out.alloc (by omega) (.cells #[.int .i64 0, .int .i64 0, .int .i64 0, .int .i64 0, .int .i64 0, .int .i64 0, .int .i64 0, .int .i64 0] 75))
          have HS3 := Lib.hid (HS2.out.alloc (by omega) (.cells #[.int .i64 0, .int .i64 0, .int .i64 0, .int .i64 0, .int .i64 0, .int .i64 0, .int .i64 0, .int .i64 0] 75))
          have H53 := Lib.hid (H52.out.alloc (.cells #[.int .i64 0, .int .i64 0, .int .i64 0, .int .i64 0, .int .i64 0, .int .i64 0, .int .i64 0, .int .i64 0] 75))
          have H63 := Lib.hid (Blk.new W2 75 #[.int .i64 0, .int .i64 0, .int .i64 0, .int .i64 0, .int .i64 0, .int .i64 0, .int .i64 0, .int .i64 0])
          have hz3 : W2.heap.size < (W2.alloc (.cells #[.int .i64 0, .int .i64 0, .int .i64 0, .int .i64 0, .int .i64 0, .int .i64 0, .int .i64 0, .int .i64 0] 75)).heap.size := by simp
          refine hK.out _ _ ⟨HS3.out, trivial⟩ (fun hHeld2 => ?_)
          clear hK K hHeld
          have hHeld := hHeld2
          clear hHeld2
          try simp only [List.setIfInBounds_toArray, List.set_cons_zero, List.set_cons_succ]
          generalize W2.alloc (.cells #[.int .i64 0, .int .i64 0, .int .i64 0, .int .i64 0, .int .i64 0, .int .i64 0, .int .i64 0, .int .i64 0] 75) = W3 at HB3 HS3 H53 H63 hz3 hHeld ⊢
          refine wpT_one 3 (by kernel_rfl) (stepT_early rfl rfl (fun K hK => ?_))
          go_simp
          ((with_reducible refine (HTY.out _).mono ?_); rintro e W4 ⟨rfl, hb⟩)
          have HB4 := Lib.hid (HB3.out.trans (hb.mono HB3.out.size))
          have HS4 := Lib.hid (HS3.out.below hb (by omega))
          have H54 := Lib.hid (H53.out.below hb H53.out.lt)
          have H64 := Lib.hid (H63.out.below hb H63.out.lt)
          have hz4 : W3.heap.size ≤ W4.heap.size := hb.size
          clear hb
          try go_simp
          refine hK.out _ _ ⟨HS4.out, trivial⟩ (fun hHeld2 => ?_)
          clear hK K hHeld
          have hHeld := hHeld2
          clear hHeld2
          try simp only [List.setIfInBounds_toArray, List.set_cons_zero, List.set_cons_succ]
          have q0 := H54.out.cell 0
          have q1 := H54.out.cell 1
          have q2 := H54.out.cell 2
          have q3 := H54.out.cell 3
          have q4 := H54.out.cell 4
          have q5 := H54.out.cell 5
          have q6 := H54.out.cell 6
          have q7 := H54.out.cell 7
          have f0 := H54.out.frozen 0
          have f1 := H54.out.frozen 1
          have f2 := H54.out.frozen 2
          have f3 := H54.out.frozen 3
          have f4 := H54.out.frozen 4
          have f5 := H54.out.frozen 5
          have f6 := H54.out.frozen 6
          have f7 := H54.out.frozen 7
          refine wpT_one 6 (by kernel_rfl) (stepT_early rfl rfl (fun K hK => ?_))
          go_simp
          refine hK.out _ _ ⟨HS4.out.far8 (g := W0.heap.size) (by omega) (AdjC.touch x), trivial⟩ (fun hHeld2 => ?_)
          clear hK K hHeld hHeld2
          clear q0 f0 q1 f1 q2 f2 q3 f3 q4 f4 q5 f5 q6 f6 q7 f7
          try simp only [List.setIfInBounds_toArray, List.set_cons_zero, List.set_cons_succ]
          have HB9 := Lib.hid (Cr.below8 (g := W0.heap.size) HB4.out (by omega) (AdjC.touch x))
          have H59 := Lib.hid (Cr.blk8 H54.out (AdjC.touch x))
          have H69 := Lib.hid (Cr.far8 (g := W0.heap.size) H64.out (by omega) (AdjC.touch x))
          generalize ((((((((W4.setCell ⟨W0.heap.size, 0, none⟩ (.int .i64 (AdjC.touch x).1.1)).setCell ⟨W0.heap.size, 1, none⟩ (.int .i64 (AdjC.touch x).1.2)).setCell ⟨W0.heap.size, 2, none⟩ (.int .i64 (AdjC.touch x).2.1.1)).setCell ⟨W0.heap.size, 3, none⟩ (.int .i64 (AdjC.touch x).2.1.2)).setCell ⟨W0.heap.size, 4, none⟩ (.int .i64 (AdjC.touch x).2.2.1.1)).setCell ⟨W0.heap.size, 5, none⟩ (.int .i64 (AdjC.touch x).2.2.1.2)).setCell ⟨W0.heap.size, 6, none⟩ (.int .i64 (AdjC.touch x).2.2.2.1)).setCell ⟨W0.heap.size, 7, none⟩ (.int .i64 (AdjC.touch x).2.2.2.2)) = W9 at HB9 H59 H69 ⊢
          have q0 := H69.out.cell 0
          have q1 := H69.out.cell 1
          have q2 := H69.out.cell 2
          have q3 := H69.out.cell 3
          have q4 := H69.out.cell 4
          have q5 := H69.out.cell 5
          have q6 := H69.out.cell 6
          have q7 := H69.out.cell 7
          have f0 := H69.out.frozen 0
          have f1 := H69.out.frozen 1
          have f2 := H69.out.frozen 2
          have f3 := H69.out.frozen 3
          have f4 := H69.out.frozen 4
          have f5 := H69.out.frozen 5
          have f6 := H69.out.frozen 6
          have f7 := H69.out.frozen 7
          refine wpT_tail [_] 7 [] rfl (by kernel_rfl) ?_
          go_wp2_with fail
          go_meet
          case rel => exact ⟨W0.heap.size, W2.heap.size, rfl, rfl, Cr.below8 (g := W2.heap.size) HB9.out (by omega) (AdjC.touch y), Cr.far8 (g := W2.heap.size) H59.out (by omega) (AdjC.touch y), Cr.blk8 H69.out (AdjC.touch y)⟩
      · go_simp
        have HB2 := Lib.hid (HB1.out.alloc (by omega) (.cells #[.int .i64 0, .int .i64 0, .int .i64 0, .int .i64 0, .int .i64 0, .int .i64 0, .int .i64 0, .int .i64 0] 75))
        have HS2 := Lib.hid (HS1.out.alloc (by omega) (.cells #[.int .i64 0, .int .i64 0, .int .i64 0, .int .i64 0, .int .i64 0, .int .i64 0, .int .i64 0, .int .i64 0] 75))
        have H52 := Lib.hid (H51.out.alloc (.cells #[.int .i64 0, .int .i64 0, .int .i64 0, .int .i64 0, .int .i64 0, .int .i64 0, .int .i64 0, .int .i64 0] 75))
        have H62 := Lib.hid (Blk.new W1 75 #[.int .i64 0, .int .i64 0, .int .i64 0, .int .i64 0, .int .i64 0, .int .i64 0, .int .i64 0, .int .i64 0])
        have hz2 : W1.heap.size < (W1.alloc (.cells #[.int .i64 0, .int .i64 0, .int .i64 0, .int .i64 0, .int .i64 0, .int .i64 0, .int .i64 0, .int .i64 0] 75)).heap.size := by simp
        refine hK.out _ _ ⟨HS2.out, trivial⟩ (fun hHeld2 => ?_)
        clear hK K hHeld
        have hHeld := hHeld2
        clear hHeld2
        try simp only [List.setIfInBounds_toArray, List.set_cons_zero, List.set_cons_succ]
        generalize W1.alloc (.cells #[.int .i64 0, .int .i64 0, .int .i64 0, .int .i64 0, .int .i64 0, .int .i64 0, .int .i64 0, .int .i64 0] 75) = W2 at HB2 HS2 H52 H62 hz2 hHeld ⊢
        refine wpT_one 1 (by kernel_rfl) (stepT_early rfl rfl (fun K hK => ?_))
        go_simp
        ((with_reducible refine (HTX.out _).mono ?_); rintro e W3 ⟨rfl, hb⟩)
        have HB3 := Lib.hid (HB2.out.trans (hb.mono HB2.out.size))
        have HS3 := Lib.hid (HS2.out.below hb (by omega))
        have H53 := Lib.hid (H52.out.below hb H52.out.lt)
        have H63 := Lib.hid (H62.out.below hb H62.out.lt)
        have hz3 : W2.heap.size ≤ W3.heap.size := hb.size
        clear hb
        try go_simp
        refine hK.out _ _ ⟨HS3.out, trivial⟩ (fun hHeld2 => ?_)
        clear hK K hHeld
        have hHeld := hHeld2
        clear hHeld2
        try simp only [List.setIfInBounds_toArray, List.set_cons_zero, List.set_cons_succ]
        refine wpT_one 3 (by kernel_rfl) (stepT_early rfl rfl (fun K hK => ?_))
        go_simp
        ((with_reducible refine (HTY.out _).mono ?_); rintro e W4 ⟨rfl, hb⟩)
        have HB4 := Lib.hid (HB3.out.trans (hb.mono HB3.out.size))
        have HS4 := Lib.hid (HS3.out.below hb (by omega))
        have H54 := Lib.hid (H53.out.below hb H53.out.lt)
        have H64 := Lib.hid (H63.out.below hb H63.out.lt)
        have hz4 : W3.heap.size ≤ W4.heap.size := hb.size
        clear hb
        try go_simp
        refine hK.out _ _ ⟨HS4.out, trivial⟩ (fun hHeld2 => ?_)
        clear hK K hHeld
        have hHeld := hHeld2
        clear hHeld2
        try simp only [List.setIfInBounds_toArray, List.set_cons_zero, List.set_cons_succ]
        have q0 := H54.out.cell 0
        have q1 := H54.out.cell 1
        have q2 := H54.out.cell 2
        have q3 := H54.out.cell 3
        have q4 := H54.out.cell 4
        have q5 := H54.out.cell 5
        have q6 := H54.out.cell 6
        have q7 := H54.out.cell 7
        have f0 := H54.out.frozen 0
        have f1 := H54.out.frozen 1
        have f2 := H54.out.frozen 2
        have f3 := H54.out.frozen 3
        have f4 := H54.out.frozen 4
        have f5 := H54.out.frozen 5
        have f6 := H54.out.frozen 6
        have f7 := H54.out.frozen 7
        refine wpT_one 6 (by kernel_rfl) (stepT_early rfl rfl (fun K hK => ?_))
        go_simp
        refine hK.out _ _ ⟨HS4.out.far8 (g := W0.heap.size) (by omega) (AdjC.touch x), trivial⟩ (fun hHeld2 => ?_)
        clear hK K hHeld hHeld2
        clear q0 f0 q1 f1 q2 f2 q3 f3 q4 f4 q5 f5 q6 f6 q7 f7
        try simp only [List.setIfInBounds_toArray, List.set_cons_zero, List.set_cons_succ]
        have HB9 := Lib.hid (Cr.below8 (g := W0.heap.size) HB4.out (by omega) (AdjC.touch x))
        have H59 := Lib.hid (Cr.blk8 H54.out (AdjC.touch x))
        have H69 := Lib.hid (Cr.far8 (g := W0.heap.size) H64.out (by omega) (AdjC.touch x))
        generalize ((((((((W4.setCell ⟨W0.heap.size, 0, none⟩ (.int .i64 (AdjC.touch x).1.1)).setCell ⟨W0.heap.size, 1, none⟩ (.int .i64 (AdjC.touch x).1.2)).setCell ⟨W0.heap.size, 2, none⟩ (.int .i64 (AdjC.touch x).2.1.1)).setCell ⟨W0.heap.size, 3, none⟩ (.int .i64 (AdjC.touch x).2.1.2)).setCell ⟨W0.heap.size, 4, none⟩ (.int .i64 (AdjC.touch x).2.2.1.1)).setCell ⟨W0.heap.size, 5, none⟩ (.int .i64 (AdjC.touch x).2.2.1.2)).setCell ⟨W0.heap.size, 6, none⟩ (.int .i64 (AdjC.touch x).2.2.2.1)).setCell ⟨W0.heap.size, 7, none⟩ (.int .i64 (AdjC.touch x).2.2.2.2)) = W9 at HB9 H59 H69 ⊢
        have q0 := H69.out.cell 0
        have q1 := H69.out.cell 1
        have q2 := H69.out.cell 2
        have q3 := H69.out.cell 3
        have q4 := H69.out.cell 4
        have q5 := H69.out.cell 5
        have q6 := H69.out.cell 6
        have q7 := H69.out.cell 7
        have f0 := H69.out.frozen 0
        have f1 := H69.out.frozen 1
        have f2 := H69.out.frozen 2
        have f3 := H69.out.frozen 3
        have f4 := H69.out.frozen 4
        have f5 := H69.out.frozen 5
        have f6 := H69.out.frozen 6
        have f7 := H69.out.frozen 7
        refine wpT_tail [_] 7 [] rfl (by kernel_rfl) ?_
        go_wp2_with fail
        go_meet
        case rel => exact ⟨W0.heap.size, W1.heap.size, rfl, rfl, Cr.below8 (g := W1.heap.size) HB9.out (by omega) (AdjC.touch y), Cr.far8 (g := W1.heap.size) H59.out (by omega) (AdjC.touch y), Cr.blk8 H69.out (AdjC.touch y)⟩
    · go_simp
      have HB1 := Lib.hid (HB0.out.alloc (by omega) (.cells #[.int .i64 0, .int .i64 0, .int .i64 0, .int .i64 0, .int .i64 0, .int .i64 0, .int .i64 0, .int .i64 0] 75))
      have HS1 := Lib.hid (HS0.out.alloc (by omega) (.cells #[.int .i64 0, .int .i64 0, .int .i64 0, .int .i64 0, .int .i64 0, .int .i64 0, .int .i64 0, .int .i64 0] 75))
      have H61 := Lib.hid (Blk.new W0 75 #[.int .i64 0, .int .i64 0, .int .i64 0, .int .i64 0, .int .i64 0, .int .i64 0, .int .i64 0, .int .i64 0])
      have hz1 : W0.heap.size < (W0.alloc (.cells #[.int .i64 0, .int .i64 0, .int .i64 0, .int .i64 0, .int .i64 0, .int .i64 0, .int .i64 0, .int .i64 0] 75)).heap.size := by simp
      refine hK.out _ _ ⟨HS1.out, trivial⟩ (fun hHeld2 => ?_)
      clear hK K hHeld
      have hHeld := hHeld2
      clear hHeld2
      try simp only [List.setIfInBounds_toArray, List.set_cons_zero, List.set_cons_succ]
      generalize W0.alloc (.cells #[.int .i64 0, .int .i64 0, .int .i64 0, .int .i64 0, .int .i64 0, .int .i64 0, .int .i64 0, .int .i64 0] 75) = W1 at HB1 HS1 H61 hz1 hHeld ⊢
      refine wpT_two 1 4 (by kernel_rfl) (stepT_early rfl rfl (fun K hK => ?_)) (stepT_early rfl rfl (fun K hK => ?_))
      · go_simp
        ((with_reducible refine (HTX.out _).mono ?_); rintro e W2 ⟨rfl, hb⟩)
        have HB2 := Lib.hid (HB1.out.trans (hb.mono HB1.out.size))
        have HS2 := Lib.hid (HS1.out.below hb (by omega))
        have H62 := Lib.hid (H61.out.below hb H61.out.lt)
        have hz2 : W1.heap.size ≤ W2.heap.size := hb.size
        clear hb
        try go_simp
        refine hK.out _ _ ⟨HS2.out, trivial⟩ (fun hHeld2 => ?_)
        clear hK K hHeld
        have hHeld := hHeld2
        clear hHeld2
        try simp only [List.setIfInBounds_toArray, List.set_cons_zero, List.set_cons_succ]
        refine wpT_two 3 4 (by kernel_rfl) (stepT_early rfl rfl (fun K hK => ?_)) (stepT_early rfl rfl (fun K hK => ?_))
        · go_simp
          ((with_reducible refine (HTY.out _).mono ?_); rintro e W3 ⟨rfl, hb⟩)
          have HB3 := Lib.hid (HB2.out.trans (hb.mono HB2.out.size))
          have HS3 := Lib.hid (HS2.out.below hb (by omega))
          have H63 := Lib.hid (H62.out.below hb H62.out.lt)
          have hz3 : W2.heap.size ≤ W3.heap.size := hb.size
          clear hb
          try go_simp
          refine hK.out _ _ ⟨HS3.out, trivial⟩ (fun hHeld2 => ?_)
          clear hK K hHeld
          have hHeld := hHeld2
          clear hHeld2
          try simp only [List.setIfInBounds_toArray, List.set_cons_zero, List.set_cons_succ]
          refine wpT_one 4 (by kernel_rfl) (stepT_early rfl rfl (fun K hK => ?_))
          go_simp
          have HB4 := Lib.hid (HB3.out.alloc (by omega) (.cells #[.int .i64 0, .int .i64 0, .int .i64 0, .int .i64 0, .int .i64 0, .int .i64 0, .int .i64 0, .int .i64 0] 75))
          have HS4 := Lib.hid (HS3.out.alloc (by omega) (.cells #[.int .i64 0, .int .i64 0, .int .i64 0, .int .i64 0, .int .i64 0, .int .i64 0, .int .i64 0, .int .i64 0] 75))
          have H64 := Lib.hid (H63.out.alloc (.cells #[.int .i64 0, .int .i64 0, .int .i64 0, .int .i64 0, .int .i64 0, .int .i64 0, .int .i64 0, .int .i64 0] 75))
          have H54 := Lib.hid (Blk.new W3 75 #[.int .i64 0, .int .i64 0, .int .i64 0, .int .i64 0, .int .i64 0, .int .i64 0, .int .i64 0, .int .i64 0])
          have hz4 : W3.heap.size < (W3.alloc (.cells #[.int .i64 0, .int .i64 0, .int .i64 0, .int .i64 0, .int .i64 0, .int .i64 0, .int .i64 0, .int .i64 0] 75)).heap.size := by simp
          refine hK.out _ _ ⟨HS4.out, trivial⟩ (fun hHeld2 => ?_)
          clear hK K hHeld
          have hHeld := hHeld2
          clear hHeld2
          try simp only [List.setIfInBounds_toArray, List.set_cons_zero, List.set_cons_succ]
          generalize W3.alloc (.cells #[.int .i64 0, .int .i64 0, .int .i64 0, .int .i64 0, .int .i64 0, .int .i64 0, .int .i64 0, .int .i64 0] 75) = W4 at HB4 HS4 H54 H64 hz4 hHeld ⊢
          have q0 := H54.out.cell 0
          have q1 := H54.out.cell 1
          have q2 := H54.out.cell 2
          have q3 := H54.out.cell 3
          have q4 := H54.out.cell 4
          have q5 := H54.out.cell 5
          have q6 := H54.out.cell 6
          have q7 := H54.out.cell 7
          have f0 := H54.out.frozen 0
          have f1 := H54.out.frozen 1
          have f2 := H54.out.frozen 2
          have f3 := H54.out.frozen 3
          have f4 := H54.out.frozen 4
          have f5 := H54.out.frozen 5
          have f6 := H54.out.frozen 6
          have f7 := H54.out.frozen 7
          refine wpT_one 6 (by kernel_rfl) (stepT_early rfl rfl (fun K hK => ?_))
          go_simp
          refine hK.out _ _ ⟨HS4.out.far8 (g := W3.heap.size) (by omega) (AdjC.touch x), trivial⟩ (fun hHeld2 => ?_)
          clear hK K hHeld hHeld2
          clear q0 f0 q1 f1 q2 f2 q3 f3 q4 f4 q5 f5 q6 f6 q7 f7
          try simp only [List.setIfInBounds_toArray, List.set_cons_zero, List.set_cons_succ]
          have HB9 := Lib.hid (Cr.below8 (g := W3.heap.size) HB4.out (by omega) (AdjC.touch x))
          have H59 := Lib.hid (Cr.blk8 H54.out (AdjC.touch x))
          have H69 := Lib.hid (Cr.far8 (g := W3.heap.size) H64.out (by omega) (AdjC.touch x))
          generalize ((((((((W4.setCell ⟨W3.heap.size, 0, none⟩ (.int .i64 (AdjC.touch x).1.1)).setCell ⟨W3.heap.size, 1, none⟩ (.int .i64 (AdjC.touch x).1.2)).setCell ⟨W3.heap.size, 2, none⟩ (.int .i64 (AdjC.touch x).2.1.1)).setCell ⟨W3.heap.size, 3, none⟩ (.int .i64 (AdjC.touch x).2.1.2)).setCell ⟨W3.heap.size, 4, none⟩ (.int .i64 (AdjC.touch x).2.2.1.1)).setCell ⟨W3.heap.size, 5, none⟩ (.int .i64 (AdjC.touch x).2.2.1.2)).setCell ⟨W3.heap.size, 6, none⟩ (.int .i64 (AdjC.touch x).2.2.2.1)).setCell ⟨W3.heap.size, 7, none⟩ (.int .i64 (AdjC.touch x).2.2.2.2)) = W9 at HB9 H59 H69 ⊢
          have q0 := H69.out.cell 0
          have q1 := H69.out.cell 1
          have q2 := H69.out.cell 2
          have q3 := H69.out.cell 3
          have q4 := H69.out.cell 4
          have q5 := H69.out.cell 5
          have q6 := H69.out.cell 6
          have q7 := H69.out.cell 7
          have f0 := H69.out.frozen 0
          have f1 := H69.out.frozen 1
          have f2 := H69.out.frozen 2
          have f3 := H69.out.frozen 3
          have f4 := H69.out.frozen 4
          have f5 := H69.out.frozen 5
          have f6 := H69.out.frozen 6
          have f7 := H69.out.frozen 7
          refine wpT_tail [_] 7 [] rfl (by kernel_rfl) ?_
          go_wp2_with fail
          go_meet
          case rel => exact ⟨W3.heap.size, W0.heap.size, rfl, rfl, Cr.below8 (g := W0.heap.size) HB9.out (by omega) (AdjC.touch y), Cr.far8 (g := W0.heap.size) H59.out (by omega) (AdjC.touch y), Cr.blk8 H69.out (AdjC.touch y)⟩
        · go_simp
          have HB3 := Lib.hid (HB2.out.alloc (by omega) (.cells #[.int .i64 0, .int .i64 0, .int .i64 0, .int .i64 0, .int .i64 0, .int .i64 0, .int .i64 0, .int .i64 0] 75))
          have HS3 := Lib.hid (HS2.out.alloc (by omega) (.cells #[.int .i64 0, .int .i64 0, .int .i64 0, .int .i64 0, .int .i64 0, .int .i64 0, .int .i64 0, .int .i64 0] 75))
          have H63 := Lib.hid (H62.out.alloc (.cells #[.int .i64 0, .int .i64 0, .int .i64 0, .int .i64 0, .int .i64 0, .int .i64 0, .int .i64 0, .int .i64 0] 75))
          have H53 := Lib.hid (Blk.new W2 75 #[.int .i64 0, .int .i64 0, .int .i64 0, .int .i64 0, .int .i64 0, .int .i64 0, .int .i64 0, .int .i64 0])
          have hz3 : W2.heap.size < (W2.alloc (.cells #[.int .i64 0, .int .i64 0, .int .i64 0, .int .i64 0, .int .i64 0, .int .i64 0, .int .i64 0, .int .i64 0] 75)).heap.size := by simp
          refine hK.out _ _ ⟨HS3.out, trivial⟩ (fun hHeld2 => ?_)
          clear hK K hHeld
          have hHeld := hHeld2
          clear hHeld2
          try simp only [List.setIfInBounds_toArray, List.set_cons_zero, List.set_cons_succ]
          generalize W2.alloc (.cells #[.int .i64 0, .int .i64 0, .int .i64 0, .int .i64 0, .int .i64 0, .int .i64 0, .int .i64 0, .int .i64 0] 75) = W3 at HB3 HS3 H53 H63 hz3 hHeld ⊢
          refine wpT_one 3 (by kernel_rfl) (stepT_early rfl rfl (fun K hK => ?_))
          go_simp
          ((with_reducible refine (HTY.out _).mono ?_); rintro e W4 ⟨rfl, hb⟩)
          have HB4 := Lib.hid (HB3.out.trans (hb.mono HB3.out.size))
          have HS4 := Lib.hid (HS3.out.below hb (by omega))
          have H54 := Lib.hid (H53.out.below hb H53.out.lt)
          have H64 := Lib.hid (H63.out.below hb H63.out.lt)
          have hz4 : W3.heap.size ≤ W4.heap.size := hb.size
          clear hb
          try go_simp
          refine hK.out _ _ ⟨HS4.out, trivial⟩ (fun hHeld2 => ?_)
          clear hK K hHeld
          have hHeld := hHeld2
          clear hHeld2
          try simp only [List.setIfInBounds_toArray, List.set_cons_zero, List.set_cons_succ]
          have q0 := H54.out.cell 0
          have q1 := H54.out.cell 1
          have q2 := H54.out.cell 2
          have q3 := H54.out.cell 3
          have q4 := H54.out.cell 4
          have q5 := H54.out.cell 5
          have q6 := H54.out.cell 6
          have q7 := H54.out.cell 7
          have f0 := H54.out.frozen 0
          have f1 := H54.out.frozen 1
          have f2 := H54.out.frozen 2
          have f3 := H54.out.frozen 3
          have f4 := H54.out.frozen 4
          have f5 := H54.out.frozen 5
          have f6 := H54.out.frozen 6
          have f7 := H54.out.frozen 7
          refine wpT_one 6 (by kernel_rfl) (stepT_early rfl rfl (fun K hK => ?_))
          go_simp
          refine hK.out _ _ ⟨HS4.out.far8 (g := W2.heap.size) (by omega) (AdjC.touch x), trivial⟩ (fun hHeld2 => ?_)
          clear hK K hHeld hHeld2
          clear q0 f0 q1 f1 q2 f2 q3 f3 q4 f4 q5 f5 q6 f6 q7 f7
          try simp only [List.setIfInBounds_toArray, List.set_cons_zero, List.set_cons_succ]
          have HB9 := Lib.hid (Cr.below8 (g := W2.heap.size) HB4.out (by omega) (AdjC.touch x))
          have H59 := Lib.hid (Cr.blk8 H54.out (AdjC.touch x))
          have H69 := Lib.hid (Cr.far8 (g := W2.heap.size) H64.out (by omega) (AdjC.touch x))
          generalize ((((((((W4.setCell ⟨W2.heap.size, 0, none⟩ (.int .i64 (AdjC.touch x).1.1)).setCell ⟨W2.heap.size, 1, none⟩ (.int .i64 (AdjC.touch x).1.2)).setCell ⟨W2.heap.size, 2, none⟩ (.int .i64 (AdjC.touch x).2.1.1)).setCell ⟨W2.heap.size, 3, none⟩ (.int .i64 (AdjC.touch x).2.1.2)).setCell ⟨W2.heap.size, 4, none⟩ (.int .i64 (AdjC.touch x).2.2.1.1)).setCell ⟨W2.heap.size, 5, none⟩ (.int .i64 (AdjC.touch x).2.2.1.2)).setCell ⟨W2.heap.size, 6, none⟩ (.int .i64 (AdjC.touch x).2.2.2.1)).setCell ⟨W2.heap.size, 7, none⟩ (.int .i64 (AdjC.touch x).2.2.2.2)) = W9 at HB9 H59 H69 ⊢
          have q0 := H69.out.cell 0
          have q1 := H69.out.cell 1
          have q2 := H69.out.cell 2
          have q3 := H69.out.cell 3
          have q4 := H69.out.cell 4
          have q5 := H69.out.cell 5
          have q6 := H69.out.cell 6
          have q7 := H69.out.cell 7
          have f0 := H69.out.frozen 0
          have f1 := H69.out.frozen 1
          have f2 := H69.out.frozen 2
          have f3 := H69.out.frozen 3
          have f4 := H69.out.frozen 4
          have f5 := H69.out.frozen 5
          have f6 := H69.out.frozen 6
          have f7 := H69.out.frozen 7
          refine wpT_tail [_] 7 [] rfl (by kernel_rfl) ?_
          go_wp2_with fail
          go_meet
          case rel => exact ⟨W2.heap.size, W0.heap.size, rfl, rfl, Cr.below8 (g := W0.heap.size) HB9.out (by omega) (AdjC.touch y), Cr.far8 (g := W0.heap.size) H59.out (by omega) (AdjC.touch y), Cr.blk8 H69.out (AdjC.touch y)⟩
      · go_simp
        have HB2 := Lib.hid (HB1.out.alloc (by omega) (.cells #[.int .i64 0, .int .i64 0, .int .i64 0, .int .i64 0, .int .i64 0, .int .i64 0, .int .i64 0, .int .i64 0] 75))
        have HS2 := Lib.hid (HS1.out.alloc (by omega) (.cells #[.int .i64 0, .int .i64 0, .int .i64 0, .int .i64 0, .int .i64 0, .int .i64 0, .int .i64 0, .int .i64 0] 75))
        have H62 := Lib.hid (H61.out.alloc (.cells #[.int .i64 0, .int .i64 0, .int .i64 0, .int .i64 0, .int .i64 0, .int .i64 0, .int .i64 0, .int .i64 0] 75))
        have H52 := Lib.hid (Blk.new W1 75 #[.int .i64 0, .int .i64 0, .int .i64 0, .int .i64 0, .int .i64 0, .int .i64 0, .int .i64 0, .int .i64 0])
        have hz2 : W1.heap.size < (W1.alloc (.cells #[.int .i64 0, .int .i64 0, .int .i64 0, .int .i64 0, .int .i64 0, .int .i64 0, .int .i64 0, .int .i64 0] 75)).heap.size := by simp
        refine hK.out _ _ ⟨HS2.out, trivial⟩ (fun hHeld2 => ?_)
        clear hK K hHeld
        have hHeld := hHeld2
        clear hHeld2
        try simp only [List.setIfInBounds_toArray, List.set_cons_zero, List.set_cons_succ]
        generalize W1.alloc (.cells #[.int .i64 0, .int .i64 0, .int .i64 0, .int .i64 0, .int .i64 0, .int .i64 0, .int .i64 0, .int .i64 0] 75) = W2 at HB2 HS2 H52 H62 hz2 hHeld ⊢
        refine wpT_one 1 (by kernel_rfl) (stepT_early rfl rfl (fun K hK => ?_))
        go_simp
        ((with_reducible refine (HTX.out _).mono ?_); rintro e W3 ⟨rfl, hb⟩)
        have HB3 := Lib.hid (HB2.out.trans (hb.mono HB2.out.size))
        have HS3 := Lib.hid (HS2.out.below hb (by omega))
        have H53 := Lib.hid (H52.out.below hb H52.out.lt)
        have H63 := Lib.hid (H62.out.below hb H62.out.lt)
        have hz3 : W2.heap.size ≤ W3.heap.size := hb.size
        clear hb
        try go_simp
        refine hK.out _ _ ⟨HS3.out, trivial⟩ (fun hHeld2 => ?_)
        clear hK K hHeld
        have hHeld := hHeld2
        clear hHeld2
        try simp only [List.setIfInBounds_toArray, List.set_cons_zero, List.set_cons_succ]
        refine wpT_one 3 (by kernel_rfl) (stepT_early rfl rfl (fun K hK => ?_))
        go_simp
        ((with_reducible refine (HTY.out _).mono ?_); rintro e W4 ⟨rfl, hb⟩)
        have HB4 := Lib.hid (HB3.out.trans (hb.mono HB3.out.size))
        have HS4 := Lib.hid (HS3.out.below hb (by omega))
        have H54 := Lib.hid (H53.out.below hb H53.out.lt)
        have H64 := Lib.hid (H63.out.below hb H63.out.lt)
        have hz4 : W3.heap.size ≤ W4.heap.size := hb.size
        clear hb
        try go_simp
        refine hK.out _ _ ⟨HS4.out, trivial⟩ (fun hHeld2 => ?_)
        clear hK K hHeld
        have hHeld := hHeld2
        clear hHeld2
        try simp only [List.setIfInBounds_toArray, List.set_cons_zero, List.set_cons_succ]
        have q0 := H54.out.cell 0
        have q1 := H54.out.cell 1
        have q2 := H54.out.cell 2
        have q3 := H54.out.cell 3
        have q4 := H54.out.cell 4
        have q5 := H54.out.cell 5
        have q6 := H54.out.cell 6
        have q7 := H54.out.cell 7
        have f0 := H54.out.frozen 0
        have f1 := H54.out.frozen 1
        have f2 := H54.out.frozen 2
        have f3 := H54.out.frozen 3
        have f4 := H54.out.frozen 4
        have f5 := H54.out.frozen 5
        have f6 := H54.out.frozen 6
        have f7 := H54.out.frozen 7
        refine wpT_one 6 (by kernel_rfl) (stepT_early rfl rfl (fun K hK => ?_))
        go_simp
        refine hK.out _ _ ⟨HS4.out.far8 (g := W1.heap.size) (by omega) (AdjC.touch x), trivial⟩ (fun hHeld2 => ?_)
        clear hK K hHeld hHeld2
        clear q0 f0 q1 f1 q2 f2 q3 f3 q4 f4 q5 f5 q6 f6 q7 f7
        try simp only [List.setIfInBounds_toArray, List.set_cons_zero, List.set_cons_succ]
        have HB9 := Lib.hid (Cr.below8 (g := W1.heap.size) HB4.out (by omega) (AdjC.touch x))
        have H59 := Lib.hid (Cr.blk8 H54.out (AdjC.touch x))
        have H69 := Lib.hid (Cr.far8 (g := W1.heap.size) H64.out (by omega) (AdjC.touch x))
        generalize ((((((((W4.setCell ⟨W1.heap.size, 0, none⟩ (.int .i64 (AdjC.touch x).1.1)).setCell ⟨W1.heap.size, 1, none⟩ (.int .i64 (AdjC.touch x).1.2)).setCell ⟨W1.heap.size, 2, none⟩ (.int .i64 (AdjC.touch x).2.1.1)).setCell ⟨W1.heap.size, 3, none⟩ (.int .i64 (AdjC.touch x).2.1.2)).setCell ⟨W1.heap.size, 4, none⟩ (.int .i64 (AdjC.touch x).2.2.1.1)).setCell ⟨W1.heap.size, 5, none⟩ (.int .i64 (AdjC.touch x).2.2.1.2)).setCell ⟨W1.heap.size, 6, none⟩ (.int .i64 (AdjC.touch x).2.2.2.1)).setCell ⟨W1.heap.size, 7, none⟩ (.int .i64 (AdjC.touch x).2.2.2.2)) = W9 at HB9 H59 H69 ⊢
        have q0 := H69.out.cell 0
        have q1 := H69.out.cell 1
        have q2 := H69.out.cell 2
        have q3 := H69.out.cell 3
        have q4 := H69.out.cell 4
        have q5 := H69.out.cell 5
        have q6 := H69.out.cell 6
        have q7 := H69.out.cell 7
        have f0 := H69.out.frozen 0
        have f1 := H69.out.frozen 1
        have f2 := H69.out.frozen 2
        have f3 := H69.out.frozen 3
        have f4 := H69.out.frozen 4
        have f5 := H69.out.frozen 5
        have f6 := H69.out.frozen 6
        have f7 := H69.out.frozen 7
        refine wpT_tail [_] 7 [] rfl (by kernel_rfl) ?_
        go_wp2_with fail
        go_meet
        case rel => exact ⟨W1.heap.size, W0.heap.size, rfl, rfl, Cr.below8 (g := W0.heap.size) HB9.out (by omega) (AdjC.touch y), Cr.far8 (g := W0.heap.size) H59.out (by omega) (AdjC.touch y), Cr.blk8 H69.out (AdjC.touch y)⟩
  case rest =>
    obtain ⟨g, h, rfl, rfl, hb, hg, hh⟩ := hcut
    have HB := Lib.hid hb
    have HG := Lib.hid hg
    have HH := Lib.hid hh
    have HPX := Lib.hid (Cr.touch_smallI kx hx)
    have HPY := Lib.hid (Cr.touch_smallI ky hy)
    have HC := Lib.hid (Cr.clash_touch kx ky)
    clear hb hg hh hx hy HTX HTY
    generalize AdjC.touch x = tx at HG HPX HC
    generalize AdjC.touch y = ty at HH HPY HC
    obtain ⟨p0, p1, p2, pw⟩ := tx
    obtain ⟨q0, q1, q2, qw⟩ := ty
    simp only at HPX HPY HC
    have HMW := Lib.hid (fun W => meet_any pw qw W HPX.out.2.2.2.1 HPX.out.2.2.2.2.1 HPX.out.2.2.2.2.2.1 HPX.out.2.2.2.2.2.2 HPY.out.2.2.2.1 HPY.out.2.2.2.2.1 HPY.out.2.2.2.2.2.1 HPY.out.2.2.2.2.2.2)
    have x6 : wc.cell? ⟨g, 6, none⟩ = some (.int .i64 pw.1) := HG.out.cell 6
    have x7 : wc.cell? ⟨g, 7, none⟩ = some (.int .i64 pw.2) := HG.out.cell 7
    have y6 : wc.cell? ⟨h, 6, none⟩ = some (.int .i64 qw.1) := HH.out.cell 6
    have y7 : wc.cell? ⟨h, 7, none⟩ = some (.int .i64 qw.2) := HH.out.cell 7
    go_wp2_with fail
    ((with_reducible refine (HMW.out _).mono ?_); rintro e w2 ⟨rfl, hb⟩)
    have HB2 := Lib.hid (HB.out.trans (hb.mono HB.out.size))
    have HG2 := Lib.hid (HG.out.below hb HG.out.lt)
    have HH2 := Lib.hid (HH.out.below hb HH.out.lt)
    clear x6 x7 y6 y7 hb HB HG HH HMW
    by_cases hw : AdjC.meet pw qw = true
    · rw [hw]
      have HE := Lib.hid (HC.out.trans (show _ = true by rw [hw]; rfl))
      clear hw
      go_wp2_with fail
      go_ret
      exact ⟨ret_bool HE.out.symm, HB2.out⟩
    · have hw' : AdjC.meet pw qw = false := by simpa using hw
      rw [hw']
      have HW := Lib.hid hw'
      clear hw hw'
      go_wp2_with fail
      go_loopw [7] (fun iv wr => ∃ k : Nat, k ≤ 3 ∧ iv = .int .i64 k ∧ (Below w.heap.size w wr ∧ Blk wr g 75 (Cr.tc (p0, p1, p2, pw)) ∧ Blk wr h 75 (Cr.tc (q0, q1, q2, qw))) ∧
        (1 ≤ k → AdjC.meet pw q0 = false ∧ AdjC.meet qw p0 = false) ∧ (2 ≤ k → AdjC.meet pw q1 = false ∧ AdjC.meet qw p1 = false) ∧ (3 ≤ k → AdjC.meet pw q2 = false ∧ AdjC.meet qw p2 = false)) (fun iv _ => 3 - (intOf iv).toNat)
      case atStart => exact ⟨0, by omega, rfl, ⟨HB2.out, HG2.out, HH2.out⟩, by omega, by omega, by omega⟩
      case round =>
        obtain ⟨k, hk, rfl, hl, f1, f2, f3⟩ := hrel
        have HL := Lib.hid hl
        have F1 := Lib.hid f1
        have F2 := Lib.hid f2
        have F3 := Lib.hid f3
        have k4 : k = 0 ∨ k = 1 ∨ k = 2 ∨ k = 3 := by omega
        have ww6 : wr.cell? ⟨g, 6, none⟩ = some (.int .i64 pw.1) := hl.2.1.cell 6
        have ww7 : wr.cell? ⟨g, 7, none⟩ = some (.int .i64 pw.2) := hl.2.1.cell 7
        have vv6 : wr.cell? ⟨h, 6, none⟩ = some (.int .i64 qw.1) := hl.2.2.cell 6
        have vv7 : wr.cell? ⟨h, 7, none⟩ = some (.int .i64 qw.2) := hl.2.2.cell 7
        clear hl f1 f2 f3 hk HB2 HG2 HH2
        rcases k4 with rfl | rfl | rfl | rfl
        · rw [show (((0 : Nat) : Int)) = (0 : Int) from rfl]
          have qa : wr.cell? ⟨h, 0, none⟩ = some (.int .i64 q0.1) := HL.out.2.2.cell 0
          have qb : wr.cell? ⟨h, 1, none⟩ = some (.int .i64 q0.2) := HL.out.2.2.cell 1
          have pa : wr.cell? ⟨g, 0, none⟩ = some (.int .i64 p0.1) := HL.out.2.1.cell 0
          have pb : wr.cell? ⟨g, 1, none⟩ = some (.int .i64 p0.2) := HL.out.2.1.cell 1
          have HM1 := Lib.hid (fun W => meet_any pw q0 W HPX.out.2.2.2.1 HPX.out.2.2.2.2.1 HPX.out.2.2.2.2.2.1 HPX.out.2.2.2.2.2.2 HPY.out.1.1 HPY.out.1.2.1 HPY.out.1.2.2.1 HPY.out.1.2.2.2)
          have HM2 := Lib.hid (fun W => meet_any qw p0 W HPY.out.2.2.2.1 HPY.out.2.2.2.2.1 HPY.out.2.2.2.2.2.1 HPY.out.2.2.2.2.2.2 HPX.out.1.1 HPX.out.1.2.1 HPX.out.1.2.2.1 HPX.out.1.2.2.2)
          go_upto_region 7 with (fail)
          by_cases ht : AdjC.meet pw q0 = true
          · have H1 := Lib.hid ht
            have HE := Lib.hid (HC.out.trans (show _ = true by rw [HW.out]; rw [AdjC.meet_comm q0 pw, ht]; simp))
            refine wp_region_T (fun w' => (w'.cell? ⟨g, 6, none⟩ = some (.int .i64 pw.1) ∧ w'.cell? ⟨g, 7, none⟩ = some (.int .i64 pw.2) ∧ w'.cell? ⟨h, 6, none⟩ = some (.int .i64 qw.1) ∧ w'.cell? ⟨h, 7, none⟩ = some (.int .i64 qw.2)) ∧ w'.cell? ⟨h, 0, none⟩ = some (.int .i64 q0.1) ∧ w'.cell? ⟨h, 1, none⟩ = some (.int .i64 q0.2) ∧ w'.cell? ⟨g, 0, none⟩ = some (.int .i64 p0.1) ∧ w'.cell? ⟨g, 1, none⟩ = some (.int .i64 p0.2)) 14 (fun _ => True) 14 16 rfl (by kernel_rfl) ⟨⟨⟨ww6, ww7, vv6, vv7⟩, qa, qb, pa, pb⟩, trivial⟩ (fun hHeld => ?_)
            simp only [List.replicate_succ, List.replicate_zero]
            refine wpT_takeC [1, 6, 7] 0 21 (v := ?_) hHeld.1 hHeld.2 rfl rfl (by kernel_rfl) (fun _ _ _ h => h) (yields_yes rfl ?_) ?_
            rotate_left
            · (intro w hSw; (try dsimp only at hSw); go_simp; try with_reducible rfl)
            try simp only [Act.put, List.setIfInBounds_toArray, List.set_cons_zero, List.set_cons_succ]
            refine wpT_takeC [6, 7] 1 22 (v := ?_) hHeld.1 hHeld.2 rfl rfl (by kernel_rfl) (fun _ _ _ h => h) (yields_yes rfl ?_) ?_
            rotate_left
            · (intro w hSw; (try dsimp only at hSw); go_simp; try with_reducible rfl)
            try simp only [Act.put, List.setIfInBounds_toArray, List.set_cons_zero, List.set_cons_succ]
            refine wpT_takeC [4, 5, 6, 7] 2 23 (v := ?_) hHeld.1 hHeld.2 rfl rfl (by kernel_rfl) (fun _ _ _ h => h) (yields_yes rfl ?_) ?_
            rotate_left
            · (intro w hSw; (try dsimp only at hSw); go_simp; try with_reducible rfl)
            try simp only [Act.put, List.setIfInBounds_toArray, List.set_cons_zero, List.set_cons_succ]
            refine wpT_takeC [4, 5, 6, 7] 3 24 (v := ?_) hHeld.1 hHeld.2 rfl rfl (by kernel_rfl) (fun _ _ _ h => h) (yields_yes rfl ?_) ?_
            rotate_left
            · (intro w hSw; (try dsimp only at hSw); go_simp; try with_reducible rfl)
            try simp only [Act.put, List.setIfInBounds_toArray, List.set_cons_zero, List.set_cons_succ]
            refine wpT_takeC [5, 6, 7] 4 25 (v := ?_) hHeld.1 hHeld.2 rfl rfl (by kernel_rfl) (fun _ _ _ h => h) (yields_yes rfl ?_) ?_
            rotate_left
            · (intro w hSw; (try dsimp only at hSw); go_simp; try with_reducible rfl)
            try simp only [Act.put, List.setIfInBounds_toArray, List.set_cons_zero, List.set_cons_succ]
            refine wpT_takeC [6, 7] 5 26 (v := ?_) hHeld.1 hHeld.2 rfl rfl (by kernel_rfl) (fun _ _ _ h => h) (yields_yes rfl ?_) ?_
            rotate_left
            · (intro w hSw; (try dsimp only at hSw); go_simp; try with_reducible rfl)
            try simp only [Act.put, List.setIfInBounds_toArray, List.set_cons_zero, List.set_cons_succ]
            have HLd := Lib.hid (show Below w.heap.size w wr.drew ∧ Blk wr.drew g 75 (Cr.tc (p0, p1, p2, pw)) ∧ Blk wr.drew h 75 (Cr.tc (q0, q1, q2, qw)) from ⟨HL.out.1.drew, HL.out.2.1.drew, HL.out.2.2.drew⟩)
            generalize wr.drew = W at HLd hHeld ⊢
            refine wpT_one 6 (by kernel_rfl) (stepT_early rfl rfl (fun K hK => ?_))
            go_simp
            ((with_reducible refine (HM1.out _).mono ?_); rintro e w5 ⟨rfl, hb⟩)
            have HL5 := Lib.hid (And.intro (HLd.out.1.trans (hb.mono HLd.out.1.size)) (And.intro (HLd.out.2.1.below hb HLd.out.2.1.lt) (HLd.out.2.2.below hb HLd.out.2.2.lt)))
            clear hb ww6 ww7 vv6 vv7 qa qb pa pb
            rw [ht]
            clear ht
            try go_simp
            refine hK.out _ _ ⟨⟨⟨HL5.out.2.1.cell 6, HL5.out.2.1.cell 7, HL5.out.2.2.cell 6, HL5.out.2.2.cell 7⟩, HL5.out.2.2.cell 0, HL5.out.2.2.cell 1, HL5.out.2.1.cell 0, HL5.out.2.1.cell 1⟩, trivial⟩ (fun hHeld2 => ?_)
            clear hK K hHeld
            have hHeld := hHeld2
            clear hHeld2
            try simp only [List.setIfInBounds_toArray, List.set_cons_zero, List.set_cons_succ]
            refine wpT_one 7 (by kernel_rfl) (stepT_early rfl rfl (fun K hK => ?_))
            go_simp
            refine hK.out _ _ hHeld (fun hHeld2 => ?_)
            clear hK K
            try simp only [List.setIfInBounds_toArray, List.set_cons_zero, List.set_cons_succ]
            refine wpT_takeC [9] 8 29 (v := undef) hHeld.1 hHeld.2 rfl rfl (by kernel_rfl) (fun _ _ _ h => h) (yields_not rfl) ?_
            try simp only [Act.put, List.setIfInBounds_toArray, List.set_cons_zero, List.set_cons_succ]
            refine wpT_takeC [] 9 30 (v := undef) hHeld.1 hHeld.2 rfl rfl (by kernel_rfl) (fun _ _ _ h => h) (yields_not rfl) ?_
            try simp only [Act.put, List.setIfInBounds_toArray, List.set_cons_zero, List.set_cons_succ]
            refine wpT_takeC [12, 13] 10 31 (v := undef) hHeld.1 hHeld.2 rfl rfl (by kernel_rfl) (fun _ _ _ h => h) (yields_not rfl) ?_
            try simp only [Act.put, List.setIfInBounds_toArray, List.set_cons_zero, List.set_cons_succ]
            refine wpT_takeC [12, 13] 11 32 (v := undef) hHeld.1 hHeld.2 rfl rfl (by kernel_rfl) (fun _ _ _ h => h) (yields_not rfl) ?_
            try simp only [Act.put, List.setIfInBounds_toArray, List.set_cons_zero, List.set_cons_succ]
            refine wpT_takeC [13] 12 33 (v := undef) hHeld.1 hHeld.2 rfl rfl (by kernel_rfl) (fun _ _ _ h => h) (yields_not rfl) ?_
            try simp only [Act.put, List.setIfInBounds_toArray, List.set_cons_zero, List.set_cons_succ]
            refine wpT_takeC [] 13 34 (v := undef) hHeld.1 hHeld.2 rfl rfl (by kernel_rfl) (fun _ _ _ h => h) (yields_not rfl) ?_
            try simp only [Act.put, List.setIfInBounds_toArray, List.set_cons_zero, List.set_cons_succ]
            refine wpT_tail [_, _] 14 [15] rfl (by kernel_rfl) ?_
            go_wp2_with fail
            go_ret
            exact ⟨ret_bool HE.out.symm, HL5.out.1⟩
          · have ht' : AdjC.meet pw q0 = false := by simpa using ht
            have H1 := Lib.hid ht'
            refine wp_region_T (fun w' => (w'.cell? ⟨g, 6, none⟩ = some (.int .i64 pw.1) ∧ w'.cell? ⟨g, 7, none⟩ = some (.int .i64 pw.2) ∧ w'.cell? ⟨h, 6, none⟩ = some (.int .i64 qw.1) ∧ w'.cell? ⟨h, 7, none⟩ = some (.int .i64 qw.2)) ∧ w'.cell? ⟨h, 0, none⟩ = some (.int .i64 q0.1) ∧ w'.cell? ⟨h, 1, none⟩ = some (.int .i64 q0.2) ∧ w'.cell? ⟨g, 0, none⟩ = some (.int .i64 p0.1) ∧ w'.cell? ⟨g, 1, none⟩ = some (.int .i64 p0.2)) 14 (fun _ => True) 14 16 rfl (by kernel_rfl) ⟨⟨⟨ww6, ww7, vv6, vv7⟩, qa, qb, pa, pb⟩, trivial⟩ (fun hHeld => ?_)
            simp only [List.replicate_succ, List.replicate_zero]
            refine wpT_takeC [1, 6, 7] 0 21 (v := ?_) hHeld.1 hHeld.2 rfl rfl (by kernel_rfl) (fun _ _ _ h => h) (yields_yes rfl ?_) ?_
            rotate_left
            · (intro w hSw; (try dsimp only at hSw); go_simp; try with_reducible rfl)
            try simp only [Act.put, List.setIfInBounds_toArray, List.set_cons_zero, List.set_cons_succ]
            refine wpT_takeC [6, 7] 1 22 (v := ?_) hHeld.1 hHeld.2 rfl rfl (by kernel_rfl) (fun _ _ _ h => h) (yields_yes rfl ?_) ?_
            rotate_left
            · (intro w hSw; (try dsimp only at hSw); go_simp; try with_reducible rfl)
            try simp only [Act.put, List.setIfInBounds_toArray, List.set_cons_zero, List.set_cons_succ]
            refine wpT_takeC [4, 5, 6, 7] 2 23 (v := ?_) hHeld.1 hHeld.2 rfl rfl (by kernel_rfl) (fun _ _ _ h => h) (yields_yes rfl ?_) ?_
            rotate_left
            · (intro w hSw; (try dsimp only at hSw); go_simp; try with_reducible rfl)
            try simp only [Act.put, List.setIfInBounds_toArray, List.set_cons_zero, List.set_cons_succ]
            refine wpT_takeC [4, 5, 6, 7] 3 24 (v := ?_) hHeld.1 hHeld.2 rfl rfl (by kernel_rfl) (fun _ _ _ h => h) (yields_yes rfl ?_) ?_
            rotate_left
            · (intro w hSw; (try dsimp only at hSw); go_simp; try with_reducible rfl)
            try simp only [Act.put, List.setIfInBounds_toArray, List.set_cons_zero, List.set_cons_succ]
            refine wpT_takeC [5, 6, 7] 4 25 (v := ?_) hHeld.1 hHeld.2 rfl rfl (by kernel_rfl) (fun _ _ _ h => h) (yields_yes rfl ?_) ?_
            rotate_left
            · (intro w hSw; (try dsimp only at hSw); go_simp; try with_reducible rfl)
            try simp only [Act.put, List.setIfInBounds_toArray, List.set_cons_zero, List.set_cons_succ]
            refine wpT_takeC [6, 7] 5 26 (v := ?_) hHeld.1 hHeld.2 rfl rfl (by kernel_rfl) (fun _ _ _ h => h) (yields_yes rfl ?_) ?_
            rotate_left
            · (intro w hSw; (try dsimp only at hSw); go_simp; try with_reducible rfl)
            try simp only [Act.put, List.setIfInBounds_toArray, List.set_cons_zero, List.set_cons_succ]
            have HLd := Lib.hid (show Below w.heap.size w wr.drew ∧ Blk wr.drew g 75 (Cr.tc (p0, p1, p2, pw)) ∧ Blk wr.drew h 75 (Cr.tc (q0, q1, q2, qw)) from ⟨HL.out.1.drew, HL.out.2.1.drew, HL.out.2.2.drew⟩)
            generalize wr.drew = W at HLd hHeld ⊢
            refine wpT_one 6 (by kernel_rfl) (stepT_early rfl rfl (fun K hK => ?_))
            go_simp
            ((with_reducible refine (HM1.out _).mono ?_); rintro e w5 ⟨rfl, hb⟩)
            have HL5 := Lib.hid (And.intro (HLd.out.1.trans (hb.mono HLd.out.1.size)) (And.intro (HLd.out.2.1.below hb HLd.out.2.1.lt) (HLd.out.2.2.below hb HLd.out.2.2.lt)))
            clear hb ww6 ww7 vv6 vv7 qa qb pa pb
            rw [ht']
            clear ht ht'
            try go_simp
            refine hK.out _ _ ⟨⟨⟨HL5.out.2.1.cell 6, HL5.out.2.1.cell 7, HL5.out.2.2.cell 6, HL5.out.2.2.cell 7⟩, HL5.out.2.2.cell 0, HL5.out.2.2.cell 1, HL5.out.2.1.cell 0, HL5.out.2.1.cell 1⟩, trivial⟩ (fun hHeld2 => ?_)
            clear hK K hHeld
            have hHeld := hHeld2
            clear hHeld2
            try simp only [List.setIfInBounds_toArray, List.set_cons_zero, List.set_cons_succ]
            refine wpT_one 7 (by kernel_rfl) (stepT_early rfl rfl (fun K hK => ?_))
            go_simp
            refine hK.out _ _ hHeld (fun hHeld2 => ?_)
            clear hK K
            try simp only [List.setIfInBounds_toArray, List.set_cons_zero, List.set_cons_succ]
            refine wpT_takeC [9] 8 29 (v := ?_) hHeld.1 hHeld.2 rfl rfl (by kernel_rfl) (fun _ _ _ h => h) (yields_yes rfl ?_) ?_
            rotate_left
            · (intro w hSw; (try dsimp only at hSw); go_simp; try with_reducible rfl)
            try simp only [Act.put, List.setIfInBounds_toArray, List.set_cons_zero, List.set_cons_succ]
            refine wpT_takeC [] 9 30 (v := ?_) hHeld.1 hHeld.2 rfl rfl (by kernel_rfl) (fun _ _ _ h => h) (yields_yes rfl ?_) ?_
            rotate_left
            · (intro w hSw; (try dsimp only at hSw); go_simp; try with_reducible rfl)
            try simp only [Act.put, List.setIfInBounds_toArray, List.set_cons_zero, List.set_cons_succ]
            refine wpT_takeC [12, 13] 10 31 (v := ?_) hHeld.1 hHeld.2 rfl rfl (by kernel_rfl) (fun _ _ _ h => h) (yields_yes rfl ?_) ?_
            rotate_left
            · (intro w hSw; (try dsimp only at hSw); go_simp; try with_reducible rfl)
            try simp only [Act.put, List.setIfInBounds_toArray, List.set_cons_zero, List.set_cons_succ]
            refine wpT_takeC [12, 13] 11 32 (v := ?_) hHeld.1 hHeld.2 rfl rfl (by kernel_rfl) (fun _ _ _ h => h) (yields_yes rfl ?_) ?_
            rotate_left
            · (intro w hSw; (try dsimp only at hSw); go_simp; try with_reducible rfl)
            try simp only [Act.put, List.setIfInBounds_toArray, List.set_cons_zero, List.set_cons_succ]
            refine wpT_takeC [13] 12 33 (v := ?_) hHeld.1 hHeld.2 rfl rfl (by kernel_rfl) (fun _ _ _ h => h) (yields_yes rfl ?_) ?_
            rotate_left
            · (intro w hSw; (try dsimp only at hSw); go_simp; try with_reducible rfl)
            try simp only [Act.put, List.setIfInBounds_toArray, List.set_cons_zero, List.set_cons_succ]
            refine wpT_takeC [] 13 34 (v := ?_) hHeld.1 hHeld.2 rfl rfl (by kernel_rfl) (fun _ _ _ h => h) (yields_yes rfl ?_) ?_
            rotate_left
            · (intro w hSw; (try dsimp only at hSw); go_simp; try with_reducible rfl)
            try simp only [Act.put, List.setIfInBounds_toArray, List.set_cons_zero, List.set_cons_succ]
            refine wpT_tail [_, _] 14 [15] rfl (by kernel_rfl) ?_
            clear hHeld
            go_wp2_with fail
            ((with_reducible refine (HM2.out _).mono ?_); rintro e w6 ⟨rfl, hb⟩)
            have HL6 := Lib.hid (And.intro (HL5.out.1.trans (hb.mono HL5.out.1.size)) (And.intro (HL5.out.2.1.below hb HL5.out.2.1.lt) (HL5.out.2.2.below hb HL5.out.2.2.lt)))
            clear hb
            by_cases ht2 : AdjC.meet qw p0 = true
            · have HE := Lib.hid (HC.out.trans (show _ = true by rw [AdjC.meet_comm p0 qw, ht2]; simp))
              rw [ht2]
              clear ht2
              go_wp2_with fail
              go_ret
              exact ⟨ret_bool HE.out.symm, HL6.out.1⟩
            · have ht2' : AdjC.meet qw p0 = false := by simpa using ht2
              have H2 := Lib.hid ht2'
              rw [ht2']
              clear ht2 ht2'
              go_wp2_with fail
              go_roundw
              case rel => exact ⟨1, by omega, rfl, HL6.out, fun _ => ⟨H1.out, H2.out⟩, by omega, by omega⟩
              case measure => simp [intOf]
        · rw [show (((1 : Nat) : Int)) = (1 : Int) from rfl]
          have qa : wr.cell? ⟨h, 2, none⟩ = some (.int .i64 q1.1) := HL.out.2.2.cell 2
          have qb : wr.cell? ⟨h, 3, none⟩ = some (.int .i64 q1.2) := HL.out.2.2.cell 3
          have pa : wr.cell? ⟨g, 2, none⟩ = some (.int .i64 p1.1) := HL.out.2.1.cell 2
          have pb : wr.cell? ⟨g, 3, none⟩ = some (.int .i64 p1.2) := HL.out.2.1.cell 3
          have HM1 := Lib.hid (fun W => meet_any pw q1 W HPX.out.2.2.2.1 HPX.out.2.2.2.2.1 HPX.out.2.2.2.2.2.1 HPX.out.2.2.2.2.2.2 HPY.out.2.1.1 HPY.out.2.1.2.1 HPY.out.2.1.2.2.1 HPY.out.2.1.2.2.2)
          have HM2 := Lib.hid (fun W => meet_any qw p1 W HPY.out.2.2.2.1 HPY.out.2.2.2.2.1 HPY.out.2.2.2.2.2.1 HPY.out.2.2.2.2.2.2 HPX.out.2.1.1 HPX.out.2.1.2.1 HPX.out.2.1.2.2.1 HPX.out.2.1.2.2.2)
          go_upto_region 7 with (fail)
          by_cases ht : AdjC.meet pw q1 = true
          · have H1 := Lib.hid ht
            have HE := Lib.hid (HC.out.trans (show _ = true by rw [HW.out]; rw [AdjC.meet_comm q1 pw, ht]; simp))
            refine wp_region_T (fun w' => (w'.cell? ⟨g, 6, none⟩ = some (.int .i64 pw.1) ∧ w'.cell? ⟨g, 7, none⟩ = some (.int .i64 pw.2) ∧ w'.cell? ⟨h, 6, none⟩ = some (.int .i64 qw.1) ∧ w'.cell? ⟨h, 7, none⟩ = some (.int .i64 qw.2)) ∧ w'.cell? ⟨h, 2, none⟩ = some (.int .i64 q1.1) ∧ w'.cell? ⟨h, 3, none⟩ = some (.int .i64 q1.2) ∧ w'.cell? ⟨g, 2, none⟩ = some (.int .i64 p1.1) ∧ w'.cell? ⟨g, 3, none⟩ = some (.int .i64 p1.2)) 14 (fun _ => True) 14 16 rfl (by kernel_rfl) ⟨⟨⟨ww6, ww7, vv6, vv7⟩, qa, qb, pa, pb⟩, trivial⟩ (fun hHeld => ?_)
            simp only [List.replicate_succ, List.replicate_zero]
            refine wpT_takeC [1, 6, 7] 0 21 (v := ?_) hHeld.1 hHeld.2 rfl rfl (by kernel_rfl) (fun _ _ _ h => h) (yields_yes rfl ?_) ?_
            rotate_left
            · (intro w hSw; (try dsimp only at hSw); go_simp; try with_reducible rfl)
            try simp only [Act.put, List.setIfInBounds_toArray, List.set_cons_zero, List.set_cons_succ]
            refine wpT_takeC [6, 7] 1 22 (v := ?_) hHeld.1 hHeld.2 rfl rfl (by kernel_rfl) (fun _ _ _ h => h) (yields_yes rfl ?_) ?_
            rotate_left
            · (intro w hSw; (try dsimp only at hSw); go_simp; try with_reducible rfl)
            try simp only [Act.put, List.setIfInBounds_toArray, List.set_cons_zero, List.set_cons_succ]
            refine wpT_takeC [4, 5, 6, 7] 2 23 (v := ?_) hHeld.1 hHeld.2 rfl rfl (by kernel_rfl) (fun _ _ _ h => h) (yields_yes rfl ?_) ?_
            rotate_left
            · (intro w hSw; (try dsimp only at hSw); go_simp; try with_reducible rfl)
            try simp only [Act.put, List.setIfInBounds_toArray, List.set_cons_zero, List.set_cons_succ]
            refine wpT_takeC [4, 5, 6, 7] 3 24 (v := ?_) hHeld.1 hHeld.2 rfl rfl (by kernel_rfl) (fun _ _ _ h => h) (yields_yes rfl ?_) ?_
            rotate_left
            · (intro w hSw; (try dsimp only at hSw); go_simp; try with_reducible rfl)
            try simp only [Act.put, List.setIfInBounds_toArray, List.set_cons_zero, List.set_cons_succ]
            refine wpT_takeC [5, 6, 7] 4 25 (v := ?_) hHeld.1 hHeld.2 rfl rfl (by kernel_rfl) (fun _ _ _ h => h) (yields_yes rfl ?_) ?_
            rotate_left
            · (intro w hSw; (try dsimp only at hSw); go_simp; try with_reducible rfl)
            try simp only [Act.put, List.setIfInBounds_toArray, List.set_cons_zero, List.set_cons_succ]
            refine wpT_takeC [6, 7] 5 26 (v := ?_) hHeld.1 hHeld.2 rfl rfl (by kernel_rfl) (fun _ _ _ h => h) (yields_yes rfl ?_) ?_
            rotate_left
            · (intro w hSw; (try dsimp only at hSw); go_simp; try with_reducible rfl)
            try simp only [Act.put, List.setIfInBounds_toArray, List.set_cons_zero, List.set_cons_succ]
            have HLd := Lib.hid (show Below w.heap.size w wr.drew ∧ Blk wr.drew g 75 (Cr.tc (p0, p1, p2, pw)) ∧ Blk wr.drew h 75 (Cr.tc (q0, q1, q2, qw)) from ⟨HL.out.1.drew, HL.out.2.1.drew, HL.out.2.2.drew⟩)
            generalize wr.drew = W at HLd hHeld ⊢
            refine wpT_one 6 (by kernel_rfl) (stepT_early rfl rfl (fun K hK => ?_))
            go_simp
            ((with_reducible refine (HM1.out _).mono ?_); rintro e w5 ⟨rfl, hb⟩)
            have HL5 := Lib.hid (And.intro (HLd.out.1.trans (hb.mono HLd.out.1.size)) (And.intro (HLd.out.2.1.below hb HLd.out.2.1.lt) (HLd.out.2.2.below hb HLd.out.2.2.lt)))
            clear hb ww6 ww7 vv6 vv7 qa qb pa pb
            rw [ht]
            clear ht
            try go_simp
            refine hK.out _ _ ⟨⟨⟨HL5.out.2.1.cell 6, HL5.out.2.1.cell 7, HL5.out.2.2.cell 6, HL5.out.2.2.cell 7⟩, HL5.out.2.2.cell 2, HL5.out.2.2.cell 3, HL5.out.2.1.cell 2, HL5.out.2.1.cell 3⟩, trivial⟩ (fun hHeld2 => ?_)
            clear hK K hHeld
            have hHeld := hHeld2
            clear hHeld2
            try simp only [List.setIfInBounds_toArray, List.set_cons_zero, List.set_cons_succ]
            refine wpT_one 7 (by kernel_rfl) (stepT_early rfl rfl (fun K hK => ?_))
            go_simp
            refine hK.out _ _ hHeld (fun hHeld2 => ?_)
            clear hK K
            try simp only [List.setIfInBounds_toArray, List.set_cons_zero, List.set_cons_succ]
            refine wpT_takeC [9] 8 29 (v := undef) hHeld.1 hHeld.2 rfl rfl (by kernel_rfl) (fun _ _ _ h => h) (yields_not rfl) ?_
            try simp only [Act.put, List.setIfInBounds_toArray, List.set_cons_zero, List.set_cons_succ]
            refine wpT_takeC [] 9 30 (v := undef) hHeld.1 hHeld.2 rfl rfl (by kernel_rfl) (fun _ _ _ h => h) (yields_not rfl) ?_
            try simp only [Act.put, List.setIfInBounds_toArray, List.set_cons_zero, List.set_cons_succ]
            refine wpT_takeC [12, 13] 10 31 (v := undef) hHeld.1 hHeld.2 rfl rfl (by kernel_rfl) (fun _ _ _ h => h) (yields_not rfl) ?_
            try simp only [Act.put, List.setIfInBounds_toArray, List.set_cons_zero, List.set_cons_succ]
            refine wpT_takeC [12, 13] 11 32 (v := undef) hHeld.1 hHeld.2 rfl rfl (by kernel_rfl) (fun _ _ _ h => h) (yields_not rfl) ?_
            try simp only [Act.put, List.setIfInBounds_toArray, List.set_cons_zero, List.set_cons_succ]
            refine wpT_takeC [13] 12 33 (v := undef) hHeld.1 hHeld.2 rfl rfl (by kernel_rfl) (fun _ _ _ h => h) (yields_not rfl) ?_
            try simp only [Act.put, List.setIfInBounds_toArray, List.set_cons_zero, List.set_cons_succ]
            refine wpT_takeC [] 13 34 (v := undef) hHeld.1 hHeld.2 rfl rfl (by kernel_rfl) (fun _ _ _ h => h) (yields_not rfl) ?_
            try simp only [Act.put, List.setIfInBounds_toArray, List.set_cons_zero, List.set_cons_succ]
            refine wpT_tail [_, _] 14 [15] rfl (by kernel_rfl) ?_
            go_wp2_with fail
            go_ret
            exact ⟨ret_bool HE.out.symm, HL5.out.1⟩
          · have ht' : AdjC.meet pw q1 = false := by simpa using ht
            have H1 := Lib.hid ht'
            refine wp_region_T (fun w' => (w'.cell? ⟨g, 6, none⟩ = some (.int .i64 pw.1) ∧ w'.cell? ⟨g, 7, none⟩ = some (.int .i64 pw.2) ∧ w'.cell? ⟨h, 6, none⟩ = some (.int .i64 qw.1) ∧ w'.cell? ⟨h, 7, none⟩ = some (.int .i64 qw.2)) ∧ w'.cell? ⟨h, 2, none⟩ = some (.int .i64 q1.1) ∧ w'.cell? ⟨h, 3, none⟩ = some (.int .i64 q1.2) ∧ w'.cell? ⟨g, 2, none⟩ = some (.int .i64 p1.1) ∧ w'.cell? ⟨g, 3, none⟩ = some (.int .i64 p1.2)) 14 (fun _ => True) 14 16 rfl (by kernel_rfl) ⟨⟨⟨ww6, ww7, vv6, vv7⟩, qa, qb, pa, pb⟩, trivial⟩ (fun hHeld => ?_)
            simp only [List.replicate_succ, List.replicate_zero]
            refine wpT_takeC [1, 6, 7] 0 21 (v := ?_) hHeld.1 hHeld.2 rfl rfl (by kernel_rfl) (fun _ _ _ h => h) (yields_yes rfl ?_) ?_
            rotate_left
            · (intro w hSw; (try dsimp only at hSw); go_simp; try with_reducible rfl)
            try simp only [Act.put, List.setIfInBounds_toArray, List.set_cons_zero, List.set_cons_succ]
            refine wpT_takeC [6, 7] 1 22 (v := ?_) hHeld.1 hHeld.2 rfl rfl (by kernel_rfl) (fun _ _ _ h => h) (yields_yes rfl ?_) ?_
            rotate_left
            · (intro w hSw; (try dsimp only at hSw); go_simp; try with_reducible rfl)
            try simp only [Act.put, List.setIfInBounds_toArray, List.set_cons_zero, List.set_cons_succ]
            refine wpT_takeC [4, 5, 6, 7] 2 23 (v := ?_) hHeld.1 hHeld.2 rfl rfl (by kernel_rfl) (fun _ _ _ h => h) (yields_yes rfl ?_) ?_
            rotate_left
            · (intro w hSw; (try dsimp only at hSw); go_simp; try with_reducible rfl)
            try simp only [Act.put, List.setIfInBounds_toArray, List.set_cons_zero, List.set_cons_succ]
            refine wpT_takeC [4, 5, 6, 7] 3 24 (v := ?_) hHeld.1 hHeld.2 rfl rfl (by kernel_rfl) (fun _ _ _ h => h) (yields_yes rfl ?_) ?_
            rotate_left
            · (intro w hSw; (try dsimp only at hSw); go_simp; try with_reducible rfl)
            try simp only [Act.put, List.setIfInBounds_toArray, List.set_cons_zero, List.set_cons_succ]
            refine wpT_takeC [5, 6, 7] 4 25 (v := ?_) hHeld.1 hHeld.2 rfl rfl (by kernel_rfl) (fun _ _ _ h => h) (yields_yes rfl ?_) ?_
            rotate_left
            · (intro w hSw; (try dsimp only at hSw); go_simp; try with_reducible rfl)
            try simp only [Act.put, List.setIfInBounds_toArray, List.set_cons_zero, List.set_cons_succ]
            refine wpT_takeC [6, 7] 5 26 (v := ?_) hHeld.1 hHeld.2 rfl rfl (by kernel_rfl) (fun _ _ _ h => h) (yields_yes rfl ?_) ?_
            rotate_left
            · (intro w hSw; (try dsimp only at hSw); go_simp; try with_reducible rfl)
            try simp only [Act.put, List.setIfInBounds_toArray, List.set_cons_zero, List.set_cons_succ]
            have HLd := Lib.hid (show Below w.heap.size w wr.drew ∧ Blk wr.drew g 75 (Cr.tc (p0, p1, p2, pw)) ∧ Blk wr.drew h 75 (Cr.tc (q0, q1, q2, qw)) from ⟨HL.out.1.drew, HL.out.2.1.drew, HL.out.2.2.drew⟩)
            generalize wr.drew = W at HLd hHeld ⊢
            refine wpT_one 6 (by kernel_rfl) (stepT_early rfl rfl (fun K hK => ?_))
            go_simp
            ((with_reducible refine (HM1.out _).mono ?_); rintro e w5 ⟨rfl, hb⟩)
            have HL5 := Lib.hid (And.intro (HLd.out.1.trans (hb.mono HLd.out.1.size)) (And.intro (HLd.out.2.1.below hb HLd.out.2.1.lt) (HLd.out.2.2.below hb HLd.out.2.2.lt)))
            clear hb ww6 ww7 vv6 vv7 qa qb pa pb
            rw [ht']
            clear ht ht'
            try go_simp
            refine hK.out _ _ ⟨⟨⟨HL5.out.2.1.cell 6, HL5.out.2.1.cell 7, HL5.out.2.2.cell 6, HL5.out.2.2.cell 7⟩, HL5.out.2.2.cell 2, HL5.out.2.2.cell 3, HL5.out.2.1.cell 2, HL5.out.2.1.cell 3⟩, trivial⟩ (fun hHeld2 => ?_)
            clear hK K hHeld
            have hHeld := hHeld2
            clear hHeld2
            try simp only [List.setIfInBounds_toArray, List.set_cons_zero, List.set_cons_succ]
            refine wpT_one 7 (by kernel_rfl) (stepT_early rfl rfl (fun K hK => ?_))
            go_simp
            refine hK.out _ _ hHeld (fun hHeld2 => ?_)
            clear hK K
            try simp only [List.setIfInBounds_toArray, List.set_cons_zero, List.set_cons_succ]
            refine wpT_takeC [9] 8 29 (v := ?_) hHeld.1 hHeld.2 rfl rfl (by kernel_rfl) (fun _ _ _ h => h) (yields_yes rfl ?_) ?_
            rotate_left
            · (intro w hSw; (try dsimp only at hSw); go_simp; try with_reducible rfl)
            try simp only [Act.put, List.setIfInBounds_toArray, List.set_cons_zero, List.set_cons_succ]
            refine wpT_takeC [] 9 30 (v := ?_) hHeld.1 hHeld.2 rfl rfl (by kernel_rfl) (fun _ _ _ h => h) (yields_yes rfl ?_) ?_
            rotate_left
            · (intro w hSw; (try dsimp only at hSw); go_simp; try with_reducible rfl)
            try simp only [Act.put, List.setIfInBounds_toArray, List.set_cons_zero, List.set_cons_succ]
            refine wpT_takeC [12, 13] 10 31 (v := ?_) hHeld.1 hHeld.2 rfl rfl (by kernel_rfl) (fun _ _ _ h => h) (yields_yes rfl ?_) ?_
            rotate_left
            · (intro w hSw; (try dsimp only at hSw); go_simp; try with_reducible rfl)
            try simp only [Act.put, List.setIfInBounds_toArray, List.set_cons_zero, List.set_cons_succ]
            refine wpT_takeC [12, 13] 11 32 (v := ?_) hHeld.1 hHeld.2 rfl rfl (by kernel_rfl) (fun _ _ _ h => h) (yields_yes rfl ?_) ?_
            rotate_left
            · (intro w hSw; (try dsimp only at hSw); go_simp; try with_reducible rfl)
            try simp only [Act.put, List.setIfInBounds_toArray, List.set_cons_zero, List.set_cons_succ]
            refine wpT_takeC [13] 12 33 (v := ?_) hHeld.1 hHeld.2 rfl rfl (by kernel_rfl) (fun _ _ _ h => h) (yields_yes rfl ?_) ?_
            rotate_left
            · (intro w hSw; (try dsimp only at hSw); go_simp; try with_reducible rfl)
            try simp only [Act.put, List.setIfInBounds_toArray, List.set_cons_zero, List.set_cons_succ]
            refine wpT_takeC [] 13 34 (v := ?_) hHeld.1 hHeld.2 rfl rfl (by kernel_rfl) (fun _ _ _ h => h) (yields_yes rfl ?_) ?_
            rotate_left
            · (intro w hSw; (try dsimp only at hSw); go_simp; try with_reducible rfl)
            try simp only [Act.put, List.setIfInBounds_toArray, List.set_cons_zero, List.set_cons_succ]
            refine wpT_tail [_, _] 14 [15] rfl (by kernel_rfl) ?_
            clear hHeld
            go_wp2_with fail
            ((with_reducible refine (HM2.out _).mono ?_); rintro e w6 ⟨rfl, hb⟩)
            have HL6 := Lib.hid (And.intro (HL5.out.1.trans (hb.mono HL5.out.1.size)) (And.intro (HL5.out.2.1.below hb HL5.out.2.1.lt) (HL5.out.2.2.below hb HL5.out.2.2.lt)))
            clear hb
            by_cases ht2 : AdjC.meet qw p1 = true
            · have HE := Lib.hid (HC.out.trans (show _ = true by rw [AdjC.meet_comm p1 qw, ht2]; simp))
              rw [ht2]
              clear ht2
              go_wp2_with fail
              go_ret
              exact ⟨ret_bool HE.out.symm, HL6.out.1⟩
            · have ht2' : AdjC.meet qw p1 = false := by simpa using ht2
              have H2 := Lib.hid ht2'
              rw [ht2']
              clear ht2 ht2'
              go_wp2_with fail
              go_roundw
              case rel => exact ⟨2, by omega, rfl, HL6.out, fun _ => F1.out (by omega), fun _ => ⟨H1.out, H2.out⟩, by omega⟩
              case measure => simp [intOf]
        · rw [show (((2 : Nat) : Int)) = (2 : Int) from rfl]
          have qa : wr.cell? ⟨h, 4, none⟩ = some (.int .i64 q2.1) := HL.out.2.2.cell 4
          have qb : wr.cell? ⟨h, 5, none⟩ = some (.int .i64 q2.2) := HL.out.2.2.cell 5
          have pa : wr.cell? ⟨g, 4, none⟩ = some (.int .i64 p2.1) := HL.out.2.1.cell 4
          have pb : wr.cell? ⟨g, 5, none⟩ = some (.int .i64 p2.2) := HL.out.2.1.cell 5
          have HM1 := Lib.hid (fun W => meet_any pw q2 W HPX.out.2.2.2.1 HPX.out.2.2.2.2.1 HPX.out.2.2.2.2.2.1 HPX.out.2.2.2.2.2.2 HPY.out.2.2.1.1 HPY.out.2.2.1.2.1 HPY.out.2.2.1.2.2.1 HPY.out.2.2.1.2.2.2)
          have HM2 := Lib.hid (fun W => meet_any qw p2 W HPY.out.2.2.2.1 HPY.out.2.2.2.2.1 HPY.out.2.2.2.2.2.1 HPY.out.2.2.2.2.2.2 HPX.out.2.2.1.1 HPX.out.2.2.1.2.1 HPX.out.2.2.1.2.2.1 HPX.out.2.2.1.2.2.2)
          go_upto_region 7 with (fail)
          by_cases ht : AdjC.meet pw q2 = true
          · have H1 := Lib.hid ht
            have HE := Lib.hid (HC.out.trans (show _ = true by rw [HW.out]; rw [AdjC.meet_comm q2 pw, ht]; simp))
            refine wp_region_T (fun w' => (w'.cell? ⟨g, 6, none⟩ = some (.int .i64 pw.1) ∧ w'.cell? ⟨g, 7, none⟩ = some (.int .i64 pw.2) ∧ w'.cell? ⟨h, 6, none⟩ = some (.int .i64 qw.1) ∧ w'.cell? ⟨h, 7, none⟩ = some (.int .i64 qw.2)) ∧ w'.cell? ⟨h, 4, none⟩ = some (.int .i64 q2.1) ∧ w'.cell? ⟨h, 5, none⟩ = some (.int .i64 q2.2) ∧ w'.cell? ⟨g, 4, none⟩ = some (.int .i64 p2.1) ∧ w'.cell? ⟨g, 5, none⟩ = some (.int .i64 p2.2)) 14 (fun _ => True) 14 16 rfl (by kernel_rfl) ⟨⟨⟨ww6, ww7, vv6, vv7⟩, qa, qb, pa, pb⟩, trivial⟩ (fun hHeld => ?_)
            simp only [List.replicate_succ, List.replicate_zero]
            refine wpT_takeC [1, 6, 7] 0 21 (v := ?_) hHeld.1 hHeld.2 rfl rfl (by kernel_rfl) (fun _ _ _ h => h) (yields_yes rfl ?_) ?_
            rotate_left
            · (intro w hSw; (try dsimp only at hSw); go_simp; try with_reducible rfl)
            try simp only [Act.put, List.setIfInBounds_toArray, List.set_cons_zero, List.set_cons_succ]
            refine wpT_takeC [6, 7] 1 22 (v := ?_) hHeld.1 hHeld.2 rfl rfl (by kernel_rfl) (fun _ _ _ h => h) (yields_yes rfl ?_) ?_
            rotate_left
            · (intro w hSw; (try dsimp only at hSw); go_simp; try with_reducible rfl)
            try simp only [Act.put, List.setIfInBounds_toArray, List.set_cons_zero, List.set_cons_succ]
            refine wpT_takeC [4, 5, 6, 7] 2 23 (v := ?_) hHeld.1 hHeld.2 rfl rfl (by kernel_rfl) (fun _ _ _ h => h) (yields_yes rfl ?_) ?_
            rotate_left
            · (intro w hSw; (try dsimp only at hSw); go_simp; try with_reducible rfl)
            try simp only [Act.put, List.setIfInBounds_toArray, List.set_cons_zero, List.set_cons_succ]
            refine wpT_takeC [4, 5, 6, 7] 3 24 (v := ?_) hHeld.1 hHeld.2 rfl rfl (by kernel_rfl) (fun _ _ _ h => h) (yields_yes rfl ?_) ?_
            rotate_left
            · (intro w hSw; (try dsimp only at hSw); go_simp; try with_reducible rfl)
            try simp only [Act.put, List.setIfInBounds_toArray, List.set_cons_zero, List.set_cons_succ]
            refine wpT_takeC [5, 6, 7] 4 25 (v := ?_) hHeld.1 hHeld.2 rfl rfl (by kernel_rfl) (fun _ _ _ h => h) (yields_yes rfl ?_) ?_
            rotate_left
            · (intro w hSw; (try dsimp only at hSw); go_simp; try with_reducible rfl)
            try simp only [Act.put, List.setIfInBounds_toArray, List.set_cons_zero, List.set_cons_succ]
            refine wpT_takeC [6, 7] 5 26 (v := ?_) hHeld.1 hHeld.2 rfl rfl (by kernel_rfl) (fun _ _ _ h => h) (yields_yes rfl ?_) ?_
            rotate_left
            · (intro w hSw; (try dsimp only at hSw); go_simp; try with_reducible rfl)
            try simp only [Act.put, List.setIfInBounds_toArray, List.set_cons_zero, List.set_cons_succ]
            have HLd := Lib.hid (show Below w.heap.size w wr.drew ∧ Blk wr.drew g 75 (Cr.tc (p0, p1, p2, pw)) ∧ Blk wr.drew h 75 (Cr.tc (q0, q1, q2, qw)) from ⟨HL.out.1.drew, HL.out.2.1.drew, HL.out.2.2.drew⟩)
            generalize wr.drew = W at HLd hHeld ⊢
            refine wpT_one 6 (by kernel_rfl) (stepT_early rfl rfl (fun K hK => ?_))
            go_simp
            ((with_reducible refine (HM1.out _).mono ?_); rintro e w5 ⟨rfl, hb⟩)
            have HL5 := Lib.hid (And.intro (HLd.out.1.trans (hb.mono HLd.out.1.size)) (And.intro (HLd.out.2.1.below hb HLd.out.2.1.lt) (HLd.out.2.2.below hb HLd.out.2.2.lt)))
            clear hb ww6 ww7 vv6 vv7 qa qb pa pb
            rw [ht]
            clear ht
            try go_simp
            refine hK.out _ _ ⟨⟨⟨HL5.out.2.1.cell 6, HL5.out.2.1.cell 7, HL5.out.2.2.cell 6, HL5.out.2.2.cell 7⟩, HL5.out.2.2.cell 4, HL5.out.2.2.cell 5, HL5.out.2.1.cell 4, HL5.out.2.1.cell 5⟩, trivial⟩ (fun hHeld2 => ?_)
            clear hK K hHeld
            have hHeld := hHeld2
            clear hHeld2
            try simp only [List.setIfInBounds_toArray, List.set_cons_zero, List.set_cons_succ]
            refine wpT_one 7 (by kernel_rfl) (stepT_early rfl rfl (fun K hK => ?_))
            go_simp
            refine hK.out _ _ hHeld (fun hHeld2 => ?_)
            clear hK K
            try simp only [List.setIfInBounds_toArray, List.set_cons_zero, List.set_cons_succ]
            refine wpT_takeC [9] 8 29 (v := undef) hHeld.1 hHeld.2 rfl rfl (by kernel_rfl) (fun _ _ _ h => h) (yields_not rfl) ?_
            try simp only [Act.put, List.setIfInBounds_toArray, List.set_cons_zero, List.set_cons_succ]
            refine wpT_takeC [] 9 30 (v := undef) hHeld.1 hHeld.2 rfl rfl (by kernel_rfl) (fun _ _ _ h => h) (yields_not rfl) ?_
            try simp only [Act.put, List.setIfInBounds_toArray, List.set_cons_zero, List.set_cons_succ]
            refine wpT_takeC [12, 13] 10 31 (v := undef) hHeld.1 hHeld.2 rfl rfl (by kernel_rfl) (fun _ _ _ h => h) (yields_not rfl) ?_
            try simp only [Act.put, List.setIfInBounds_toArray, List.set_cons_zero, List.set_cons_succ]
            refine wpT_takeC [12, 13] 11 32 (v := undef) hHeld.1 hHeld.2 rfl rfl (by kernel_rfl) (fun _ _ _ h => h) (yields_not rfl) ?_
            try simp only [Act.put, List.setIfInBounds_toArray, List.set_cons_zero, List.set_cons_succ]
            refine wpT_takeC [13] 12 33 (v := undef) hHeld.1 hHeld.2 rfl rfl (by kernel_rfl) (fun _ _ _ h => h) (yields_not rfl) ?_
            try simp only [Act.put, List.setIfInBounds_toArray, List.set_cons_zero, List.set_cons_succ]
            refine wpT_takeC [] 13 34 (v := undef) hHeld.1 hHeld.2 rfl rfl (by kernel_rfl) (fun _ _ _ h => h) (yields_not rfl) ?_
            try simp only [Act.put, List.setIfInBounds_toArray, List.set_cons_zero, List.set_cons_succ]
            refine wpT_tail [_, _] 14 [15] rfl (by kernel_rfl) ?_
            go_wp2_with fail
            go_ret
            exact ⟨ret_bool HE.out.symm, HL5.out.1⟩
          · have ht' : AdjC.meet pw q2 = false := by simpa using ht
            have H1 := Lib.hid ht'
            refine wp_region_T (fun w' => (w'.cell? ⟨g, 6, none⟩ = some (.int .i64 pw.1) ∧ w'.cell? ⟨g, 7, none⟩ = some (.int .i64 pw.2) ∧ w'.cell? ⟨h, 6, none⟩ = some (.int .i64 qw.1) ∧ w'.cell? ⟨h, 7, none⟩ = some (.int .i64 qw.2)) ∧ w'.cell? ⟨h, 4, none⟩ = some (.int .i64 q2.1) ∧ w'.cell? ⟨h, 5, none⟩ = some (.int .i64 q2.2) ∧ w'.cell? ⟨g, 4, none⟩ = some (.int .i64 p2.1) ∧ w'.cell? ⟨g, 5, none⟩ = some (.int .i64 p2.2)) 14 (fun _ => True) 14 16 rfl (by kernel_rfl) ⟨⟨⟨ww6, ww7, vv6, vv7⟩, qa, qb, pa, pb⟩, trivial⟩ (fun hHeld => ?_)
            simp only [List.replicate_succ, List.replicate_zero]
            refine wpT_takeC [1, 6, 7] 0 21 (v := ?_) hHeld.1 hHeld.2 rfl rfl (by kernel_rfl) (fun _ _ _ h => h) (yields_yes rfl ?_) ?_
            rotate_left
            · (intro w hSw; (try dsimp only at hSw); go_simp; try with_reducible rfl)
            try simp only [Act.put, List.setIfInBounds_toArray, List.set_cons_zero, List.set_cons_succ]
            refine wpT_takeC [6, 7] 1 22 (v := ?_) hHeld.1 hHeld.2 rfl rfl (by kernel_rfl) (fun _ _ _ h => h) (yields_yes rfl ?_) ?_
            rotate_left
            · (intro w hSw; (try dsimp only at hSw); go_simp; try with_reducible rfl)
            try simp only [Act.put, List.setIfInBounds_toArray, List.set_cons_zero, List.set_cons_succ]
            refine wpT_takeC [4, 5, 6, 7] 2 23 (v := ?_) hHeld.1 hHeld.2 rfl rfl (by kernel_rfl) (fun _ _ _ h => h) (yields_yes rfl ?_) ?_
            rotate_left
            · (intro w hSw; (try dsimp only at hSw); go_simp; try with_reducible rfl)
            try simp only [Act.put, List.setIfInBounds_toArray, List.set_cons_zero, List.set_cons_succ]
            refine wpT_takeC [4, 5, 6, 7] 3 24 (v := ?_) hHeld.1 hHeld.2 rfl rfl (by kernel_rfl) (fun _ _ _ h => h) (yields_yes rfl ?_) ?_
            rotate_left
            · (intro w hSw; (try dsimp only at hSw); go_simp; try with_reducible rfl)
            try simp only [Act.put, List.setIfInBounds_toArray, List.set_cons_zero, List.set_cons_succ]
            refine wpT_takeC [5, 6, 7] 4 25 (v := ?_) hHeld.1 hHeld.2 rfl rfl (by kernel_rfl) (fun _ _ _ h => h) (yields_yes rfl ?_) ?_
            rotate_left
            · (intro w hSw; (try dsimp only at hSw); go_simp; try with_reducible rfl)
            try simp only [Act.put, List.setIfInBounds_toArray, List.set_cons_zero, List.set_cons_succ]
            refine wpT_takeC [6, 7] 5 26 (v := ?_) hHeld.1 hHeld.2 rfl rfl (by kernel_rfl) (fun _ _ _ h => h) (yields_yes rfl ?_) ?_
            rotate_left
            · (intro w hSw; (try dsimp only at hSw); go_simp; try with_reducible rfl)
            try simp only [Act.put, List.setIfInBounds_toArray, List.set_cons_zero, List.set_cons_succ]
            have HLd := Lib.hid (show Below w.heap.size w wr.drew ∧ Blk wr.drew g 75 (Cr.tc (p0, p1, p2, pw)) ∧ Blk wr.drew h 75 (Cr.tc (q0, q1, q2, qw)) from ⟨HL.out.1.drew, HL.out.2.1.drew, HL.out.2.2.drew⟩)
            generalize wr.drew = W at HLd hHeld ⊢
            refine wpT_one 6 (by kernel_rfl) (stepT_early rfl rfl (fun K hK => ?_))
            go_simp
            ((with_reducible refine (HM1.out _).mono ?_); rintro e w5 ⟨rfl, hb⟩)
            have HL5 := Lib.hid (And.intro (HLd.out.1.trans (hb.mono HLd.out.1.size)) (And.intro (HLd.out.2.1.below hb HLd.out.2.1.lt) (HLd.out.2.2.below hb HLd.out.2.2.lt)))
            clear hb ww6 ww7 vv6 vv7 qa qb pa pb
            rw [ht']
            clear ht ht'
            try go_simp
            refine hK.out _ _ ⟨⟨⟨HL5.out.2.1.cell 6, HL5.out.2.1.cell 7, HL5.out.2.2.cell 6, HL5.out.2.2.cell 7⟩, HL5.out.2.2.cell 4, HL5.out.2.2.cell 5, HL5.out.2.1.cell 4, HL5.out.2.1.cell 5⟩, trivial⟩ (fun hHeld2 => ?_)
            clear hK K hHeld
            have hHeld := hHeld2
            clear hHeld2
            try simp only [List.setIfInBounds_toArray, List.set_cons_zero, List.set_cons_succ]
            refine wpT_one 7 (by kernel_rfl) (stepT_early rfl rfl (fun K hK => ?_))
            go_simp
            refine hK.out _ _ hHeld (fun hHeld2 => ?_)
            clear hK K
            try simp only [List.setIfInBounds_toArray, List.set_cons_zero, List.set_cons_succ]
            refine wpT_takeC [9] 8 29 (v := ?_) hHeld.1 hHeld.2 rfl rfl (by kernel_rfl) (fun _ _ _ h => h) (yields_yes rfl ?_) ?_
            rotate_left
            · (intro w hSw; (try dsimp only at hSw); go_simp; try with_reducible rfl)
            try simp only [Act.put, List.setIfInBounds_toArray, List.set_cons_zero, List.set_cons_succ]
            refine wpT_takeC [] 9 30 (v := ?_) hHeld.1 hHeld.2 rfl rfl (by kernel_rfl) (fun _ _ _ h => h) (yields_yes rfl ?_) ?_
            rotate_left
            · (intro w hSw; (try dsimp only at hSw); go_simp; try with_reducible rfl)
            try simp only [Act.put, List.setIfInBounds_toArray, List.set_cons_zero, List.set_cons_succ]
            refine wpT_takeC [12, 13] 10 31 (v := ?_) hHeld.1 hHeld.2 rfl rfl (by kernel_rfl) (fun _ _ _ h => h) (yields_yes rfl ?_) ?_
            rotate_left
            · (intro w hSw; (try dsimp only at hSw); go_simp; try with_reducible rfl)
            try simp only [Act.put, List.setIfInBounds_toArray, List.set_cons_zero, List.set_cons_succ]
            refine wpT_takeC [12, 13] 11 32 (v := ?_) hHeld.1 hHeld.2 rfl rfl (by kernel_rfl) (fun _ _ _ h => h) (yields_yes rfl ?_) ?_
            rotate_left
            · (intro w hSw; (try dsimp only at hSw); go_simp; try with_reducible rfl)
            try simp only [Act.put, List.setIfInBounds_toArray, List.set_cons_zero, List.set_cons_succ]
            refine wpT_takeC [13] 12 33 (v := ?_) hHeld.1 hHeld.2 rfl rfl (by kernel_rfl) (fun _ _ _ h => h) (yields_yes rfl ?_) ?_
            rotate_left
            · (intro w hSw; (try dsimp only at hSw); go_simp; try with_reducible rfl)
            try simp only [Act.put, List.setIfInBounds_toArray, List.set_cons_zero, List.set_cons_succ]
            refine wpT_takeC [] 13 34 (v := ?_) hHeld.1 hHeld.2 rfl rfl (by kernel_rfl) (fun _ _ _ h => h) (yields_yes rfl ?_) ?_
            rotate_left
            · (intro w hSw; (try dsimp only at hSw); go_simp; try with_reducible rfl)
            try simp only [Act.put, List.setIfInBounds_toArray, List.set_cons_zero, List.set_cons_succ]
            refine wpT_tail [_, _] 14 [15] rfl (by kernel_rfl) ?_
            clear hHeld
            go_wp2_with fail
            ((with_reducible refine (HM2.out _).mono ?_); rintro e w6 ⟨rfl, hb⟩)
            have HL6 := Lib.hid (And.intro (HL5.out.1.trans (hb.mono HL5.out.1.size)) (And.intro (HL5.out.2.1.below hb HL5.out.2.1.lt) (HL5.out.2.2.below hb HL5.out.2.2.lt)))
            clear hb
            by_cases ht2 : AdjC.meet qw p2 = true
            · have HE := Lib.hid (HC.out.trans (show _ = true by rw [AdjC.meet_comm p2 qw, ht2]; simp))
              rw [ht2]
              clear ht2
              go_wp2_with fail
              go_ret
              exact ⟨ret_bool HE.out.symm, HL6.out.1⟩
            · have ht2' : AdjC.meet qw p2 = false := by simpa using ht2
              have H2 := Lib.hid ht2'
              rw [ht2']
              clear ht2 ht2'
              go_wp2_with fail
              go_roundw
              case rel => exact ⟨3, by omega, rfl, HL6.out, fun _ => F1.out (by omega), fun _ => F2.out (by omega), fun _ => ⟨H1.out, H2.out⟩⟩
              case measure => simp [intOf]
        · have HE := Lib.hid (HC.out.trans (by rw [HW.out, AdjC.meet_comm q0 pw, AdjC.meet_comm q1 pw, AdjC.meet_comm q2 pw, AdjC.meet_comm p0 qw, AdjC.meet_comm p1 qw, AdjC.meet_comm p2 qw, (F1.out (by omega)).1, (F1.out (by omega)).2, (F2.out (by omega)).1, (F2.out (by omega)).2, (F3.out (by omega)).1, (F3.out (by omega)).2]; rfl : _ = false))
          rw [show (((3 : Nat) : Int)) = (3 : Int) from rfl]
          go_wp2_with fail
          go_ret
          exact ⟨ret_bool HE.out.symm, HL.out.1⟩
end Go.Proofs.Ytlnfmipcbhhkhaa
