/-
  The walk of the reference's Touched. No condition.
-/
import Derived.Test.YtlnfmipcbhhkhaaCoreC
import Derived.Test.YtlnfmipcbhhkhaaCorePlain3
import Derived.Test.YtlnfmipcbhhkhaaHeld
import Derived.Test.YtlnfmipcbhhkhaaHeld3
namespace Go.Proofs.Ytlnfmipcbhhkhaa
set_option linter.unusedVariables false
open Go.RowKit Adj

namespace Cr
def z8 : Array Value := #[.int .i64 0, .int .i64 0, .int .i64 0, .int .i64 0, .int .i64 0, .int .i64 0, .int .i64 0, .int .i64 0]
def pr (p q : Int) : Array Value := #[.int .i64 p, .int .i64 q]
def touchV (t : (Int × Int) × (Int × Int) × (Int × Int) × (Int × Int)) : Value :=
  .agg #[.int .i64 t.1.1, .int .i64 t.1.2, .int .i64 t.2.1.1, .int .i64 t.2.1.2, .int .i64 t.2.2.1.1, .int .i64 t.2.2.1.2, .int .i64 t.2.2.2.1, .int .i64 t.2.2.2.2]
/-- What lies while Touched works: the instruction, the answer, what it builds, three pairs. -/
def T3 (w : World) (x : AdjC.I) (gA gB gC : Nat) (cA cB cC : Array Value) (W : World) : Prop :=
  (w.heap.size + 1 + 1 < gA ∧ w.heap.size + 1 + 1 < gB ∧ w.heap.size + 1 + 1 < gC ∧ gA ≠ gB ∧ gA ≠ gC ∧ gB ≠ gC) ∧ Below w.heap.size w W ∧
    Blk W w.heap.size 42 #[.int .i64 x.d, .int .i64 x.a, .int .i64 x.b, .int .i64 x.c, .int .i64 x.n, .int .i64 x.v] ∧ Blk W (w.heap.size + 1) 75 z8 ∧ Blk W (w.heap.size + 1 + 1) 75 z8 ∧
    Blk W gA 48 cA ∧ Blk W gB 48 cB ∧ Blk W gC 48 cC
section
variable {w W : World} {x : AdjC.I} {gA gB gC : Nat} {cA cB cC : Array Value}
theorem T3.setA (h : T3 w x gA gB gC (pr 0 0) cB cC W) (p q : Int) : T3 w x gA gB gC (pr p q) cB cC ((W.setCell ⟨gA, 0, none⟩ (.int .i64 p)).setCell ⟨gA, 1, none⟩ (.int .i64 q)) := by
  obtain ⟨⟨h1, h2, h3, h4, h5, h6⟩, hb, hx, hr, hz, ha, hbb, hc⟩ := h
  exact ⟨⟨h1, h2, h3, h4, h5, h6⟩, (hb.setCell (p := ⟨gA, 0, none⟩) (by simp; omega) _).setCell (p := ⟨gA, 1, none⟩) (by simp; omega) _, (hx.far (p := ⟨gA, 0, none⟩) (by simp; omega) _).far (p := ⟨gA, 1, none⟩) (by simp; omega) _,
    (hr.far (p := ⟨gA, 0, none⟩) (by simp; omega) _).far (p := ⟨gA, 1, none⟩) (by simp; omega) _, (hz.far (p := ⟨gA, 0, none⟩) (by simp; omega) _).far (p := ⟨gA, 1, none⟩) (by simp; omega) _, (ha.set_ 0 _).set_ 1 _,
    (hbb.far (p := ⟨gA, 0, none⟩) (by simp; omega) _).far (p := ⟨gA, 1, none⟩) (by simp; omega) _, (hc.far (p := ⟨gA, 0, none⟩) (by simp; omega) _).far (p := ⟨gA, 1, none⟩) (by simp; omega) _⟩
theorem T3.rot (h : T3 w x gA gB gC cA cB cC W) : T3 w x gB gC gA cB cC cA W := by
  obtain ⟨⟨h1, h2, h3, h4, h5, h6⟩, hb, hx, hr, hz, ha, hbb, hc⟩ := h
  exact ⟨⟨h2, h3, h1, h6, Ne.symm h4, Ne.symm h5⟩, hb, hx, hr, hz, hbb, hc, ha⟩
theorem T3.setB (h : T3 w x gA gB gC cA (pr 0 0) cC W) (p q : Int) : T3 w x gA gB gC cA (pr p q) cC ((W.setCell ⟨gB, 0, none⟩ (.int .i64 p)).setCell ⟨gB, 1, none⟩ (.int .i64 q)) := ((h.rot.setA p q).rot).rot
theorem T3.setC (h : T3 w x gA gB gC cA cB (pr 0 0) W) (p q : Int) : T3 w x gA gB gC cA cB (pr p q) ((W.setCell ⟨gC, 0, none⟩ (.int .i64 p)).setCell ⟨gC, 1, none⟩ (.int .i64 q)) := ((h.rot.rot).setA p q).rot
theorem T3.cells (h : T3 w x gA gB gC cA cB cC W) : W.cell? ⟨w.heap.size, 1, none⟩ = some (.int .i64 x.a) ∧ W.cell? ⟨w.heap.size, 2, none⟩ = some (.int .i64 x.b) ∧ W.cell? ⟨w.heap.size, 3, none⟩ = some (.int .i64 x.c) ∧ W.cell? ⟨w.heap.size, 4, none⟩ = some (.int .i64 x.n) :=
  ⟨h.2.2.1.cell 1, h.2.2.1.cell 2, h.2.2.1.cell 3, h.2.2.1.cell 4⟩
end
/-- The cells that the three pairs are read from. -/
def Sx (w : World) (x : AdjC.I) (W : World) : Prop := W.cell? ⟨w.heap.size, 1, none⟩ = some (.int .i64 x.a) ∧ W.cell? ⟨w.heap.size, 2, none⟩ = some (.int .i64 x.b) ∧ W.cell? ⟨w.heap.size, 3, none⟩ = some (.int .i64 x.c) ∧ W.cell? ⟨w.heap.size, 4, none⟩ = some (.int .i64 x.n)
theorem Sx.alloc {w W : World} {x : AdjC.I} (h : Sx w x W) (hs : w.heap.size < W.heap.size) (o : Obj) : Sx w x (W.alloc o) := by
  have g : ∀ i, (W.alloc o).cell? ⟨w.heap.size, i, none⟩ = W.cell? ⟨w.heap.size, i, none⟩ := fun i => World.cell?_alloc_lt _ _ _ hs
  exact ⟨(g _).trans h.1, (g _).trans h.2.1, (g _).trans h.2.2.1, (g _).trans h.2.2.2⟩
/-- What lies ahead of the three pairs: and however three blocks come behind it. -/
theorem laid0 (w : World) (x : AdjC.I) :
    Sx w x (((w.alloc (.cells #[.int .i64 x.d, .int .i64 x.a, .int .i64 x.b, .int .i64 x.c, .int .i64 x.n, .int .i64 x.v] 42)).alloc (.cells #[.int .i64 0, .int .i64 0, .int .i64 0, .int .i64 0, .int .i64 0, .int .i64 0, .int .i64 0, .int .i64 0] 75)).alloc (.cells #[.int .i64 0, .int .i64 0, .int .i64 0, .int .i64 0, .int .i64 0, .int .i64 0, .int .i64 0, .int .i64 0] 75)) ∧
    (((w.alloc (.cells #[.int .i64 x.d, .int .i64 x.a, .int .i64 x.b, .int .i64 x.c, .int .i64 x.n, .int .i64 x.v] 42)).alloc (.cells #[.int .i64 0, .int .i64 0, .int .i64 0, .int .i64 0, .int .i64 0, .int .i64 0, .int .i64 0, .int .i64 0] 75)).alloc (.cells #[.int .i64 0, .int .i64 0, .int .i64 0, .int .i64 0, .int .i64 0, .int .i64 0, .int .i64 0, .int .i64 0] 75)).heap.size = w.heap.size + 1 + 1 + 1 ∧
    (∀ W, (((w.alloc (.cells #[.int .i64 x.d, .int .i64 x.a, .int .i64 x.b, .int .i64 x.c, .int .i64 x.n, .int .i64 x.v] 42)).alloc (.cells #[.int .i64 0, .int .i64 0, .int .i64 0, .int .i64 0, .int .i64 0, .int .i64 0, .int .i64 0, .int .i64 0] 75)).alloc (.cells #[.int .i64 0, .int .i64 0, .int .i64 0, .int .i64 0, .int .i64 0, .int .i64 0, .int .i64 0, .int .i64 0] 75)).drew = W →
      ∀ gA gB gC, (gA = W.heap.size ∨ gA = W.heap.size + 1 ∨ gA = W.heap.size + 1 + 1) ∧ (gB = W.heap.size ∨ gB = W.heap.size + 1 ∨ gB = W.heap.size + 1 + 1) ∧ (gC = W.heap.size ∨ gC = W.heap.size + 1 ∨ gC = W.heap.size + 1 + 1) ∧ gA ≠ gB ∧ gA ≠ gC ∧ gB ≠ gC →
        T3 w x gA gB gC (pr 0 0) (pr 0 0) (pr 0 0) (((W.alloc (.cells (pr 0 0) 48)).alloc (.cells (pr 0 0) 48)).alloc (.cells (pr 0 0) 48))) := by
  obtain ⟨W1, h1⟩ : ∃ W1, w.alloc (.cells #[.int .i64 x.d, .int .i64 x.a, .int .i64 x.b, .int .i64 x.c, .int .i64 x.n, .int .i64 x.v] 42) = W1 := ⟨_, rfl⟩
  have b1 : Blk W1 w.heap.size 42 #[.int .i64 x.d, .int .i64 x.a, .int .i64 x.b, .int .i64 x.c, .int .i64 x.n, .int .i64 x.v] := by rw [← h1]; exact Blk.new _ _ _
  have s1 : W1.heap.size = w.heap.size + 1 := by rw [← h1]; simp
  have l1 : Below w.heap.size w W1 := by rw [← h1]; exact (Below.refl _ _).alloc (Nat.le_refl _) _
  rw [h1]
  clear h1
  obtain ⟨W2, h2⟩ : ∃ W2, W1.alloc (.cells #[.int .i64 0, .int .i64 0, .int .i64 0, .int .i64 0, .int .i64 0, .int .i64 0, .int .i64 0, .int .i64 0] 75) = W2 := ⟨_, rfl⟩
  have b2 : Blk W2 (w.heap.size + 1) 75 z8 := by rw [← h2, ← s1]; exact Blk.new _ _ _
  have s2 : W2.heap.size = w.heap.size + 1 + 1 := by rw [← h2]; simp [s1]
  have c2 := by have := b1.alloc (.cells #[.int .i64 0, .int .i64 0, .int .i64 0, .int .i64 0, .int .i64 0, .int .i64 0, .int .i64 0, .int .i64 0] 75); rw [h2] at this; exact this
  have l2 : Below w.heap.size w W2 := by rw [← h2]; exact l1.alloc (by omega) _
  rw [h2]
  clear h2
  obtain ⟨W3, h3⟩ : ∃ W3, W2.alloc (.cells #[.int .i64 0, .int .i64 0, .int .i64 0, .int .i64 0, .int .i64 0, .int .i64 0, .int .i64 0, .int .i64 0] 75) = W3 := ⟨_, rfl⟩
  have b3 : Blk W3 (w.heap.size + 1 + 1) 75 z8 := by rw [← h3, ← s2]; exact Blk.new _ _ _
  have s3 : W3.heap.size = w.heap.size + 1 + 1 + 1 := by rw [← h3]; simp [s2]
  have c3 : Blk W3 w.heap.size 42 #[.int .i64 x.d, .int .i64 x.a, .int .i64 x.b, .int .i64 x.c, .int .i64 x.n, .int .i64 x.v] := by rw [← h3]; exact c2.alloc _
  have d3 : Blk W3 (w.heap.size + 1) 75 z8 := by rw [← h3]; exact b2.alloc _
  have l3 : Below w.heap.size w W3 := by rw [← h3]; exact l2.alloc (by omega) _
  rw [h3]
  clear h3
  refine ⟨⟨c3.cell 1, c3.cell 2, c3.cell 3, c3.cell 4⟩, s3, ?_⟩
  rintro W rfl gA gB gC ⟨hA, hB, hC, n1, n2, n3⟩
  have s3' : W3.drew.heap.size = w.heap.size + 1 + 1 + 1 := s3
  have k : ∀ (g : Nat), (g = W3.drew.heap.size ∨ g = W3.drew.heap.size + 1 ∨ g = W3.drew.heap.size + 1 + 1) →
      Blk (((W3.drew.alloc (.cells (pr 0 0) 48)).alloc (.cells (pr 0 0) 48)).alloc (.cells (pr 0 0) 48)) g 48 (pr 0 0) := by
    intro g hg
    rcases hg with rfl | rfl | rfl
    · exact ((Blk.new _ _ _).alloc _).alloc _
    · have h := Blk.new (W3.drew.alloc (.cells (pr 0 0) 48)) 48 (pr 0 0)
      rw [World.size_alloc] at h
      exact h.alloc _
    · have h := Blk.new ((W3.drew.alloc (.cells (pr 0 0) 48)).alloc (.cells (pr 0 0) 48)) 48 (pr 0 0)
      rw [World.size_alloc, World.size_alloc] at h
      exact h
  exact ⟨⟨by omega, by omega, by omega, n1, n2, n3⟩, ((l3.drew.alloc (by omega) _).alloc (by simp; omega) _).alloc (by simp; omega) _, ((c3.drew.alloc _).alloc _).alloc _, ((d3.drew.alloc _).alloc _).alloc _, ((b3.drew.alloc _).alloc _).alloc _, k _ hA, k _ hB, k _ hC⟩
end Cr

set_option maxRecDepth 100000 in
set_option maxHeartbeats 8000000 in
theorem Touched_any (x : AdjC.I) (w : World) : Calls Try.prog 32 #[Cr.insV x] w fun e w' => e = .returned (Cr.touchV (AdjC.touch x)) ∧ Below w.heap.size w w' := by
  rw [Cr.insV_eq]
  go_enter Try.func32, Try.ntmps32
  go_upto_region 2 with (fail)
  go_cut [4, 5, 6] (fun s4 s5 s6 wx => ∃ gA gB gC : Nat, s4 = .pointer (some ⟨gA, 0, none⟩) ∧ s5 = .pointer (some ⟨gB, 0, none⟩) ∧ s6 = .pointer (some ⟨gC, 0, none⟩) ∧ Cr.T3 w x gA gB gC (Cr.pr x.a x.n) (Cr.pr x.b x.n) (Cr.pr x.c x.n) wx)
  case first =>
    have HW := Lib.hid (Cr.laid0 w x)
    generalize ((w.alloc (.cells #[.int .i64 x.d, .int .i64 x.a, .int .i64 x.b, .int .i64 x.c, .int .i64 x.n, .int .i64 x.v] 42)).alloc (.cells #[.int .i64 0, .int .i64 0, .int .i64 0, .int .i64 0, .int .i64 0, .int .i64 0, .int .i64 0, .int .i64 0] 75)).alloc (.cells #[.int .i64 0, .int .i64 0, .int .i64 0, .int .i64 0, .int .i64 0, .int .i64 0, .int .i64 0, .int .i64 0] 75) = W0 at HW ⊢
    refine wp_region_T (Cr.Sx w x) 20 (fun _ => True) 20 21 rfl (by kernel_rfl) ⟨HW.out.1, trivial⟩ (fun hHeld => ?_)
    simp only [List.replicate_succ, List.replicate_zero]
    refine wpT_take 0 7 (v := ?_) hHeld.1 hHeld.2 rfl rfl (by kernel_rfl) (fun _ _ _ h => h) rfl ?_ ?_
    rotate_left
    · (intro w hSw; unfold Cr.Sx at hSw; go_simp; try with_reducible rfl)
    try simp only [Act.put, List.setIfInBounds_toArray, List.set_cons_zero, List.set_cons_succ]
    refine wpT_take 1 8 (v := ?_) hHeld.1 hHeld.2 rfl rfl (by kernel_rfl) (fun _ _ _ h => h) rfl ?_ ?_
    rotate_left
    · (intro w hSw; unfold Cr.Sx at hSw; go_simp; try with_reducible rfl)
    try simp only [Act.put, List.setIfInBounds_toArray, List.set_cons_zero, List.set_cons_succ]
    refine wpT_take 2 9 (v := ?_) hHeld.1 hHeld.2 rfl rfl (by kernel_rfl) (fun _ _ _ h => h) rfl ?_ ?_
    rotate_left
    · (intro w hSw; unfold Cr.Sx at hSw; go_simp; try with_reducible rfl)
    try simp only [Act.put, List.setIfInBounds_toArray, List.set_cons_zero, List.set_cons_succ]
    refine wpT_take 3 10 (v := ?_) hHeld.1 hHeld.2 rfl rfl (by kernel_rfl) (fun _ _ _ h => h) rfl ?_ ?_
    rotate_left
    · (intro w hSw; unfold Cr.Sx at hSw; go_simp; try with_reducible rfl)
    try simp only [Act.put, List.setIfInBounds_toArray, List.set_cons_zero, List.set_cons_succ]
    refine wpT_take 4 11 (v := ?_) hHeld.1 hHeld.2 rfl rfl (by kernel_rfl) (fun _ _ _ h => h) rfl ?_ ?_
    rotate_left
    · (intro w hSw; unfold Cr.Sx at hSw; go_simp; try with_reducible rfl)
    try simp only [Act.put, List.setIfInBounds_toArray, List.set_cons_zero, List.set_cons_succ]
    refine wpT_take 5 12 (v := ?_) hHeld.1 hHeld.2 rfl rfl (by kernel_rfl) (fun _ _ _ h => h) rfl ?_ ?_
    rotate_left
    · (intro w hSw; unfold Cr.Sx at hSw; go_simp; try with_reducible rfl)
    try simp only [Act.put, List.setIfInBounds_toArray, List.set_cons_zero, List.set_cons_succ]
    refine wpT_take 6 13 (v := ?_) hHeld.1 hHeld.2 rfl rfl (by kernel_rfl) (fun _ _ _ h => h) rfl ?_ ?_
    rotate_left
    · (intro w hSw; unfold Cr.Sx at hSw; go_simp; try with_reducible rfl)
    try simp only [Act.put, List.setIfInBounds_toArray, List.set_cons_zero, List.set_cons_succ]
    refine wpT_take 7 14 (v := ?_) hHeld.1 hHeld.2 rfl rfl (by kernel_rfl) (fun _ _ _ h => h) rfl ?_ ?_
    rotate_left
    · (intro w hSw; unfold Cr.Sx at hSw; go_simp; try with_reducible rfl)
    try simp only [Act.put, List.setIfInBounds_toArray, List.set_cons_zero, List.set_cons_succ]
    refine wpT_take 8 15 (v := ?_) hHeld.1 hHeld.2 rfl rfl (by kernel_rfl) (fun _ _ _ h => h) rfl ?_ ?_
    rotate_left
    · (intro w hSw; unfold Cr.Sx at hSw; go_simp; try with_reducible rfl)
    try simp only [Act.put, List.setIfInBounds_toArray, List.set_cons_zero, List.set_cons_succ]
    refine wpT_take 9 16 (v := ?_) hHeld.1 hHeld.2 rfl rfl (by kernel_rfl) (fun _ _ _ h => h) rfl ?_ ?_
    rotate_left
    · (intro w hSw; unfold Cr.Sx at hSw; go_simp; try with_reducible rfl)
    try simp only [Act.put, List.setIfInBounds_toArray, List.set_cons_zero, List.set_cons_succ]
    refine wpT_take 10 17 (v := ?_) hHeld.1 hHeld.2 rfl rfl (by kernel_rfl) (fun _ _ _ h => h) rfl ?_ ?_
    rotate_left
    · (intro w hSw; unfold Cr.Sx at hSw; go_simp; try with_reducible rfl)
    try simp only [Act.put, List.setIfInBounds_toArray, List.set_cons_zero, List.set_cons_succ]
    refine wpT_take 11 18 (v := ?_) hHeld.1 hHeld.2 rfl rfl (by kernel_rfl) (fun _ _ _ h => h) rfl ?_ ?_
    rotate_left
    · (intro w hSw; unfold Cr.Sx at hSw; go_simp; try with_reducible rfl)
    try simp only [Act.put, List.setIfInBounds_toArray, List.set_cons_zero, List.set_cons_succ]
    refine wpT_take 12 19 (v := ?_) hHeld.1 hHeld.2 rfl rfl (by kernel_rfl) (fun _ _ _ h => h) rfl ?_ ?_
    rotate_left
    · (intro w hSw; unfold Cr.Sx at hSw; go_simp; try with_reducible rfl)
    try simp only [Act.put, List.setIfInBounds_toArray, List.set_cons_zero, List.set_cons_succ]
    refine wpT_take 13 20 (v := ?_) hHeld.1 hHeld.2 rfl rfl (by kernel_rfl) (fun _ _ _ h => h) rfl ?_ ?_
    rotate_left
    · (intro w hSw; unfold Cr.Sx at hSw; go_simp; try with_reducible rfl)
    try simp only [Act.put, List.setIfInBounds_toArray, List.set_cons_zero, List.set_cons_succ]
    refine wpT_take 14 21 (v := ?_) hHeld.1 hHeld.2 rfl rfl (by kernel_rfl) (fun _ _ _ h => h) rfl ?_ ?_
    rotate_left
    · (intro w hSw; unfold Cr.Sx at hSw; go_simp; try with_reducible rfl)
    try simp only [Act.put, List.setIfInBounds_toArray, List.set_cons_zero, List.set_cons_succ]
    have HN := Lib.hid (HW.out.2.2 _ rfl)
    have hzW : W0.drew.heap.size = w.heap.size + 1 + 1 + 1 := HW.out.2.1
    generalize W0.drew = W at HN hHeld hzW ⊢
    have hzw1 : W.heap.size ≤ w.heap.size + 1 + 1 + 1 := by omega
    have hzw2 : w.heap.size + 1 + 1 + 1 ≤ W.heap.size := by omega
    clear hzW
    refine wpT_three 15 16 17 (by kernel_rfl) (stepT_early rfl rfl (fun K hK => ?_)) (stepT_early rfl rfl (fun K hK => ?_)) (stepT_early rfl rfl (fun K hK => ?_))
    · go_simp
      refine hK.out _ _ ⟨Cr.Sx.alloc hHeld.1 (by first | omega | (simp; omega)) _, trivial⟩ (fun hHeld2 => ?_)
      clear hK K hHeld
      have hHeld := hHeld2
      clear hHeld2
      try simp only [List.setIfInBounds_toArray, List.set_cons_zero, List.set_cons_succ]
      refine wpT_two 16 17 (by kernel_rfl) (stepT_early rfl rfl (fun K hK => ?_)) (stepT_early rfl rfl (fun K hK => ?_))
      · go_simp
        refine hK.out _ _ ⟨Cr.Sx.alloc hHeld.1 (by first | omega | (simp; omega)) _, trivial⟩ (fun hHeld2 => ?_)
        clear hK K hHeld
        have hHeld := hHeld2
        clear hHeld2
        try simp only [List.setIfInBounds_toArray, List.set_cons_zero, List.set_cons_succ]
        refine wpT_one 17 (by kernel_rfl) (stepT_early rfl rfl (fun K hK => ?_))
        go_simp
        refine hK.out _ _ ⟨Cr.Sx.alloc hHeld.1 (by first | omega | (simp; omega)) _, trivial⟩ (fun hHeld2 => ?_)
        clear hK K hHeld
        have hHeld := hHeld2
        clear hHeld2
        try simp only [List.setIfInBounds_toArray, List.set_cons_zero, List.set_cons_succ]
        have HT := Lib.hid (show Cr.T3 w x W.heap.size (W.heap.size + 1) (W.heap.size + 1 + 1) (Cr.pr 0 0) (Cr.pr 0 0) (Cr.pr 0 0) (((W.alloc (.cells (Cr.pr 0 0) 48)).alloc (.cells (Cr.pr 0 0) 48)).alloc (.cells (Cr.pr 0 0) 48)) from HN.out _ _ _ (by omega))
        change wpT _ _ _ _ _ _ _ _ _ _ _ (((W.alloc (.cells (Cr.pr 0 0) 48)).alloc (.cells (Cr.pr 0 0) 48)).alloc (.cells (Cr.pr 0 0) 48))
        generalize (((W.alloc (.cells (Cr.pr 0 0) 48)).alloc (.cells (Cr.pr 0 0) 48)).alloc (.cells (Cr.pr 0 0) 48)) = W2 at HT hHeld ⊢
        have q0 : W2.cell? ⟨W.heap.size, 0, none⟩ = some (.int .i64 0) := HT.out.2.2.2.2.2.1.cell 0
        have q1 : W2.cell? ⟨W.heap.size, 1, none⟩ = some (.int .i64 0) := HT.out.2.2.2.2.2.1.cell 1
        have f0 := HT.out.2.2.2.2.2.1.frozen 0
        have f1 := HT.out.2.2.2.2.2.1.frozen 1
        refine wpT_one 18 (by kernel_rfl) (stepT_early rfl rfl (fun K hK => ?_))
        go_simp
        have HT2 := Lib.hid (HT.out.setA x.a x.n)
        refine hK.out _ _ ⟨HT2.out.cells, trivial⟩ (fun hHeld2 => ?_)
        clear hK K hHeld
        have hHeld := hHeld2
        clear hHeld2
        try simp only [List.setIfInBounds_toArray, List.set_cons_zero, List.set_cons_succ]
        clear q0 q1 f0 f1 HT
        have HT := HT2
        clear HT2
        generalize (W2.setCell ⟨W.heap.size, 0, none⟩ (.int .i64 x.a)).setCell ⟨W.heap.size, 1, none⟩ (.int .i64 x.n) = W3 at HT hHeld ⊢
        obtain ⟨W2, rfl⟩ : ∃ W2, W2 = W3 := ⟨_, rfl⟩
        have q0 : W2.cell? ⟨(W.heap.size + 1), 0, none⟩ = some (.int .i64 0) := HT.out.2.2.2.2.2.2.1.cell 0
        have q1 : W2.cell? ⟨(W.heap.size + 1), 1, none⟩ = some (.int .i64 0) := HT.out.2.2.2.2.2.2.1.cell 1
        have f0 := HT.out.2.2.2.2.2.2.1.frozen 0
        have f1 := HT.out.2.2.2.2.2.2.1.frozen 1
        refine wpT_one 19 (by kernel_rfl) (stepT_early rfl rfl (fun K hK => ?_))
        go_simp
        have HT2 := Lib.hid (HT.out.setB x.b x.n)
        refine hK.out _ _ ⟨HT2.out.cells, trivial⟩ (fun hHeld2 => ?_)
        clear hK K hHeld
        have hHeld := hHeld2
        clear hHeld2
        try simp only [List.setIfInBounds_toArray, List.set_cons_zero, List.set_cons_succ]
        clear q0 q1 f0 f1 HT
        have HT := HT2
        clear HT2
        generalize (W2.setCell ⟨(W.heap.size + 1), 0, none⟩ (.int .i64 x.b)).setCell ⟨(W.heap.size + 1), 1, none⟩ (.int .i64 x.n) = W3 at HT hHeld ⊢
        obtain ⟨W2, rfl⟩ : ∃ W2, W2 = W3 := ⟨_, rfl⟩
        have q0 : W2.cell? ⟨(W.heap.size + 1 + 1), 0, none⟩ = some (.int .i64 0) := HT.out.2.2.2.2.2.2.2.cell 0
        have q1 : W2.cell? ⟨(W.heap.size + 1 + 1), 1, none⟩ = some (.int .i64 0) := HT.out.2.2.2.2.2.2.2.cell 1
        have f0 := HT.out.2.2.2.2.2.2.2.frozen 0
        have f1 := HT.out.2.2.2.2.2.2.2.frozen 1
        refine wpT_tail [_] 20 [] rfl (by kernel_rfl) ?_
        go_wp2_with fail
        go_meet
        case rel => exact ⟨W.heap.size, (W.heap.size + 1), (W.heap.size + 1 + 1), rfl, rfl, rfl, HT.out.setC x.c x.n⟩
      · go_simp
        refine hK.out _ _ ⟨Cr.Sx.alloc hHeld.1 (by first | omega | (simp; omega)) _, trivial⟩ (fun hHeld2 => ?_)
        clear hK K hHeld
        have hHeld := hHeld2
        clear hHeld2
        try simp only [List.setIfInBounds_toArray, List.set_cons_zero, List.set_cons_succ]
        refine wpT_one 16 (by kernel_rfl) (stepT_early rfl rfl (fun K hK => ?_))
        go_simp
        refine hK.out _ _ ⟨Cr.Sx.alloc hHeld.1 (by first | omega | (simp; omega)) _, trivial⟩ (fun hHeld2 => ?_)
        clear hK K hHeld
        have hHeld := hHeld2
        clear hHeld2
        try simp only [List.setIfInBounds_toArray, List.set_cons_zero, List.set_cons_succ]
        have HT := Lib.hid (show Cr.T3 w x W.heap.size (W.heap.size + 1 + 1) (W.heap.size + 1) (Cr.pr 0 0) (Cr.pr 0 0) (Cr.pr 0 0) (((W.alloc (.cells (Cr.pr 0 0) 48)).alloc (.cells (Cr.pr 0 0) 48)).alloc (.cells (Cr.pr 0 0) 48)) from HN.out _ _ _ (by omega))
        change wpT _ _ _ _ _ _ _ _ _ _ _ (((W.alloc (.cells (Cr.pr 0 0) 48)).alloc (.cells (Cr.pr 0 0) 48)).alloc (.cells (Cr.pr 0 0) 48))
        generalize (((W.alloc (.cells (Cr.pr 0 0) 48)).alloc (.cells (Cr.pr 0 0) 48)).alloc (.cells (Cr.pr 0 0) 48)) = W2 at HT hHeld ⊢
        have q0 : W2.cell? ⟨W.heap.size, 0, none⟩ = some (.int .i64 0) := HT.out.2.2.2.2.2.1.cell 0
        have q1 : W2.cell? ⟨W.heap.size, 1, none⟩ = some (.int .i64 0) := HT.out.2.2.2.2.2.1.cell 1
        have f0 := HT.out.2.2.2.2.2.1.frozen 0
        have f1 := HT.out.2.2.2.2.2.1.frozen 1
        refine wpT_one 18 (by kernel_rfl) (stepT_early rfl rfl (fun K hK => ?_))
        go_simp
        have HT2 := Lib.hid (HT.out.setA x.a x.n)
        refine hK.out _ _ ⟨HT2.out.cells, trivial⟩ (fun hHeld2 => ?_)
        clear hK K hHeld
        have hHeld := hHeld2
        clear hHeld2
        try simp only [List.setIfInBounds_toArray, List.set_cons_zero, List.set_cons_succ]
        clear q0 q1 f0 f1 HT
        have HT := HT2
        clear HT2
        generalize (W2.setCell ⟨W.heap.size, 0, none⟩ (.int .i64 x.a)).setCell ⟨W.heap.size, 1, none⟩ (.int .i64 x.n) = W3 at HT hHeld ⊢
        obtain ⟨W2, rfl⟩ : ∃ W2, W2 = W3 := ⟨_, rfl⟩
        have q0 : W2.cell? ⟨(W.heap.size + 1 + 1), 0, none⟩ = some (.int .i64 0) := HT.out.2.2.2.2.2.2.1.cell 0
        have q1 : W2.cell? ⟨(W.heap.size + 1 + 1), 1, none⟩ = some (.int .i64 0) := HT.out.2.2.2.2.2.2.1.cell 1
        have f0 := HT.out.2.2.2.2.2.2.1.frozen 0
        have f1 := HT.out.2.2.2.2.2.2.1.frozen 1
        refine wpT_one 19 (by kernel_rfl) (stepT_early rfl rfl (fun K hK => ?_))
        go_simp
        have HT2 := Lib.hid (HT.out.setB x.b x.n)
        refine hK.out _ _ ⟨HT2.out.cells, trivial⟩ (fun hHeld2 => ?_)
        clear hK K hHeld
        have hHeld := hHeld2
        clear hHeld2
        try simp only [List.setIfInBounds_toArray, List.set_cons_zero, List.set_cons_succ]
        clear q0 q1 f0 f1 HT
        have HT := HT2
        clear HT2
        generalize (W2.setCell ⟨(W.heap.size + 1 + 1), 0, none⟩ (.int .i64 x.b)).setCell ⟨(W.heap.size + 1 + 1), 1, none⟩ (.int .i64 x.n) = W3 at HT hHeld ⊢
        obtain ⟨W2, rfl⟩ : ∃ W2, W2 = W3 := ⟨_, rfl⟩
        have q0 : W2.cell? ⟨(W.heap.size + 1), 0, none⟩ = some (.int .i64 0) := HT.out.2.2.2.2.2.2.2.cell 0
        have q1 : W2.cell? ⟨(W.heap.size + 1), 1, none⟩ = some (.int .i64 0) := HT.out.2.2.2.2.2.2.2.cell 1
        have f0 := HT.out.2.2.2.2.2.2.2.frozen 0
        have f1 := HT.out.2.2.2.2.2.2.2.frozen 1
        refine wpT_tail [_] 20 [] rfl (by kernel_rfl) ?_
        go_wp2_with fail
        go_meet
        case rel => exact ⟨W.heap.size, (W.heap.size + 1 + 1), (W.heap.size + 1), rfl, rfl, rfl, HT.out.setC x.c x.n⟩
    · go_simp
      refine hK.out _ _ ⟨Cr.Sx.alloc hHeld.1 (by first | omega | (simp; omega)) _, trivial⟩ (fun hHeld2 => ?_)
      clear hK K hHeld
      have hHeld := hHeld2
      clear hHeld2
      try simp only [List.setIfInBounds_toArray, List.set_cons_zero, List.set_cons_succ]
      refine wpT_two 15 17 (by kernel_rfl) (stepT_early rfl rfl (fun K hK => ?_)) (stepT_early rfl rfl (fun K hK => ?_))
      · go_simp
        refine hK.out _ _ ⟨Cr.Sx.alloc hHeld.1 (by first | omega | (simp; omega)) _, trivial⟩ (fun hHeld2 => ?_)
        clear hK K hHeld
        have hHeld := hHeld2
        clear hHeld2
        try simp only [List.setIfInBounds_toArray, List.set_cons_zero, List.set_cons_succ]
        refine wpT_one 17 (by kernel_rfl) (stepT_early rfl rfl (fun K hK => ?_))
        go_simp
        refine hK.out _ _ ⟨Cr.Sx.alloc hHeld.1 (by first | omega | (simp; omega)) _, trivial⟩ (fun hHeld2 => ?_)
        clear hK K hHeld
        have hHeld := hHeld2
        clear hHeld2
        try simp only [List.setIfInBounds_toArray, List.set_cons_zero, List.set_cons_succ]
        have HT := Lib.hid (show Cr.T3 w x (W.heap.size + 1) W.heap.size (W.heap.size + 1 + 1) (Cr.pr 0 0) (Cr.pr 0 0) (Cr.pr 0 0) (((W.alloc (.cells (Cr.pr 0 0) 48)).alloc (.cells (Cr.pr 0 0) 48)).alloc (.cells (Cr.pr 0 0) 48)) from HN.out _ _ _ (by omega))
        change wpT _ _ _ _ _ _ _ _ _ _ _ (((W.alloc (.cells (Cr.pr 0 0) 48)).alloc (.cells (Cr.pr 0 0) 48)).alloc (.cells (Cr.pr 0 0) 48))
        generalize (((W.alloc (.cells (Cr.pr 0 0) 48)).alloc (.cells (Cr.pr 0 0) 48)).alloc (.cells (Cr.pr 0 0) 48)) = W2 at HT hHeld ⊢
        have q0 : W2.cell? ⟨(W.heap.size + 1), 0, none⟩ = some (.int .i64 0) := HT.out.2.2.2.2.2.1.cell 0
        have q1 : W2.cell? ⟨(W.heap.size + 1), 1, none⟩ = some (.int .i64 0) := HT.out.2.2.2.2.2.1.cell 1
        have f0 := HT.out.2.2.2.2.2.1.frozen 0
        have f1 := HT.out.2.2.2.2.2.1.frozen 1
        refine wpT_one 18 (by kernel_rfl) (stepT_early rfl rfl (fun K hK => ?_))
        go_simp
        have HT2 := Lib.hid (HT.out.setA x.a x.n)
        refine hK.out _ _ ⟨HT2.out.cells, trivial⟩ (fun hHeld2 => ?_)
        clear hK K hHeld
        have hHeld := hHeld2
        clear hHeld2
        try simp only [List.setIfInBounds_toArray, List.set_cons_zero, List.set_cons_succ]
        clear q0 q1 f0 f1 HT
        have HT := HT2
        clear HT2
        generalize (W2.setCell ⟨(W.heap.size + 1), 0, none⟩ (.int .i64 x.a)).setCell ⟨(W.heap.size + 1), 1, none⟩ (.int .i64 x.n) = W3 at HT hHeld ⊢
        obtain ⟨W2, rfl⟩ : ∃ W2, W2 = W3 := ⟨_, rfl⟩
        have q0 : W2.cell? ⟨W.heap.size, 0, none⟩ = some (.int .i64 0) := HT.out.2.2.2.2.2.2.1.cell 0
        have q1 : W2.cell? ⟨W.heap.size, 1, none⟩ = some (.int .i64 0) := HT.out.2.2.2.2.2.2.1.cell 1
        have f0 := HT.out.2.2.2.2.2.2.1.frozen 0
        have f1 := HT.out.2.2.2.2.2.2.1.frozen 1
        refine wpT_one 19 (by kernel_rfl) (stepT_early rfl rfl (fun K hK => ?_))
        go_simp
        have HT2 := Lib.hid (HT.out.setB x.b x.n)
        refine hK.out _ _ ⟨HT2.out.cells, trivial⟩ (fun hHeld2 => ?_)
        clear hK K hHeld
        have hHeld := hHeld2
        clear hHeld2
        try simp only [List.setIfInBounds_toArray, List.set_cons_zero, List.set_cons_succ]
        clear q0 q1 f0 f1 HT
        have HT := HT2
        clear HT2
        generalize (W2.setCell ⟨W.heap.size, 0, none⟩ (.int .i64 x.b)).setCell ⟨W.heap.size, 1, none⟩ (.int .i64 x.n) = W3 at HT hHeld ⊢
        obtain ⟨W2, rfl⟩ : ∃ W2, W2 = W3 := ⟨_, rfl⟩
        have q0 : W2.cell? ⟨(W.heap.size + 1 + 1), 0, none⟩ = some (.int .i64 0) := HT.out.2.2.2.2.2.2.2.cell 0
        have q1 : W2.cell? ⟨(W.heap.size + 1 + 1), 1, none⟩ = some (.int .i64 0) := HT.out.2.2.2.2.2.2.2.cell 1
        have f0 := HT.out.2.2.2.2.2.2.2.frozen 0
        have f1 := HT.out.2.2.2.2.2.2.2.frozen 1
        refine wpT_tail [_] 20 [] rfl (by kernel_rfl) ?_
        go_wp2_with fail
        go_meet
        case rel => exact ⟨(W.heap.size + 1), W.heap.size, (W.heap.size + 1 + 1), rfl, rfl, rfl, HT.out.setC x.c x.n⟩
      · go_simp
        refine hK.out _ _ ⟨Cr.Sx.alloc hHeld.1 (by first | omega | (simp; omega)) _, trivial⟩ (fun hHeld2 => ?_)
        clear hK K hHeld
        have hHeld := hHeld2
        clear hHeld2
        try simp only [List.setIfInBounds_toArray, List.set_cons_zero, List.set_cons_succ]
        refine wpT_one 15 (by kernel_rfl) (stepT_early rfl rfl (fun K hK => ?_))
        go_simp
        refine hK.out _ _ ⟨Cr.Sx.alloc hHeld.1 (by first | omega | (simp; omega)) _, trivial⟩ (fun hHeld2 => ?_)
        clear hK K hHeld
        have hHeld := hHeld2
        clear hHeld2
        try simp only [List.setIfInBounds_toArray, List.set_cons_zero, List.set_cons_succ]
        have HT := Lib.hid (show Cr.T3 w x (W.heap.size + 1 + 1) W.heap.size (W.heap.size + 1) (Cr.pr 0 0) (Cr.pr 0 0) (Cr.pr 0 0) (((W.alloc (.cells (Cr.pr 0 0) 48)).alloc (.cells (Cr.pr 0 0) 48)).alloc (.cells (Cr.pr 0 0) 48)) from HN.out _ _ _ (by omega))
        change wpT _ _ _ _ _ _ _ _ _ _ _ (((W.alloc (.cells (Cr.pr 0 0) 48)).alloc (.cells (Cr.pr 0 0) 48)).alloc (.cells (Cr.pr 0 0) 48))
        generalize (((W.alloc (.cells (Cr.pr 0 0) 48)).alloc (.cells (Cr.pr 0 0) 48)).alloc (.cells (Cr.pr 0 0) 48)) = W2 at HT hHeld ⊢
        have q0 : W2.cell? ⟨(W.heap.size + 1 + 1), 0, none⟩ = some (.int .i64 0) := HT.out.2.2.2.2.2.1.cell 0
        have q1 : W2.cell? ⟨(W.heap.size + 1 + 1), 1, none⟩ = some (.int .i64 0) := HT.out.2.2.2.2.2.1.cell 1
        have f0 := HT.out.2.2.2.2.2.1.frozen 0
        have f1 := HT.out.2.2.2.2.2.1.frozen 1
        refine wpT_one 18 (by kernel_rfl) (stepT_early rfl rfl (fun K hK => ?_))
        go_simp
        have HT2 := Lib.hid (HT.out.setA x.a x.n)
        refine hK.out _ _ ⟨HT2.out.cells, trivial⟩ (fun hHeld2 => ?_)
        clear hK K hHeld
        have hHeld := hHeld2
        clear hHeld2
        try simp only [List.setIfInBounds_toArray, List.set_cons_zero, List.set_cons_succ]
        clear q0 q1 f0 f1 HT
        have HT := HT2
        clear HT2
        generalize (W2.setCell ⟨(W.heap.size + 1 + 1), 0, none⟩ (.int .i64 x.a)).setCell ⟨(W.heap.size + 1 + 1), 1, none⟩ (.int .i64 x.n) = W3 at HT hHeld ⊢
        obtain ⟨W2, rfl⟩ : ∃ W2, W2 = W3 := ⟨_, rfl⟩
        have q0 : W2.cell? ⟨W.heap.size, 0, none⟩ = some (.int .i64 0) := HT.out.2.2.2.2.2.2.1.cell 0
        have q1 : W2.cell? ⟨W.heap.size, 1, none⟩ = some (.int .i64 0) := HT.out.2.2.2.2.2.2.1.cell 1
        have f0 := HT.out.2.2.2.2.2.2.1.frozen 0
        have f1 := HT.out.2.2.2.2.2.2.1.frozen 1
        refine wpT_one 19 (by kernel_rfl) (stepT_early rfl rfl (fun K hK => ?_))
        go_simp
        have HT2 := Lib.hid (HT.out.setB x.b x.n)
        refine hK.out _ _ ⟨HT2.out.cells, trivial⟩ (fun hHeld2 => ?_)
        clear hK K hHeld
        have hHeld := hHeld2
        clear hHeld2
        try simp only [List.setIfInBounds_toArray, List.set_cons_zero, List.set_cons_succ]
        clear q0 q1 f0 f1 HT
        have HT := HT2
        clear HT2
        generalize (W2.setCell ⟨W.heap.size, 0, none⟩ (.int .i64 x.b)).setCell ⟨W.heap.size, 1, none⟩ (.int .i64 x.n) = W3 at HT hHeld ⊢
        obtain ⟨W2, rfl⟩ : ∃ W2, W2 = W3 := ⟨_, rfl⟩
        have q0 : W2.cell? ⟨(W.heap.size + 1), 0, none⟩ = some (.int .i64 0) := HT.out.2.2.2.2.2.2.2.cell 0
        have q1 : W2.cell? ⟨(W.heap.size + 1), 1, none⟩ = some (.int .i64 0) := HT.out.2.2.2.2.2.2.2.cell 1
        have f0 := HT.out.2.2.2.2.2.2.2.frozen 0
        have f1 := HT.out.2.2.2.2.2.2.2.frozen 1
        refine wpT_tail [_] 20 [] rfl (by kernel_rfl) ?_
        go_wp2_with fail
        go_meet
        case rel => exact ⟨(W.heap.size + 1 + 1), W.heap.size, (W.heap.size + 1), rfl, rfl, rfl, HT.out.setC x.c x.n⟩
    · go_simp
      refine hK.out _ _ ⟨Cr.Sx.alloc hHeld.1 (by first | omega | (simp; omega)) _, trivial⟩ (fun hHeld2 => ?_)
      clear hK K hHeld
      have hHeld := hHeld2
      clear hHeld2
      try simp only [List.setIfInBounds_toArray, List.set_cons_zero, List.set_cons_succ]
      refine wpT_two 15 16 (by kernel_rfl) (stepT_early rfl rfl (fun K hK => ?_)) (stepT_early rfl rfl (fun K hK => ?_))
      · go_simp
        refine hK.out _ _ ⟨Cr.Sx.alloc hHeld.1 (by first | omega | (simp; omega)) _, trivial⟩ (fun hHeld2 => ?_)
        clear hK K hHeld
        have hHeld := hHeld2
        clear hHeld2
        try simp only [List.setIfInBounds_toArray, List.set_cons_zero, List.set_cons_succ]
        refine wpT_one 16 (by kernel_rfl) (stepT_early rfl rfl (fun K hK => ?_))
        go_simp
        refine hK.out _ _ ⟨Cr.Sx.alloc hHeld.1 (by first | omega | (simp; omega)) _, trivial⟩ (fun hHeld2 => ?_)
        clear hK K hHeld
        have hHeld := hHeld2
        clear hHeld2
        try simp only [List.setIfInBounds_toArray, List.set_cons_zero, List.set_cons_succ]
        have HT := Lib.hid (show Cr.T3 w x (W.heap.size + 1) (W.heap.size + 1 + 1) W.heap.size (Cr.pr 0 0) (Cr.pr 0 0) (Cr.pr 0 0) (((W.alloc (.cells (Cr.pr 0 0) 48)).alloc (.cells (Cr.pr 0 0) 48)).alloc (.cells (Cr.pr 0 0) 48)) from HN.out _ _ _ (by omega))
        change wpT _ _ _ _ _ _ _ _ _ _ _ (((W.alloc (.cells (Cr.pr 0 0) 48)).alloc (.cells (Cr.pr 0 0) 48)).alloc (.cells (Cr.pr 0 0) 48))
        generalize (((W.alloc (.cells (Cr.pr 0 0) 48)).alloc (.cells (Cr.pr 0 0) 48)).alloc (.cells (Cr.pr 0 0) 48)) = W2 at HT hHeld ⊢
        have q0 : W2.cell? ⟨(W.heap.size + 1), 0, none⟩ = some (.int .i64 0) := HT.out.2.2.2.2.2.1.cell 0
        have q1 : W2.cell? ⟨(W.heap.size + 1), 1, none⟩ = some (.int .i64 0) := HT.out.2.2.2.2.2.1.cell 1
        have f0 := HT.out.2.2.2.2.2.1.frozen 0
        have f1 := HT.out.2.2.2.2.2.1.frozen 1
        refine wpT_one 18 (by kernel_rfl) (stepT_early rfl rfl (fun K hK => ?_))
        go_simp
        have HT2 := Lib.hid (HT.out.setA x.a x.n)
        refine hK.out _ _ ⟨HT2.out.cells, trivial⟩ (fun hHeld2 => ?_)
        clear hK K hHeld
        have hHeld := hHeld2
        clear hHeld2
        try simp only [List.setIfInBounds_toArray, List.set_cons_zero, List.set_cons_succ]
        clear q0 q1 f0 f1 HT
        have HT := HT2
        clear HT2
        generalize (W2.setCell ⟨(W.heap.size + 1), 0, none⟩ (.int .i64 x.a)).setCell ⟨(W.heap.size + 1), 1, none⟩ (.int .i64 x.n) = W3 at HT hHeld ⊢
        obtain ⟨W2, rfl⟩ : ∃ W2, W2 = W3 := ⟨_, rfl⟩
        have q0 : W2.cell? ⟨(W.heap.size + 1 + 1), 0, none⟩ = some (.int .i64 0) := HT.out.2.2.2.2.2.2.1.cell 0
        have q1 : W2.cell? ⟨(W.heap.size + 1 + 1), 1, none⟩ = some (.int .i64 0) := HT.out.2.2.2.2.2.2.1.cell 1
        have f0 := HT.out.2.2.2.2.2.2.1.frozen 0
        have f1 := HT.out.2.2.2.2.2.2.1.frozen 1
        refine wpT_one 19 (by kernel_rfl) (stepT_early rfl rfl (fun K hK => ?_))
        go_simp
        have HT2 := Lib.hid (HT.out.setB x.b x.n)
        refine hK.out _ _ ⟨HT2.out.cells, trivial⟩ (fun hHeld2 => ?_)
        clear hK K hHeld
        have hHeld := hHeld2
        clear hHeld2
        try simp only [List.setIfInBounds_toArray, List.set_cons_zero, List.set_cons_succ]
        clear q0 q1 f0 f1 HT
        have HT := HT2
        clear HT2
        generalize (W2.setCell ⟨(W.heap.size + 1 + 1), 0, none⟩ (.int .i64 x.b)).setCell ⟨(W.heap.size + 1 + 1), 1, none⟩ (.int .i64 x.n) = W3 at HT hHeld ⊢
        obtain ⟨W2, rfl⟩ : ∃ W2, W2 = W3 := ⟨_, rfl⟩
        have q0 : W2.cell? ⟨W.heap.size, 0, none⟩ = some (.int .i64 0) := HT.out.2.2.2.2.2.2.2.cell 0
        have q1 : W2.cell? ⟨W.heap.size, 1, none⟩ = some (.int .i64 0) := HT.out.2.2.2.2.2.2.2.cell 1
        have f0 := HT.out.2.2.2.2.2.2.2.frozen 0
        have f1 := HT.out.2.2.2.2.2.2.2.frozen 1
        refine wpT_tail [_] 20 [] rfl (by kernel_rfl) ?_
        go_wp2_with fail
        go_meet
        case rel => exact ⟨(W.heap.size + 1), (W.heap.size + 1 + 1), W.heap.size, rfl, rfl, rfl, HT.out.setC x.c x.n⟩
      · go_simp
        refine hK.out _ _ ⟨Cr.Sx.alloc hHeld.1 (by first | omega | (simp; omega)) _, trivial⟩ (fun hHeld2 => ?_)
        clear hK K hHeld
        have hHeld := hHeld2
        clear hHeld2
        try simp only [List.setIfInBounds_toArray, List.set_cons_zero, List.set_cons_succ]
        refine wpT_one 15 (by kernel_rfl) (stepT_early rfl rfl (fun K hK => ?_))
        go_simp
        refine hK.out _ _ ⟨Cr.Sx.alloc hHeld.1 (by first | omega | (simp; omega)) _, trivial⟩ (fun hHeld2 => ?_)
        clear hK K hHeld
        have hHeld := hHeld2
        clear hHeld2
        try simp only [List.setIfInBounds_toArray, List.set_cons_zero, List.set_cons_succ]
        have HT := Lib.hid (show Cr.T3 w x (W.heap.size + 1 + 1) (W.heap.size + 1) W.heap.size (Cr.pr 0 0) (Cr.pr 0 0) (Cr.pr 0 0) (((W.alloc (.cells (Cr.pr 0 0) 48)).alloc (.cells (Cr.pr 0 0) 48)).alloc (.cells (Cr.pr 0 0) 48)) from HN.out _ _ _ (by omega))
        change wpT _ _ _ _ _ _ _ _ _ _ _ (((W.alloc (.cells (Cr.pr 0 0) 48)).alloc (.cells (Cr.pr 0 0) 48)).alloc (.cells (Cr.pr 0 0) 48))
        generalize (((W.alloc (.cells (Cr.pr 0 0) 48)).alloc (.cells (Cr.pr 0 0) 48)).alloc (.cells (Cr.pr 0 0) 48)) = W2 at HT hHeld ⊢
        have q0 : W2.cell? ⟨(W.heap.size + 1 + 1), 0, none⟩ = some (.int .i64 0) := HT.out.2.2.2.2.2.1.cell 0
        have q1 : W2.cell? ⟨(W.heap.size + 1 + 1), 1, none⟩ = some (.int .i64 0) := HT.out.2.2.2.2.2.1.cell 1
        have f0 := HT.out.2.2.2.2.2.1.frozen 0
        have f1 := HT.out.2.2.2.2.2.1.frozen 1
        refine wpT_one 18 (by kernel_rfl) (stepT_early rfl rfl (fun K hK => ?_))
        go_simp
        have HT2 := Lib.hid (HT.out.setA x.a x.n)
        refine hK.out _ _ ⟨HT2.out.cells, trivial⟩ (fun hHeld2 => ?_)
        clear hK K hHeld
        have hHeld := hHeld2
        clear hHeld2
        try simp only [List.setIfInBounds_toArray, List.set_cons_zero, List.set_cons_succ]
        clear q0 q1 f0 f1 HT
        have HT := HT2
        clear HT2
        generalize (W2.setCell ⟨(W.heap.size + 1 + 1), 0, none⟩ (.int .i64 x.a)).setCell ⟨(W.heap.size + 1 + 1), 1, none⟩ (.int .i64 x.n) = W3 at HT hHeld ⊢
        obtain ⟨W2, rfl⟩ : ∃ W2, W2 = W3 := ⟨_, rfl⟩
        have q0 : W2.cell? ⟨(W.heap.size + 1), 0, none⟩ = some (.int .i64 0) := HT.out.2.2.2.2.2.2.1.cell 0
        have q1 : W2.cell? ⟨(W.heap.size + 1), 1, none⟩ = some (.int .i64 0) := HT.out.2.2.2.2.2.2.1.cell 1
        have f0 := HT.out.2.2.2.2.2.2.1.frozen 0
        have f1 := HT.out.2.2.2.2.2.2.1.frozen 1
        refine wpT_one 19 (by kernel_rfl) (stepT_early rfl rfl (fun K hK => ?_))
        go_simp
        have HT2 := Lib.hid (HT.out.setB x.b x.n)
        refine hK.out _ _ ⟨HT2.out.cells, trivial⟩ (fun hHeld2 => ?_)
        clear hK K hHeld
        have hHeld := hHeld2
        clear hHeld2
        try simp only [List.setIfInBounds_toArray, List.set_cons_zero, List.set_cons_succ]
        clear q0 q1 f0 f1 HT
        have HT := HT2
        clear HT2
        generalize (W2.setCell ⟨(W.heap.size + 1), 0, none⟩ (.int .i64 x.b)).setCell ⟨(W.heap.size + 1), 1, none⟩ (.int .i64 x.n) = W3 at HT hHeld ⊢
        obtain ⟨W2, rfl⟩ : ∃ W2, W2 = W3 := ⟨_, rfl⟩
        have q0 : W2.cell? ⟨W.heap.size, 0, none⟩ = some (.int .i64 0) := HT.out.2.2.2.2.2.2.2.cell 0
        have q1 : W2.cell? ⟨W.heap.size, 1, none⟩ = some (.int .i64 0) := HT.out.2.2.2.2.2.2.2.cell 1
        have f0 := HT.out.2.2.2.2.2.2.2.frozen 0
        have f1 := HT.out.2.2.2.2.2.2.2.frozen 1
        refine wpT_tail [_] 20 [] rfl (by kernel_rfl) ?_
        go_wp2_with fail
        go_meet
        case rel => exact ⟨(W.heap.size + 1 + 1), (W.heap.size + 1), W.heap.size, rfl, rfl, rfl, HT.out.setC x.c x.n⟩
  case rest =>
    obtain ⟨gA, gB, gC, rfl, rfl, rfl, hT⟩ := hcut
    obtain ⟨⟨l1, l2, l3, n1, n2, n3⟩, hb, hx, hr, hz, ha, hbb, hc⟩ := hT
    have HB := Lib.hid hb
    have hlt := hx.lt
    have a0 : wc.cell? ⟨gA, 0, none⟩ = some (.int .i64 x.a) := ha.cell 0
    have a1 : wc.cell? ⟨gA, 1, none⟩ = some (.int .i64 x.n) := ha.cell 1
    have b0 : wc.cell? ⟨gB, 0, none⟩ = some (.int .i64 x.b) := hbb.cell 0
    have b1 : wc.cell? ⟨gB, 1, none⟩ = some (.int .i64 x.n) := hbb.cell 1
    have c0 : wc.cell? ⟨gC, 0, none⟩ = some (.int .i64 x.c) := hc.cell 0
    have c1 : wc.cell? ⟨gC, 1, none⟩ = some (.int .i64 x.n) := hc.cell 1
    have xd : wc.cell? ⟨w.heap.size, 0, none⟩ = some (.int .i64 x.d) := hx.cell 0
    have xa : wc.cell? ⟨w.heap.size, 1, none⟩ = some (.int .i64 x.a) := hx.cell 1
    have r0 : wc.cell? ⟨w.heap.size + 1, 0, none⟩ = some (.int .i64 0) := hr.cell 0
    have z0 : wc.cell? ⟨w.heap.size + 1 + 1, 0, none⟩ = some (.int .i64 0) := hz.cell 0
    have fr0 := hr.frozen 0
    have fz0 := hz.frozen 0
    have r1 : wc.cell? ⟨w.heap.size + 1, 1, none⟩ = some (.int .i64 0) := hr.cell 1
    have z1 : wc.cell? ⟨w.heap.size + 1 + 1, 1, none⟩ = some (.int .i64 0) := hz.cell 1
    have fr1 := hr.frozen 1
    have fz1 := hz.frozen 1
    have r2 : wc.cell? ⟨w.heap.size + 1, 2, none⟩ = some (.int .i64 0) := hr.cell 2
    have z2 : wc.cell? ⟨w.heap.size + 1 + 1, 2, none⟩ = some (.int .i64 0) := hz.cell 2
    have fr2 := hr.frozen 2
    have fz2 := hz.frozen 2
    have r3 : wc.cell? ⟨w.heap.size + 1, 3, none⟩ = some (.int .i64 0) := hr.cell 3
    have z3 : wc.cell? ⟨w.heap.size + 1 + 1, 3, none⟩ = some (.int .i64 0) := hz.cell 3
    have fr3 := hr.frozen 3
    have fz3 := hz.frozen 3
    have r4 : wc.cell? ⟨w.heap.size + 1, 4, none⟩ = some (.int .i64 0) := hr.cell 4
    have z4 : wc.cell? ⟨w.heap.size + 1 + 1, 4, none⟩ = some (.int .i64 0) := hz.cell 4
    have fr4 := hr.frozen 4
    have fz4 := hz.frozen 4
    have r5 : wc.cell? ⟨w.heap.size + 1, 5, none⟩ = some (.int .i64 0) := hr.cell 5
    have z5 : wc.cell? ⟨w.heap.size + 1 + 1, 5, none⟩ = some (.int .i64 0) := hz.cell 5
    have fr5 := hr.frozen 5
    have fz5 := hz.frozen 5
    have r6 : wc.cell? ⟨w.heap.size + 1, 6, none⟩ = some (.int .i64 0) := hr.cell 6
    have z6 : wc.cell? ⟨w.heap.size + 1 + 1, 6, none⟩ = some (.int .i64 0) := hz.cell 6
    have fr6 := hr.frozen 6
    have fz6 := hz.frozen 6
    have r7 : wc.cell? ⟨w.heap.size + 1, 7, none⟩ = some (.int .i64 0) := hr.cell 7
    have z7 : wc.cell? ⟨w.heap.size + 1 + 1, 7, none⟩ = some (.int .i64 0) := hz.cell 7
    have fr7 := hr.frozen 7
    have fz7 := hz.frozen 7
    have gne1 : gA ≠ w.heap.size + 1 + 1 := by omega
    have gne2 : gB ≠ w.heap.size + 1 + 1 := by omega
    have gne3 : gC ≠ w.heap.size + 1 + 1 := by omega
    clear hb hx hr hz ha hbb hc
    obtain ⟨d, a, b, c, n, v⟩ := x
    simp only at *
    by_cases h1 : d = 1 ∨ d = 5
    · have HE := Lib.hid (show AdjC.touch ⟨d, a, b, c, n, v⟩ = ((0, 0), (0, 0), (0, 0), (a, n)) by unfold AdjC.touch; rw [if_pos h1])
      rcases h1 with rfl | rfl
      all_goals
        go_wp2
        refine bodyPost_ret (v := .agg #[.int .i64 0, .int .i64 0, .int .i64 0, .int .i64 0, .int .i64 0, .int .i64 0, .int .i64 a, .int .i64 n]) (by simp [results, Try.results32, go_sem, r0, r1, r2, r3, r4, r5, r6, r7]) rfl ⟨by rw [HE.out]; rfl, ?_⟩
        repeat (first | with_reducible exact HB.out | with_reducible refine Below.setCell ?_ (by simp; try omega) _)
    · by_cases h2 : d = 2
      · have HE := Lib.hid (show AdjC.touch ⟨d, a, b, c, n, v⟩ = ((a, n), (0, 0), (0, 0), (0, 0)) by unfold AdjC.touch; rw [if_neg h1, if_pos h2])
        (subst h2; clear h1)
        all_goals
          go_wp2
          refine bodyPost_ret (v := .agg #[.int .i64 a, .int .i64 n, .int .i64 0, .int .i64 0, .int .i64 0, .int .i64 0, .int .i64 0, .int .i64 0]) (by simp [results, Try.results32, go_sem, r0, r1, r2, r3, r4, r5, r6, r7]) rfl ⟨by rw [HE.out]; rfl, ?_⟩
          repeat (first | with_reducible exact HB.out | with_reducible refine Below.setCell ?_ (by simp; try omega) _)
      · by_cases h3 : 6 ≤ d ∧ d ≤ 10
        · have h3' : d = 6 ∨ d = 7 ∨ d = 8 ∨ d = 9 ∨ d = 10 := by omega
          have HE := Lib.hid (show AdjC.touch ⟨d, a, b, c, n, v⟩ = ((0, 0), (b, n), (c, n), (a, n)) by unfold AdjC.touch; rw [if_neg h1, if_neg h2, if_pos h3])
          (clear h1 h2 h3; rcases h3' with rfl | rfl | rfl | rfl | rfl)
          all_goals
            go_wp2
            refine bodyPost_ret (v := .agg #[.int .i64 0, .int .i64 0, .int .i64 b, .int .i64 n, .int .i64 c, .int .i64 n, .int .i64 a, .int .i64 n]) (by simp [results, Try.results32, go_sem, r0, r1, r2, r3, r4, r5, r6, r7]) rfl ⟨by rw [HE.out]; rfl, ?_⟩
            repeat (first | with_reducible exact HB.out | with_reducible refine Below.setCell ?_ (by simp; try omega) _)
        · by_cases h4 : d = 11 ∨ d = 12
          · have HE := Lib.hid (show AdjC.touch ⟨d, a, b, c, n, v⟩ = ((a, n), (b, n), (c, n), (a, n)) by unfold AdjC.touch; rw [if_neg h1, if_neg h2, if_neg h3, if_pos h4])
            (clear h1 h2 h3; rcases h4 with rfl | rfl)
            all_goals
              go_wp2
              refine bodyPost_ret (v := .agg #[.int .i64 a, .int .i64 n, .int .i64 b, .int .i64 n, .int .i64 c, .int .i64 n, .int .i64 a, .int .i64 n]) (by simp [results, Try.results32, go_sem, r0, r1, r2, r3, r4, r5, r6, r7]) rfl ⟨by rw [HE.out]; rfl, ?_⟩
              repeat (first | with_reducible exact HB.out | with_reducible refine Below.setCell ?_ (by simp; try omega) _)
          · by_cases h5 : d = 13
            · have HE := Lib.hid (show AdjC.touch ⟨d, a, b, c, n, v⟩ = ((a, 1), (b, n), (c, n), (a, 1)) by unfold AdjC.touch; rw [if_neg h1, if_neg h2, if_neg h3, if_neg h4, if_pos h5])
              (subst h5; clear h1 h2 h3 h4)
              all_goals
                go_wp2
                refine bodyPost_ret (v := .agg #[.int .i64 a, .int .i64 1, .int .i64 b, .int .i64 n, .int .i64 c, .int .i64 n, .int .i64 a, .int .i64 1]) (by simp [results, Try.results32, go_sem, r0, r1, r2, r3, r4, r5, r6, r7]) rfl ⟨by rw [HE.out]; rfl, ?_⟩
                repeat (first | with_reducible exact HB.out | with_reducible refine Below.setCell ?_ (by simp; try omega) _)
            · by_cases h6 : d = 14
              · have HE := Lib.hid (show AdjC.touch ⟨d, a, b, c, n, v⟩ = ((a, n), (b, n), (0, 0), (a, n)) by unfold AdjC.touch; rw [if_neg h1, if_neg h2, if_neg h3, if_neg h4, if_neg h5, if_pos h6])
                (subst h6; clear h1 h2 h3 h4 h5)
                all_goals
                  go_wp2
                  refine bodyPost_ret (v := .agg #[.int .i64 a, .int .i64 n, .int .i64 b, .int .i64 n, .int .i64 0, .int .i64 0, .int .i64 a, .int .i64 n]) (by simp [results, Try.results32, go_sem, r0, r1, r2, r3, r4, r5, r6, r7]) rfl ⟨by rw [HE.out]; rfl, ?_⟩
                  repeat (first | with_reducible exact HB.out | with_reducible refine Below.setCell ?_ (by simp; try omega) _)
              · have t1 : (d == 1) = false := by simp; omega
                have t2 : (d == 2) = false := by simp; omega
                have t5 : (d == 5) = false := by simp; omega
                have t6 : (d == 6) = false := by simp; omega
                have t7 : (d == 7) = false := by simp; omega
                have t8 : (d == 8) = false := by simp; omega
                have t9 : (d == 9) = false := by simp; omega
                have t10 : (d == 10) = false := by simp; omega
                have t11 : (d == 11) = false := by simp; omega
                have t12 : (d == 12) = false := by simp; omega
                have t13 : (d == 13) = false := by simp; omega
                have t14 : (d == 14) = false := by simp; omega
                have HE := Lib.hid (show AdjC.touch ⟨d, a, b, c, n, v⟩ = ((0, 0), (0, 0), (0, 0), (0, 0)) by unfold AdjC.touch; rw [if_neg h1, if_neg h2, if_neg h3, if_neg h4, if_neg h5, if_neg h6])
                clear h1 h2 h3 h4 h5 h6
                all_goals
                  go_wp2
                  refine bodyPost_ret (v := .agg #[.int .i64 0, .int .i64 0, .int .i64 0, .int .i64 0, .int .i64 0, .int .i64 0, .int .i64 0, .int .i64 0]) (by simp [results, Try.results32, go_sem, r0, r1, r2, r3, r4, r5, r6, r7]) rfl ⟨by rw [HE.out]; rfl, ?_⟩
                  repeat (first | with_reducible exact HB.out | with_reducible refine Below.setCell ?_ (by simp; try omega) _)
end Go.Proofs.Ytlnfmipcbhhkhaa
