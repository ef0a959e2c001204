/-
  The walk of spans: what an instruction reads and writes in the pad. No condition.
-/
import Derived.Test.YtlnfmipcbhhkhaaCoreA
import Derived.Test.YtlnfmipcbhhkhaaInts
import Derived.Test.YtlnfmipcbhhkhaaHeld
import Derived.StillTailTactics
namespace Go.Proofs.Ytlnfmipcbhhkhaa
set_option linter.unusedVariables false
open Go.RowKit Adj

namespace Cr
/-- An instruction as a value. -/
def insV (x : AdjC.I) : Value := .agg #[.int .i64 x.d, .int .i64 x.a, .int .i64 x.b, .int .i64 x.c, .int .i64 x.n, .int .i64 x.v]
def pairV (p : Int × Int) : Value := .agg #[.int .i64 p.1, .int .i64 p.2]
/-- What spans answers. -/
def SpansOut (x : AdjC.I) (w : World) (e : Ending) (w' : World) : Prop :=
  ∃ A : Option Addr, e = .returned (.tuple #[.slice A (AdjC.reads x).length (AdjC.reads x).length, pairV (AdjC.write x)]) ∧ w'.ownsRow w.heap.size 66 2 (.slice A (AdjC.reads x).length (AdjC.reads x).length) (AdjC.reads x).length (Adj.ints (AdjC.two (AdjC.reads x))) ∧ Below w.heap.size w w'
theorem spans_none {x : AdjC.I} {w w' : World} (hr : AdjC.reads x = []) (hb : Below w.heap.size w w') : SpansOut x w (.returned (.tuple #[.slice none 0 0, pairV (AdjC.write x)])) w' :=
  ⟨none, by rw [hr]; rfl, by rw [hr]; exact ⟨rfl, .inl ⟨rfl, rfl⟩⟩, hb⟩
def Sel (w : World) (a b c n : Int) (w' : World) : Prop := (w'.cell? ⟨w.heap.size, 1, none⟩ = some (.int .i64 a) ∧ w'.cell? ⟨w.heap.size, 2, none⟩ = some (.int .i64 b) ∧ w'.cell? ⟨w.heap.size, 3, none⟩ = some (.int .i64 c) ∧ w'.cell? ⟨w.heap.size, 4, none⟩ = some (.int .i64 n)) ∧ w'.cell? ⟨w.heap.size + 1 + 1, 0, none⟩ = some (.int .i64 a) ∧ w'.cell? ⟨w.heap.size + 1 + 1, 1, none⟩ = some (.int .i64 n)
theorem sel_alloc {w w' : World} {a b c n : Int} (h : Sel w a b c n w') (hs : w.heap.size + 1 + 1 < w'.heap.size) (o : Obj) : Sel w a b c n (w'.alloc o) := by
  obtain ⟨⟨h1, h2, h3, h4⟩, h5, h6⟩ := h
  have g : ∀ b i, b ≤ w.heap.size + 1 + 1 → (w'.alloc o).cell? ⟨b, i, none⟩ = w'.cell? ⟨b, i, none⟩ := fun b i hb => World.cell?_alloc_lt _ _ _ (show b < _ by omega)
  exact ⟨⟨(g _ _ (by omega)).trans h1, (g _ _ (by omega)).trans h2, (g _ _ (by omega)).trans h3, (g _ _ (by omega)).trans h4⟩, (g _ _ (by omega)).trans h5, (g _ _ (by omega)).trans h6⟩
theorem spans_some {x : AdjC.I} {w w' : World} {g k : Nat} {l : List (Int × Int)} (hr : AdjC.reads x = l) (hk : l.length = k) (hk3 : k ≤ 3) (hg : w.heap.size ≤ g) (h : Blk w' g 66 (Adj.ints (AdjC.two l)).toArray ∧ Below w.heap.size w w') :
    SpansOut x w (.returned (.tuple #[.slice (some ⟨g, 0, none⟩) k k, pairV (AdjC.write x)])) w' :=
  ⟨some ⟨g, 0, none⟩, by rw [hr, hk], by
    rw [hr, hk]
    refine ⟨by rw [Adj.ints_length, AdjC.two_length, hk, Nat.mul_comm], .inr ⟨g, k, _, rfl, hg, h.1, Nat.le_refl _, by unfold maxLen; omega, ?_, ?_⟩⟩
    · simp only [List.size_toArray]; rw [Adj.ints_length, AdjC.two_length, hk, Nat.mul_comm]
    · simp only []; rw [List.take_of_length_le (by rw [Adj.ints_length, AdjC.two_length, hk]; omega)], h.2⟩
/-- What lies when the answer is made: a new block behind the three of the call's own. -/
theorem laid2 {w W : World} {cs : Array Value} {g : Nat} {t : TypeId} (hB : Below w.heap.size w W) (h : Blk W g t cs) (hg : w.heap.size + 1 ≠ g) (x y : Value) :
    Blk ((W.setCell ⟨w.heap.size + 1, 0, none⟩ x).setCell ⟨w.heap.size + 1, 1, none⟩ y) g t cs ∧ Below w.heap.size w ((W.setCell ⟨w.heap.size + 1, 0, none⟩ x).setCell ⟨w.heap.size + 1, 1, none⟩ y) :=
  ⟨(h.far (p := ⟨w.heap.size + 1, 0, none⟩) (Ne.symm hg) _).far (p := ⟨w.heap.size + 1, 1, none⟩) (Ne.symm hg) _, (hB.setCell (p := ⟨w.heap.size + 1, 0, none⟩) (by simp) _).setCell (p := ⟨w.heap.size + 1, 1, none⟩) (by simp) _⟩
theorem new3 {w W : World} (hs : W.heap.size = w.heap.size + 1 + 1 + 1) (t : TypeId) (cs : Array Value) : Blk (W.alloc (.cells cs t)).drew (w.heap.size + 1 + 1 + 1) t cs := by
  rw [← hs]; exact (Blk.new W t cs).drew
end Cr

set_option maxRecDepth 100000 in
set_option maxHeartbeats 4000000 in
theorem spans_any (x : AdjC.I) (w : World) : Calls Try.prog 27 #[Cr.insV x] w (Cr.SpansOut x w) := by
  obtain ⟨d, a, b, c, n, v⟩ := x
  unfold Cr.insV
  simp only
  obtain ⟨W3, h3⟩ : ∃ W3, ((w.alloc (.cells #[.int .i64 d, .int .i64 a, .int .i64 b, .int .i64 c, .int .i64 n, .int .i64 v] 42)).alloc (.cells #[.int .i64 0, .int .i64 0] 66)).alloc (.cells #[.int .i64 a, .int .i64 n] 66) = W3 := ⟨_, rfl⟩
  have HX := Lib.hid (show Blk W3 w.heap.size 42 #[.int .i64 d, .int .i64 a, .int .i64 b, .int .i64 c, .int .i64 n, .int .i64 v] by rw [← h3]; exact ((Blk.new _ _ _).alloc _).alloc _)
  have HR3 := Lib.hid (show Blk W3 (w.heap.size + 1) 66 #[.int .i64 0, .int .i64 0] by
    rw [← h3]
    have := Blk.new (w.alloc (.cells #[.int .i64 d, .int .i64 a, .int .i64 b, .int .i64 c, .int .i64 n, .int .i64 v] 42)) 66 #[.int .i64 0, .int .i64 0]
    rw [World.size_alloc] at this
    exact this.alloc _)
  have HA3 := Lib.hid (show Blk W3 (w.heap.size + 1 + 1) 66 #[.int .i64 a, .int .i64 n] by
    rw [← h3]
    have := Blk.new ((w.alloc (.cells #[.int .i64 d, .int .i64 a, .int .i64 b, .int .i64 c, .int .i64 n, .int .i64 v] 42)).alloc (.cells #[.int .i64 0, .int .i64 0] 66)) 66 #[.int .i64 a, .int .i64 n]
    rw [World.size_alloc, World.size_alloc] at this
    exact this)
  have HC := Lib.hid (show Cr.Sel w a b c n W3 from
    ⟨⟨HX.out.cell 1, HX.out.cell 2, HX.out.cell 3, HX.out.cell 4⟩, HA3.out.cell 0, HA3.out.cell 1⟩)
  have HS3 := Lib.hid (show W3.heap.size = w.heap.size + 1 + 1 + 1 by rw [← h3]; simp)
  have HB3 := Lib.hid (show Below w.heap.size w W3 by rw [← h3]; exact (((Below.refl _ _).alloc (Nat.le_refl _) _).alloc (by simp) _).alloc (by simp; omega) _)
  have H3 := Lib.hid h3
  clear h3
  by_cases h1 : d = 1 ∨ d = 5
  · have hr : AdjC.reads ⟨d, a, b, c, n, v⟩ = [] := if_pos h1
    have HR := Lib.hid hr
    have hw : AdjC.write ⟨d, a, b, c, n, v⟩ = (a, n) := if_pos h1
    have HW := Lib.hid hw
    clear hr hw
    rcases h1 with rfl | rfl
    all_goals
      go_enter Try.func27, Try.ntmps27
      go_wp2
      try rw [H3.out]
      have hc := HC.out
      refine wp_region_T (Cr.Sel w a b c n) 2 (fun _ => True) 2 3 rfl (by kernel_rfl) ⟨hc, trivial⟩ (fun hHeld => ?_)
      simp only [List.replicate_succ, List.replicate_zero]
      refine wpT_take 0 15 (v := ?_) hHeld.1 hHeld.2 rfl rfl (by kernel_rfl) (fun _ _ _ h => h) rfl ?_ ?_
      rotate_left
      · (intro w hSw; unfold Cr.Sel at hSw; go_simp; try with_reducible rfl)
      try simp only [Act.put, List.setIfInBounds_toArray, List.set_cons_zero, List.set_cons_succ]
      refine wpT_one 1 (by kernel_rfl) (stepT_early rfl rfl (fun K hK => ?_))
      go_simp
      refine hK.out _ _ hHeld (fun hHeld2 => ?_)
      clear hK K
      try simp only [List.setIfInBounds_toArray, List.set_cons_zero, List.set_cons_succ]
      refine wpT_tail [_] 2 [] rfl (by kernel_rfl) ?_
      have q0 := HR3.out.cell 0
      have q1 := HR3.out.cell 1
      have fq0 := HR3.out.frozen 0
      have fq1 := HR3.out.frozen 1
      go_wp2
      refine bodyPost_ret (v := .tuple #[.slice none 0 0, .agg #[.int .i64 a, .int .i64 n]]) (by simp [results, Try.results27, go_sem, q0, q1]) rfl ?_
      rw [show (Value.agg #[.int .i64 a, .int .i64 n]) = Cr.pairV (a, n) from rfl, ← HW.out]
      exact Cr.spans_none HR.out ((HB3.out.drew.setCell (p := ⟨w.heap.size + 1, 0, none⟩) (by simp) _).setCell (p := ⟨w.heap.size + 1, 1, none⟩) (by simp) _)
  · by_cases h2 : d = 2
    · have hr : AdjC.reads ⟨d, a, b, c, n, v⟩ = [(a, n)] := by unfold AdjC.reads; rw [if_neg h1, if_pos h2]
      have hw : AdjC.write ⟨d, a, b, c, n, v⟩ = ((0, 0) : Int × Int) := by unfold AdjC.write; rw [if_neg h1, if_pos h2]
      have HR := Lib.hid hr
      have HW := Lib.hid hw
      clear hr hw
      subst h2
      clear h1
      go_enter Try.func27, Try.ntmps27
      go_wp2
      try rw [H3.out]
      have hc := HC.out
      obtain ⟨c4, c5⟩ := hc.2
      go_wp2
      have HR4 := Lib.hid (HR3.out.alloc (.cells #[.int .i64 a, .int .i64 n] 66))
      have HN4 := Lib.hid (show Blk (W3.alloc (.cells #[.int .i64 a, .int .i64 n] 66)) (w.heap.size + 1 + 1 + 1) 66 #[.int .i64 a, .int .i64 n] from Cr.new3 HS3.out _ _)
      have HB4 := Lib.hid (HB3.out.alloc (by rw [HS3.out]; omega) (.cells #[.int .i64 a, .int .i64 n] 66))
      generalize W3.alloc (.cells #[.int .i64 a, .int .i64 n] 66) = W4 at HR4 HN4 HB4 ⊢
      have q0 := HR4.out.cell 0
      have q1 := HR4.out.cell 1
      refine bodyPost_ret (v := .tuple #[.slice (some ⟨w.heap.size + 1 + 1 + 1, 0, none⟩) 1 1, .agg #[.int .i64 0, .int .i64 0]]) (by simp [results, Try.results27, go_sem, q0, q1]) rfl ?_
      rw [show (Value.agg #[.int .i64 0, .int .i64 0]) = Cr.pairV (0, 0) from rfl, ← HW.out]
      exact Cr.spans_some (k := 1) HR.out rfl (by omega) (by omega) ⟨HN4.out, HB4.out⟩
    · by_cases h3 : d = 11 ∨ d = 12
      · have hr : AdjC.reads ⟨d, a, b, c, n, v⟩ = [(a, n), (b, n), (c, n)] := by unfold AdjC.reads; rw [if_neg h1, if_neg h2, if_pos h3]
        have hw : AdjC.write ⟨d, a, b, c, n, v⟩ = ((a, n) : Int × Int) := by unfold AdjC.write; rw [if_neg h1, if_neg h2, if_pos h3]
        have HR := Lib.hid hr
        have HW := Lib.hid hw
        clear hr hw
        clear h1 h2
        rcases h3 with rfl | rfl
        all_goals
          go_enter Try.func27, Try.ntmps27
          go_wp2
          try rw [H3.out]
          have hc := HC.out
          refine wp_region_T (Cr.Sel w a b c n) 14 (fun _ => True) 14 15 rfl (by kernel_rfl) ⟨hc, trivial⟩ (fun hHeld => ?_)
          simp only [List.replicate_succ, List.replicate_zero]
          refine wpT_take 0 24 (v := ?_) hHeld.1 hHeld.2 rfl rfl (by kernel_rfl) (fun _ _ _ h => h) rfl ?_ ?_
          rotate_left
          · (intro w hSw; unfold Cr.Sel at hSw; go_simp; try with_reducible rfl)
          try simp only [Act.put, List.setIfInBounds_toArray, List.set_cons_zero, List.set_cons_succ]
          refine wpT_take 1 25 (v := ?_) hHeld.1 hHeld.2 rfl rfl (by kernel_rfl) (fun _ _ _ h => h) rfl ?_ ?_
          rotate_left
          · (intro w hSw; unfold Cr.Sel at hSw; go_simp; try with_reducible rfl)
          try simp only [Act.put, List.setIfInBounds_toArray, List.set_cons_zero, List.set_cons_succ]
          refine wpT_take 2 26 (v := ?_) hHeld.1 hHeld.2 rfl rfl (by kernel_rfl) (fun _ _ _ h => h) rfl ?_ ?_
          rotate_left
          · (intro w hSw; unfold Cr.Sel at hSw; go_simp; try with_reducible rfl)
          try simp only [Act.put, List.setIfInBounds_toArray, List.set_cons_zero, List.set_cons_succ]
          refine wpT_take 3 27 (v := ?_) hHeld.1 hHeld.2 rfl rfl (by kernel_rfl) (fun _ _ _ h => h) rfl ?_ ?_
          rotate_left
          · (intro w hSw; unfold Cr.Sel at hSw; go_simp; try with_reducible rfl)
          try simp only [Act.put, List.setIfInBounds_toArray, List.set_cons_zero, List.set_cons_succ]
          refine wpT_take 4 28 (v := ?_) hHeld.1 hHeld.2 rfl rfl (by kernel_rfl) (fun _ _ _ h => h) rfl ?_ ?_
          rotate_left
          · (intro w hSw; unfold Cr.Sel at hSw; go_simp; try with_reducible rfl)
          try simp only [Act.put, List.setIfInBounds_toArray, List.set_cons_zero, List.set_cons_succ]
          refine wpT_take 5 29 (v := ?_) hHeld.1 hHeld.2 rfl rfl (by kernel_rfl) (fun _ _ _ h => h) rfl ?_ ?_
          rotate_left
          · (intro w hSw; unfold Cr.Sel at hSw; go_simp; try with_reducible rfl)
          try simp only [Act.put, List.setIfInBounds_toArray, List.set_cons_zero, List.set_cons_succ]
          refine wpT_take 6 30 (v := ?_) hHeld.1 hHeld.2 rfl rfl (by kernel_rfl) (fun _ _ _ h => h) rfl ?_ ?_
          rotate_left
          · (intro w hSw; unfold Cr.Sel at hSw; go_simp; try with_reducible rfl)
          try simp only [Act.put, List.setIfInBounds_toArray, List.set_cons_zero, List.set_cons_succ]
          refine wpT_take 7 31 (v := ?_) hHeld.1 hHeld.2 rfl rfl (by kernel_rfl) (fun _ _ _ h => h) rfl ?_ ?_
          rotate_left
          · (intro w hSw; unfold Cr.Sel at hSw; go_simp; try with_reducible rfl)
          try simp only [Act.put, List.setIfInBounds_toArray, List.set_cons_zero, List.set_cons_succ]
          refine wpT_take 8 32 (v := ?_) hHeld.1 hHeld.2 rfl rfl (by kernel_rfl) (fun _ _ _ h => h) rfl ?_ ?_
          rotate_left
          · (intro w hSw; unfold Cr.Sel at hSw; go_simp; try with_reducible rfl)
          try simp only [Act.put, List.setIfInBounds_toArray, List.set_cons_zero, List.set_cons_succ]
          refine wpT_take 9 33 (v := ?_) hHeld.1 hHeld.2 rfl rfl (by kernel_rfl) (fun _ _ _ h => h) rfl ?_ ?_
          rotate_left
          · (intro w hSw; unfold Cr.Sel at hSw; go_simp; try with_reducible rfl)
          try simp only [Act.put, List.setIfInBounds_toArray, List.set_cons_zero, List.set_cons_succ]
          refine wpT_take 10 34 (v := ?_) hHeld.1 hHeld.2 rfl rfl (by kernel_rfl) (fun _ _ _ h => h) rfl ?_ ?_
          rotate_left
          · (intro w hSw; unfold Cr.Sel at hSw; go_simp; try with_reducible rfl)
          try simp only [Act.put, List.setIfInBounds_toArray, List.set_cons_zero, List.set_cons_succ]
          refine wpT_take 12 36 (v := ?_) hHeld.1 hHeld.2 rfl rfl (by kernel_rfl) (fun _ _ _ h => h) rfl ?_ ?_
          rotate_left
          · (intro w hSw; unfold Cr.Sel at hSw; go_simp; try with_reducible rfl)
          try simp only [Act.put, List.setIfInBounds_toArray, List.set_cons_zero, List.set_cons_succ]
          refine wpT_one 11 (by kernel_rfl) (stepT_early rfl rfl (fun K hK => ?_))
          go_simp
          try rw [HS3.out]
          refine hK.out _ _ ⟨Cr.sel_alloc hHeld.1 (by simp [HS3.out]) _, trivial⟩ (fun hHeld2 => ?_)
          clear hK K hHeld
          have hHeld := hHeld2
          clear hHeld2
          try simp only [List.setIfInBounds_toArray, List.set_cons_zero, List.set_cons_succ]
          refine wpT_one 13 (by kernel_rfl) (stepT_early rfl rfl (fun K hK => ?_))
          go_simp
          refine hK.out _ _ hHeld (fun hHeld2 => ?_)
          clear hK K
          try simp only [List.setIfInBounds_toArray, List.set_cons_zero, List.set_cons_succ]
          refine wpT_tail [_] 14 [] rfl (by kernel_rfl) ?_
          have HR4 := Lib.hid ((HR3.out.alloc (.cells #[.int .i64 a, .int .i64 n, .int .i64 b, .int .i64 n, .int .i64 c, .int .i64 n] 66)).drew)
          have HN4 := Lib.hid (Cr.new3 HS3.out 66 #[.int .i64 a, .int .i64 n, .int .i64 b, .int .i64 n, .int .i64 c, .int .i64 n])
          have HB4 := Lib.hid ((HB3.out.alloc (by rw [HS3.out]; omega) (.cells #[.int .i64 a, .int .i64 n, .int .i64 b, .int .i64 n, .int .i64 c, .int .i64 n] 66)).drew)
          clear hHeld
          generalize (W3.alloc (.cells #[.int .i64 a, .int .i64 n, .int .i64 b, .int .i64 n, .int .i64 c, .int .i64 n] 66)).drew = W4 at HR4 HN4 HB4 ⊢
          have q0 := HR4.out.cell 0
          have q1 := HR4.out.cell 1
          have fq0 := HR4.out.frozen 0
          have fq1 := HR4.out.frozen 1
          go_wp2
          refine bodyPost_ret (v := .tuple #[.slice (some ⟨w.heap.size + 1 + 1 + 1, 0, none⟩) 3 3, .agg #[.int .i64 a, .int .i64 n]]) (by simp [results, Try.results27, go_sem, q0, q1]) rfl ?_
          rw [show (Value.agg #[.int .i64 a, .int .i64 n]) = Cr.pairV (a, n) from rfl, ← HW.out]
          exact Cr.spans_some (k := 3) HR.out rfl (by omega) (by omega) (Cr.laid2 HB4.out HN4.out (by omega) _ _)
      · by_cases h4 : d = 13
        · have hr : AdjC.reads ⟨d, a, b, c, n, v⟩ = [(a, 1), (b, n), (c, n)] := by unfold AdjC.reads; rw [if_neg h1, if_neg h2, if_neg h3, if_pos h4]
          have hw : AdjC.write ⟨d, a, b, c, n, v⟩ = ((a, 1) : Int × Int) := by unfold AdjC.write; rw [if_neg h1, if_neg h2, if_neg h3, if_pos h4]
          have HR := Lib.hid hr
          have HW := Lib.hid hw
          clear hr hw
          subst h4
          clear h1 h2 h3
          go_enter Try.func27, Try.ntmps27
          go_wp2
          try rw [H3.out]
          have hc := HC.out
          refine wp_region_T (Cr.Sel w a b c n) 18 (fun _ => True) 18 19 rfl (by kernel_rfl) ⟨hc, trivial⟩ (fun hHeld => ?_)
          simp only [List.replicate_succ, List.replicate_zero]
          refine wpT_take 0 39 (v := ?_) hHeld.1 hHeld.2 rfl rfl (by kernel_rfl) (fun _ _ _ h => h) rfl ?_ ?_
          rotate_left
          · (intro w hSw; unfold Cr.Sel at hSw; go_simp; try with_reducible rfl)
          try simp only [Act.put, List.setIfInBounds_toArray, List.set_cons_zero, List.set_cons_succ]
          refine wpT_take 1 40 (v := ?_) hHeld.1 hHeld.2 rfl rfl (by kernel_rfl) (fun _ _ _ h => h) rfl ?_ ?_
          rotate_left
          · (intro w hSw; unfold Cr.Sel at hSw; go_simp; try with_reducible rfl)
          try simp only [Act.put, List.setIfInBounds_toArray, List.set_cons_zero, List.set_cons_succ]
          refine wpT_take 2 41 (v := ?_) hHeld.1 hHeld.2 rfl rfl (by kernel_rfl) (fun _ _ _ h => h) rfl ?_ ?_
          rotate_left
          · (intro w hSw; unfold Cr.Sel at hSw; go_simp; try with_reducible rfl)
          try simp only [Act.put, List.setIfInBounds_toArray, List.set_cons_zero, List.set_cons_succ]
          refine wpT_take 3 42 (v := ?_) hHeld.1 hHeld.2 rfl rfl (by kernel_rfl) (fun _ _ _ h => h) rfl ?_ ?_
          rotate_left
          · (intro w hSw; unfold Cr.Sel at hSw; go_simp; try with_reducible rfl)
          try simp only [Act.put, List.setIfInBounds_toArray, List.set_cons_zero, List.set_cons_succ]
          refine wpT_take 4 43 (v := ?_) hHeld.1 hHeld.2 rfl rfl (by kernel_rfl) (fun _ _ _ h => h) rfl ?_ ?_
          rotate_left
          · (intro w hSw; unfold Cr.Sel at hSw; go_simp; try with_reducible rfl)
          try simp only [Act.put, List.setIfInBounds_toArray, List.set_cons_zero, List.set_cons_succ]
          refine wpT_take 5 44 (v := ?_) hHeld.1 hHeld.2 rfl rfl (by kernel_rfl) (fun _ _ _ h => h) rfl ?_ ?_
          rotate_left
          · (intro w hSw; unfold Cr.Sel at hSw; go_simp; try with_reducible rfl)
          try simp only [Act.put, List.setIfInBounds_toArray, List.set_cons_zero, List.set_cons_succ]
          refine wpT_take 6 45 (v := ?_) hHeld.1 hHeld.2 rfl rfl (by kernel_rfl) (fun _ _ _ h => h) rfl ?_ ?_
          rotate_left
          · (intro w hSw; unfold Cr.Sel at hSw; go_simp; try with_reducible rfl)
          try simp only [Act.put, List.setIfInBounds_toArray, List.set_cons_zero, List.set_cons_succ]
          refine wpT_take 7 46 (v := ?_) hHeld.1 hHeld.2 rfl rfl (by kernel_rfl) (fun _ _ _ h => h) rfl ?_ ?_
          rotate_left
          · (intro w hSw; unfold Cr.Sel at hSw; go_simp; try with_reducible rfl)
          try simp only [Act.put, List.setIfInBounds_toArray, List.set_cons_zero, List.set_cons_succ]
          refine wpT_take 8 47 (v := ?_) hHeld.1 hHeld.2 rfl rfl (by kernel_rfl) (fun _ _ _ h => h) rfl ?_ ?_
          rotate_left
          · (intro w hSw; unfold Cr.Sel at hSw; go_simp; try with_reducible rfl)
          try simp only [Act.put, List.setIfInBounds_toArray, List.set_cons_zero, List.set_cons_succ]
          refine wpT_take 9 48 (v := ?_) hHeld.1 hHeld.2 rfl rfl (by kernel_rfl) (fun _ _ _ h => h) rfl ?_ ?_
          rotate_left
          · (intro w hSw; unfold Cr.Sel at hSw; go_simp; try with_reducible rfl)
          try simp only [Act.put, List.setIfInBounds_toArray, List.set_cons_zero, List.set_cons_succ]
          refine wpT_take 10 49 (v := ?_) hHeld.1 hHeld.2 rfl rfl (by kernel_rfl) (fun _ _ _ h => h) rfl ?_ ?_
          rotate_left
          · (intro w hSw; unfold Cr.Sel at hSw; go_simp; try with_reducible rfl)
          try simp only [Act.put, List.setIfInBounds_toArray, List.set_cons_zero, List.set_cons_succ]
          refine wpT_take 11 50 (v := ?_) hHeld.1 hHeld.2 rfl rfl (by kernel_rfl) (fun _ _ _ h => h) rfl ?_ ?_
          rotate_left
          · (intro w hSw; unfold Cr.Sel at hSw; go_simp; try with_reducible rfl)
          try simp only [Act.put, List.setIfInBounds_toArray, List.set_cons_zero, List.set_cons_succ]
          refine wpT_take 12 51 (v := ?_) hHeld.1 hHeld.2 rfl rfl (by kernel_rfl) (fun _ _ _ h => h) rfl ?_ ?_
          rotate_left
          · (intro w hSw; unfold Cr.Sel at hSw; go_simp; try with_reducible rfl)
          try simp only [Act.put, List.setIfInBounds_toArray, List.set_cons_zero, List.set_cons_succ]
          refine wpT_take 14 53 (v := ?_) hHeld.1 hHeld.2 rfl rfl (by kernel_rfl) (fun _ _ _ h => h) rfl ?_ ?_
          rotate_left
          · (intro w hSw; unfold Cr.Sel at hSw; go_simp; try with_reducible rfl)
          try simp only [Act.put, List.setIfInBounds_toArray, List.set_cons_zero, List.set_cons_succ]
          refine wpT_take 15 54 (v := ?_) hHeld.1 hHeld.2 rfl rfl (by kernel_rfl) (fun _ _ _ h => h) rfl ?_ ?_
          rotate_left
          · (intro w hSw; unfold Cr.Sel at hSw; go_simp; try with_reducible rfl)
          try simp only [Act.put, List.setIfInBounds_toArray, List.set_cons_zero, List.set_cons_succ]
          refine wpT_take 16 55 (v := ?_) hHeld.1 hHeld.2 rfl rfl (by kernel_rfl) (fun _ _ _ h => h) rfl ?_ ?_
          rotate_left
          · (intro w hSw; unfold Cr.Sel at hSw; go_simp; try with_reducible rfl)
          try simp only [Act.put, List.setIfInBounds_toArray, List.set_cons_zero, List.set_cons_succ]
          refine wpT_one 13 (by kernel_rfl) (stepT_early rfl rfl (fun K hK => ?_))
          go_simp
          try rw [HS3.out]
          refine hK.out _ _ ⟨Cr.sel_alloc hHeld.1 (by simp [HS3.out]) _, trivial⟩ (fun hHeld2 => ?_)
          clear hK K hHeld
          have hHeld := hHeld2
          clear hHeld2
          try simp only [List.setIfInBounds_toArray, List.set_cons_zero, List.set_cons_succ]
          refine wpT_one 17 (by kernel_rfl) (stepT_early rfl rfl (fun K hK => ?_))
          go_simp
          refine hK.out _ _ hHeld (fun hHeld2 => ?_)
          clear hK K
          try simp only [List.setIfInBounds_toArray, List.set_cons_zero, List.set_cons_succ]
          refine wpT_tail [_] 18 [] rfl (by kernel_rfl) ?_
          have HR4 := Lib.hid ((HR3.out.alloc (.cells #[.int .i64 a, .int .i64 1, .int .i64 b, .int .i64 n, .int .i64 c, .int .i64 n] 66)).drew)
          have HN4 := Lib.hid (Cr.new3 HS3.out 66 #[.int .i64 a, .int .i64 1, .int .i64 b, .int .i64 n, .int .i64 c, .int .i64 n])
          have HB4 := Lib.hid ((HB3.out.alloc (by rw [HS3.out]; omega) (.cells #[.int .i64 a, .int .i64 1, .int .i64 b, .int .i64 n, .int .i64 c, .int .i64 n] 66)).drew)
          clear hHeld
          generalize (W3.alloc (.cells #[.int .i64 a, .int .i64 1, .int .i64 b, .int .i64 n, .int .i64 c, .int .i64 n] 66)).drew = W4 at HR4 HN4 HB4 ⊢
          have q0 := HR4.out.cell 0
          have q1 := HR4.out.cell 1
          have fq0 := HR4.out.frozen 0
          have fq1 := HR4.out.frozen 1
          go_wp2
          refine bodyPost_ret (v := .tuple #[.slice (some ⟨w.heap.size + 1 + 1 + 1, 0, none⟩) 3 3, .agg #[.int .i64 a, .int .i64 1]]) (by simp [results, Try.results27, go_sem, q0, q1]) rfl ?_
          rw [show (Value.agg #[.int .i64 a, .int .i64 1]) = Cr.pairV (a, 1) from rfl, ← HW.out]
          exact Cr.spans_some (k := 3) HR.out rfl (by omega) (by omega) (Cr.laid2 HB4.out HN4.out (by omega) _ _)
        · by_cases h5 : d = 14
          · have hr : AdjC.reads ⟨d, a, b, c, n, v⟩ = [(a, n), (b, n)] := by unfold AdjC.reads; rw [if_neg h1, if_neg h2, if_neg h3, if_neg h4, if_pos h5]
            have hw : AdjC.write ⟨d, a, b, c, n, v⟩ = ((a, n) : Int × Int) := by unfold AdjC.write; rw [if_neg h1, if_neg h2, if_neg h3, if_neg h4, if_pos h5]
            have HR := Lib.hid hr
            have HW := Lib.hid hw
            clear hr hw
            subst h5
            clear h1 h2 h3 h4
            go_enter Try.func27, Try.ntmps27
            go_wp2
            try rw [H3.out]
            have hc := HC.out
            refine wp_region_T (Cr.Sel w a b c n) 9 (fun _ => True) 9 10 rfl (by kernel_rfl) ⟨hc, trivial⟩ (fun hHeld => ?_)
            simp only [List.replicate_succ, List.replicate_zero]
            refine wpT_take 0 58 (v := ?_) hHeld.1 hHeld.2 rfl rfl (by kernel_rfl) (fun _ _ _ h => h) rfl ?_ ?_
            rotate_left
            · (intro w hSw; unfold Cr.Sel at hSw; go_simp; try with_reducible rfl)
            try simp only [Act.put, List.setIfInBounds_toArray, List.set_cons_zero, List.set_cons_succ]
            refine wpT_take 1 59 (v := ?_) hHeld.1 hHeld.2 rfl rfl (by kernel_rfl) (fun _ _ _ h => h) rfl ?_ ?_
            rotate_left
            · (intro w hSw; unfold Cr.Sel at hSw; go_simp; try with_reducible rfl)
            try simp only [Act.put, List.setIfInBounds_toArray, List.set_cons_zero, List.set_cons_succ]
            refine wpT_take 2 60 (v := ?_) hHeld.1 hHeld.2 rfl rfl (by kernel_rfl) (fun _ _ _ h => h) rfl ?_ ?_
            rotate_left
            · (intro w hSw; unfold Cr.Sel at hSw; go_simp; try with_reducible rfl)
            try simp only [Act.put, List.setIfInBounds_toArray, List.set_cons_zero, List.set_cons_succ]
            refine wpT_take 3 61 (v := ?_) hHeld.1 hHeld.2 rfl rfl (by kernel_rfl) (fun _ _ _ h => h) rfl ?_ ?_
            rotate_left
            · (intro w hSw; unfold Cr.Sel at hSw; go_simp; try with_reducible rfl)
            try simp only [Act.put, List.setIfInBounds_toArray, List.set_cons_zero, List.set_cons_succ]
            refine wpT_take 4 62 (v := ?_) hHeld.1 hHeld.2 rfl rfl (by kernel_rfl) (fun _ _ _ h => h) rfl ?_ ?_
            rotate_left
            · (intro w hSw; unfold Cr.Sel at hSw; go_simp; try with_reducible rfl)
            try simp only [Act.put, List.setIfInBounds_toArray, List.set_cons_zero, List.set_cons_succ]
            refine wpT_take 5 63 (v := ?_) hHeld.1 hHeld.2 rfl rfl (by kernel_rfl) (fun _ _ _ h => h) rfl ?_ ?_
            rotate_left
            · (intro w hSw; unfold Cr.Sel at hSw; go_simp; try with_reducible rfl)
            try simp only [Act.put, List.setIfInBounds_toArray, List.set_cons_zero, List.set_cons_succ]
            refine wpT_take 7 65 (v := ?_) hHeld.1 hHeld.2 rfl rfl (by kernel_rfl) (fun _ _ _ h => h) rfl ?_ ?_
            rotate_left
            · (intro w hSw; unfold Cr.Sel at hSw; go_simp; try with_reducible rfl)
            try simp only [Act.put, List.setIfInBounds_toArray, List.set_cons_zero, List.set_cons_succ]
            refine wpT_one 6 (by kernel_rfl) (stepT_early rfl rfl (fun K hK => ?_))
            go_simp
            try rw [HS3.out]
            refine hK.out _ _ ⟨Cr.sel_alloc hHeld.1 (by simp [HS3.out]) _, trivial⟩ (fun hHeld2 => ?_)
            clear hK K hHeld
            have hHeld := hHeld2
            clear hHeld2
            try simp only [List.setIfInBounds_toArray, List.set_cons_zero, List.set_cons_succ]
            refine wpT_one 8 (by kernel_rfl) (stepT_early rfl rfl (fun K hK => ?_))
            go_simp
            refine hK.out _ _ hHeld (fun hHeld2 => ?_)
            clear hK K
            try simp only [List.setIfInBounds_toArray, List.set_cons_zero, List.set_cons_succ]
            refine wpT_tail [_] 9 [] rfl (by kernel_rfl) ?_
            have HR4 := Lib.hid ((HR3.out.alloc (.cells #[.int .i64 a, .int .i64 n, .int .i64 b, .int .i64 n] 66)).drew)
            have HN4 := Lib.hid (Cr.new3 HS3.out 66 #[.int .i64 a, .int .i64 n, .int .i64 b, .int .i64 n])
            have HB4 := Lib.hid ((HB3.out.alloc (by rw [HS3.out]; omega) (.cells #[.int .i64 a, .int .i64 n, .int .i64 b, .int .i64 n] 66)).drew)
            clear hHeld
            generalize (W3.alloc (.cells #[.int .i64 a, .int .i64 n, .int .i64 b, .int .i64 n] 66)).drew = W4 at HR4 HN4 HB4 ⊢
            have q0 := HR4.out.cell 0
            have q1 := HR4.out.cell 1
            have fq0 := HR4.out.frozen 0
            have fq1 := HR4.out.frozen 1
            go_wp2
            refine bodyPost_ret (v := .tuple #[.slice (some ⟨w.heap.size + 1 + 1 + 1, 0, none⟩) 2 2, .agg #[.int .i64 a, .int .i64 n]]) (by simp [results, Try.results27, go_sem, q0, q1]) rfl ?_
            rw [show (Value.agg #[.int .i64 a, .int .i64 n]) = Cr.pairV (a, n) from rfl, ← HW.out]
            exact Cr.spans_some (k := 2) HR.out rfl (by omega) (by omega) (Cr.laid2 HB4.out HN4.out (by omega) _ _)
          · by_cases h6 : d = 3 ∨ d = 4
            · have hr : AdjC.reads ⟨d, a, b, c, n, v⟩ = ([] : List (Int × Int)) := by unfold AdjC.reads; rw [if_neg h1, if_neg h2, if_neg h3, if_neg h4, if_neg h5, if_pos h6]
              have hw : AdjC.write ⟨d, a, b, c, n, v⟩ = ((0, 0) : Int × Int) := by unfold AdjC.write; rw [if_neg h1, if_neg h2, if_neg h3, if_neg h4, if_neg h5, if_pos h6]
              have HR := Lib.hid hr
              have HW := Lib.hid hw
              clear hr hw
              clear h1 h2 h3 h4 h5
              rcases h6 with rfl | rfl
              all_goals
                go_enter Try.func27, Try.ntmps27
                go_wp2
                try rw [H3.out]
                have hc := HC.out
                have q0 := HR3.out.cell 0
                have q1 := HR3.out.cell 1
                have fq0 := HR3.out.frozen 0
                have fq1 := HR3.out.frozen 1
                go_wp2
                refine bodyPost_ret (v := .tuple #[.slice none 0 0, .agg #[.int .i64 0, .int .i64 0]]) (by simp [results, Try.results27, go_sem, q0, q1]) rfl ?_
                rw [show (Value.agg #[.int .i64 0, .int .i64 0]) = Cr.pairV (0, 0) from rfl, ← HW.out]
                exact Cr.spans_none HR.out HB3.out
            · have hr : AdjC.reads ⟨d, a, b, c, n, v⟩ = [(b, n), (c, n)] := by unfold AdjC.reads; rw [if_neg h1, if_neg h2, if_neg h3, if_neg h4, if_neg h5, if_neg h6]
              have hw : AdjC.write ⟨d, a, b, c, n, v⟩ = ((a, n) : Int × Int) := by unfold AdjC.write; rw [if_neg h1, if_neg h2, if_neg h3, if_neg h4, if_neg h5, if_neg h6]
              have HR := Lib.hid hr
              have HW := Lib.hid hw
              clear hr hw
              have t1 : (d == 1) = false := by simp; omega
              have t2 : (d == 5) = false := by simp; omega
              have t3 : (d == 2) = false := by simp; omega
              have t4 : (d == 11) = false := by simp; omega
              have t5 : (d == 12) = false := by simp; omega
              have t6 : (d == 13) = false := by simp; omega
              have t7 : (d == 14) = false := by simp; omega
              have t8 : (d == 3) = false := by simp; omega
              have t9 : (d == 4) = false := by simp; omega
              clear h1 h2 h3 h4 h5 h6
              go_enter Try.func27, Try.ntmps27
              go_wp2
              try rw [H3.out]
              have hc := HC.out
              refine wp_region_T (Cr.Sel w a b c n) 13 (fun _ => True) 13 14 rfl (by kernel_rfl) ⟨hc, trivial⟩ (fun hHeld => ?_)
              simp only [List.replicate_succ, List.replicate_zero]
              refine wpT_take 0 70 (v := ?_) hHeld.1 hHeld.2 rfl rfl (by kernel_rfl) (fun _ _ _ h => h) rfl ?_ ?_
              rotate_left
              · (intro w hSw; unfold Cr.Sel at hSw; go_simp; try with_reducible rfl)
              try simp only [Act.put, List.setIfInBounds_toArray, List.set_cons_zero, List.set_cons_succ]
              refine wpT_take 1 71 (v := ?_) hHeld.1 hHeld.2 rfl rfl (by kernel_rfl) (fun _ _ _ h => h) rfl ?_ ?_
              rotate_left
              · (intro w hSw; unfold Cr.Sel at hSw; go_simp; try with_reducible rfl)
              try simp only [Act.put, List.setIfInBounds_toArray, List.set_cons_zero, List.set_cons_succ]
              refine wpT_take 2 72 (v := ?_) hHeld.1 hHeld.2 rfl rfl (by kernel_rfl) (fun _ _ _ h => h) rfl ?_ ?_
              rotate_left
              · (intro w hSw; unfold Cr.Sel at hSw; go_simp; try with_reducible rfl)
              try simp only [Act.put, List.setIfInBounds_toArray, List.set_cons_zero, List.set_cons_succ]
              refine wpT_take 3 73 (v := ?_) hHeld.1 hHeld.2 rfl rfl (by kernel_rfl) (fun _ _ _ h => h) rfl ?_ ?_
              rotate_left
              · (intro w hSw; unfold Cr.Sel at hSw; go_simp; try with_reducible rfl)
              try simp only [Act.put, List.setIfInBounds_toArray, List.set_cons_zero, List.set_cons_succ]
              refine wpT_take 4 74 (v := ?_) hHeld.1 hHeld.2 rfl rfl (by kernel_rfl) (fun _ _ _ h => h) rfl ?_ ?_
              rotate_left
              · (intro w hSw; unfold Cr.Sel at hSw; go_simp; try with_reducible rfl)
              try simp only [Act.put, List.setIfInBounds_toArray, List.set_cons_zero, List.set_cons_succ]
              refine wpT_take 5 75 (v := ?_) hHeld.1 hHeld.2 rfl rfl (by kernel_rfl) (fun _ _ _ h => h) rfl ?_ ?_
              rotate_left
              · (intro w hSw; unfold Cr.Sel at hSw; go_simp; try with_reducible rfl)
              try simp only [Act.put, List.setIfInBounds_toArray, List.set_cons_zero, List.set_cons_succ]
              refine wpT_take 6 76 (v := ?_) hHeld.1 hHeld.2 rfl rfl (by kernel_rfl) (fun _ _ _ h => h) rfl ?_ ?_
              rotate_left
              · (intro w hSw; unfold Cr.Sel at hSw; go_simp; try with_reducible rfl)
              try simp only [Act.put, List.setIfInBounds_toArray, List.set_cons_zero, List.set_cons_succ]
              refine wpT_take 7 77 (v := ?_) hHeld.1 hHeld.2 rfl rfl (by kernel_rfl) (fun _ _ _ h => h) rfl ?_ ?_
              rotate_left
              · (intro w hSw; unfold Cr.Sel at hSw; go_simp; try with_reducible rfl)
              try simp only [Act.put, List.setIfInBounds_toArray, List.set_cons_zero, List.set_cons_succ]
              refine wpT_take 8 78 (v := ?_) hHeld.1 hHeld.2 rfl rfl (by kernel_rfl) (fun _ _ _ h => h) rfl ?_ ?_
              rotate_left
              · (intro w hSw; unfold Cr.Sel at hSw; go_simp; try with_reducible rfl)
              try simp only [Act.put, List.setIfInBounds_toArray, List.set_cons_zero, List.set_cons_succ]
              refine wpT_take 9 79 (v := ?_) hHeld.1 hHeld.2 rfl rfl (by kernel_rfl) (fun _ _ _ h => h) rfl ?_ ?_
              rotate_left
              · (intro w hSw; unfold Cr.Sel at hSw; go_simp; try with_reducible rfl)
              try simp only [Act.put, List.setIfInBounds_toArray, List.set_cons_zero, List.set_cons_succ]
              refine wpT_take 11 81 (v := ?_) hHeld.1 hHeld.2 rfl rfl (by kernel_rfl) (fun _ _ _ h => h) rfl ?_ ?_
              rotate_left
              · (intro w hSw; unfold Cr.Sel at hSw; go_simp; try with_reducible rfl)
              try simp only [Act.put, List.setIfInBounds_toArray, List.set_cons_zero, List.set_cons_succ]
              refine wpT_one 10 (by kernel_rfl) (stepT_early rfl rfl (fun K hK => ?_))
              go_simp
              try rw [HS3.out]
              refine hK.out _ _ ⟨Cr.sel_alloc hHeld.1 (by simp [HS3.out]) _, trivial⟩ (fun hHeld2 => ?_)
              clear hK K hHeld
              have hHeld := hHeld2
              clear hHeld2
              try simp only [List.setIfInBounds_toArray, List.set_cons_zero, List.set_cons_succ]
              refine wpT_one 12 (by kernel_rfl) (stepT_early rfl rfl (fun K hK => ?_))
              go_simp
              refine hK.out _ _ hHeld (fun hHeld2 => ?_)
              clear hK K
              try simp only [List.setIfInBounds_toArray, List.set_cons_zero, List.set_cons_succ]
              refine wpT_tail [_] 13 [] rfl (by kernel_rfl) ?_
              have HR4 := Lib.hid ((HR3.out.alloc (.cells #[.int .i64 b, .int .i64 n, .int .i64 c, .int .i64 n] 66)).drew)
              have HN4 := Lib.hid (Cr.new3 HS3.out 66 #[.int .i64 b, .int .i64 n, .int .i64 c, .int .i64 n])
              have HB4 := Lib.hid ((HB3.out.alloc (by rw [HS3.out]; omega) (.cells #[.int .i64 b, .int .i64 n, .int .i64 c, .int .i64 n] 66)).drew)
              clear hHeld
              generalize (W3.alloc (.cells #[.int .i64 b, .int .i64 n, .int .i64 c, .int .i64 n] 66)).drew = W4 at HR4 HN4 HB4 ⊢
              have q0 := HR4.out.cell 0
              have q1 := HR4.out.cell 1
              have fq0 := HR4.out.frozen 0
              have fq1 := HR4.out.frozen 1
              go_wp2
              refine bodyPost_ret (v := .tuple #[.slice (some ⟨w.heap.size + 1 + 1 + 1, 0, none⟩) 2 2, .agg #[.int .i64 a, .int .i64 n]]) (by simp [results, Try.results27, go_sem, q0, q1]) rfl ?_
              rw [show (Value.agg #[.int .i64 a, .int .i64 n]) = Cr.pairV (a, n) from rfl, ← HW.out]
              exact Cr.spans_some (k := 2) HR.out rfl (by omega) (by omega) (Cr.laid2 HB4.out HN4.out (by omega) _ _)
end Go.Proofs.Ytlnfmipcbhhkhaa
