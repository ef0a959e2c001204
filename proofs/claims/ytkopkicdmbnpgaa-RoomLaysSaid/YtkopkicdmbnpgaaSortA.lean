/-
  A row of numbers that a call may turn; the walk of slices.swapRangeCmpFunc. Conditions: the row can be written.
-/
import Derived.Test.YtkopkicdmbnpgaaProg
import Derived.Test.YtkopkicdmbnpgaaMem
import Derived.Test.YtkopkicdmbnpgaaInts
import Derived.Test.YtkopkicdmbnpgaaHeld3
import Derived.Test.YtkopkicdmbnpgaaSortPlain
import Derived.Deep.QuietTactic
import Derived.BigQuiet
import Derived.StillTailTactics
import Derived.IntWalk
import Derived.Deep.DeepCutAuto
import Derived.Deep.LoopGhost
namespace Go.Proofs.Ytkopkicdmbnpgaa
set_option linter.unusedVariables false
open Go.RowKit Adj

namespace Sr
/-- All but block g is as it was. -/
structure Fr (w w' : World) (g : Nat) : Prop where
  os : w'.os = w.os
  tape : w'.tape = w.tape
  output : w'.output = w.output
  size : w.heap.size ≤ w'.heap.size
  block : ∀ h, h < w.heap.size → h ≠ g → w'.heap[h]? = w.heap[h]?
section
variable {w w1 w2 : World} {g : Nat}
theorem Fr.refl (w : World) (g : Nat) : Fr w w g := ⟨rfl, rfl, rfl, Nat.le_refl _, fun _ _ _ => rfl⟩
theorem Fr.below (h : Fr w w1 g) (hb : Below w1.heap.size w1 w2) : Fr w w2 g :=
  ⟨hb.os.trans h.os, hb.tape.trans h.tape, hb.output.trans h.output, Nat.le_trans h.size hb.size, fun i h1 h2 => (hb.block i (Nat.lt_of_lt_of_le h1 h.size)).trans (h.block i h1 h2)⟩
theorem Fr.set (h : Fr w w1 g) (j : Nat) (v : Value) : Fr w (w1.setCell ⟨g, j, none⟩ v) g :=
  ⟨h.os, h.tape, h.output, by simpa using h.size, fun i h1 h2 => (Below.heap_setCell w1 ⟨g, j, none⟩ v i h2).trans (h.block i h1 h2)⟩
theorem Fr.from {B : Nat} (h : Fr w w1 g) (hB : B ≤ w.heap.size) (hg : B ≤ g) : Below B w w1 := ⟨h.os, h.tape, h.output, h.size, fun i hi => h.block i (by omega) (by omega)⟩
theorem Fr.trans (h : Fr w w1 g) (h2 : Fr w1 w2 g) : Fr w w2 g :=
  ⟨h2.os.trans h.os, h2.tape.trans h.tape, h2.output.trans h.output, Nat.le_trans h.size h2.size, fun i h1 h3 => (h2.block i (Nat.lt_of_lt_of_le h1 h.size) h3).trans (h.block i h1 h3)⟩
theorem Fr.blk (h : Fr w w1 g) {b : Nat} {t : TypeId} {cs : Array Value} (hb : Blk w b t cs) (hne : b ≠ g) : Blk w1 b t cs := (h.block b hb.lt hne).trans hb
end
/-- The row at block g is d; all else is as it was in w. -/
structure Ro (w : World) (g : Nat) (d : List Int) (wr : World) : Prop where
  fr : Fr w wr g
  lt : g < w.heap.size
  row : ∃ cur, Blk wr g 3 cur ∧ ∀ (j : Nat) (x : Int), d[j]? = some x → cur[j]? = some (.int .i64 x)
section
variable {w wr wr' : World} {g : Nat} {d : List Int}
theorem Ro.below (h : Ro w g d wr) (hb : Below wr.heap.size wr wr') : Ro w g d wr' := by
  obtain ⟨cur, h1, h2⟩ := h.row
  exact ⟨h.fr.below hb, h.lt, cur, h1.below hb h1.lt, h2⟩
theorem Ro.drew (h : Ro w g d wr) : Ro w g d wr.drew := h.below (Below.refl _ _).drew
theorem Ro.drewN (h : Ro w g d wr) (m : Nat) : Ro w g d (wr.drewN m) := h.below (below_drewN (Below.refl _ _) m)
theorem Ro.cell (h : Ro w g d wr) {j : Nat} (hj : j < d.length) : wr.cell? ⟨g, j, none⟩ = some (.int .i64 d[j]) := by
  obtain ⟨cur, h1, h2⟩ := h.row
  rw [h1.cell]; exact h2 j _ (List.getElem?_eq_getElem hj)
theorem Ro.getD (h : Ro w g d wr) {j : Nat} (hj : j < d.length) : wr.cell? ⟨g, j, none⟩ = some (.int .i64 (d.getD j 0)) := by
  rw [h.cell hj, List.getD_eq_getElem?_getD, List.getElem?_eq_getElem hj]; rfl
theorem Ro.frozen (h : Ro w g d wr) (j : Nat) : wr.frozen? ⟨g, j, none⟩ = false := by
  obtain ⟨cur, h1, h2⟩ := h.row
  exact h1.frozen j
theorem Ro.set (h : Ro w g d wr) {j : Nat} (hj : j < d.length) (x : Int) : Ro w g (d.set j x) (wr.setCell ⟨g, j, none⟩ (.int .i64 x)) := by
  obtain ⟨cur, h1, h2⟩ := h.row
  refine ⟨h.fr.set j _, h.lt, _, h1.set_ j _, fun i y hy => ?_⟩
  have hjc : j < cur.size := (Array.getElem?_eq_some_iff.1 (h2 j _ (List.getElem?_eq_getElem hj))).1
  rw [List.getElem?_set] at hy
  rw [Array.getElem?_setIfInBounds]
  by_cases e : j = i
  · rw [if_pos e] at hy ⊢
    rw [if_pos (by omega)] at hy
    rw [if_pos (by omega)]
    simp at hy; rw [hy]
  · rw [if_neg e] at hy ⊢
    exact h2 i y hy
theorem Ro.swap (h : Ro w g d wr) {i j : Nat} (hi : i < d.length) (hj : j < d.length) : Ro w g (AdjS.swap2 d i j) ((wr.setCell ⟨g, i, none⟩ (.int .i64 (d.getD j 0))).setCell ⟨g, j, none⟩ (.int .i64 (d.getD i 0))) :=
  (h.set hi _).set (by simpa using hj) _
end
end Sr

set_option maxRecDepth 100000 in
set_option maxHeartbeats 4000000 in
theorem swapRange_any (w W : World) (g cap : Nat) (P X M Y Q : List Int) (a b n : Int) (mn : Nat) (F : Value) (ha : a = (P.length : Int)) (hb : b = (P.length : Int) + X.length + M.length) (hn : n = (X.length : Int)) (hxy : X.length = Y.length) (hm : mn = P.length + X.length + M.length + Y.length + Q.length) (hbig : mn ≤ 4611686018427387904)
    (h : Sr.Ro w g (P ++ (X ++ (M ++ (Y ++ Q)))) W) :
    Calls Try.prog 100 #[.slice (some ⟨g, 0, none⟩) mn cap, .int .i64 a, .int .i64 b, .int .i64 n, F] W fun e w' => e = .returned (.tuple #[]) ∧ Sr.Ro w g (P ++ (Y ++ (M ++ (X ++ Q)))) w' := by
  obtain ⟨pl, hpl⟩ : ∃ pl, P.length = pl := ⟨_, rfl⟩
  obtain ⟨xl, hxl⟩ : ∃ xl, X.length = xl := ⟨_, rfl⟩
  obtain ⟨ml, hml⟩ : ∃ ml, M.length = ml := ⟨_, rfl⟩
  have HMN := Lib.hid hm
  obtain rfl : n = (xl : Int) := by omega
  obtain rfl : a = (pl : Int) := by omega
  obtain rfl : b = ((pl + xl + ml : Nat) : Int) := by omega
  have hle : pl + xl + ml + xl ≤ mn := by omega
  have hbig2 : mn ≤ 4611686018427387904 := by omega
  have HPL := Lib.hid (And.intro hpl (And.intro hxl (And.intro hml hxy)))
  have HS := Lib.hid h
  obtain ⟨bb, hbb⟩ : ∃ bb, pl + xl + ml = bb := ⟨_, rfl⟩
  have HBB := Lib.hid hbb
  rw [hbb]
  have hbl : pl + xl ≤ bb := by omega
  have hle2 : bb + xl ≤ mn := by omega
  clear h hpl hxl hml hxy hb hm hbb hle hbig ha hn
  go_enter Try.func100, Try.ntmps100
  go_wp2_with fail
  go_loopw [10] (fun i wr => ∃ j : Nat, j ≤ xl ∧ i = .int .i64 (j : Int) ∧ Sr.Ro w g (AdjS.part P X M Y Q j) wr) (fun i _ => xl - (intOf i).toNat)
  case atStart => exact ⟨0, by omega, rfl, by rw [AdjS.part_zero]; exact HS.out⟩
  case round =>
    obtain ⟨j, hj, rfl, hr⟩ := hrel
    have HR := Lib.hid hr
    clear hr
    by_cases hlt : j < xl
    · have HDL := Lib.hid (show (AdjS.part P X M Y Q j).length = mn by rw [AdjS.part_length P X M Y Q HPL.out.2.2.2 j (by have := HPL.out.2.1; omega)]; have := HMN.out; omega)
      have HNX := Lib.hid (show AdjS.swap2 (AdjS.part P X M Y Q j) (pl + j) (bb + j) = AdjS.part P X M Y Q (j + 1) by
        have h := AdjS.part_next P X M Y Q HPL.out.2.2.2 (i := j) (by have := HPL.out.2.1; omega)
        obtain ⟨e1, e2, e3, _⟩ := HPL.out
        rw [e1, e2, e3, HBB.out] at h
        exact h)
      obtain ⟨dj, hdj⟩ : ∃ dj, AdjS.part P X M Y Q j = dj := ⟨_, rfl⟩
      rw [hdj] at HR HDL HNX
      clear hdj
      have h1 := HR.out.getD (j := bb + j) (by have := HDL.out; omega)
      have h2 := HR.out.getD (j := pl + j) (by have := HDL.out; omega)
      have w1 : IntKind.i64.wrap ((pl : Int) + (j : Int)) = (pl : Int) + (j : Int) := IntWalk.i64_in _ (by omega)
      have i1 : (0 : Int) ≤ (pl : Int) + (j : Int) := by omega
      have i2 : (pl : Int) + (j : Int) < (mn : Int) := by omega
      have i3 : ((pl : Int) + (j : Int)).toNat = pl + j := by omega
      have w2 : IntKind.i64.wrap ((bb : Int) + (j : Int)) = (bb : Int) + (j : Int) := IntWalk.i64_in _ (by omega)
      have i4 : (0 : Int) ≤ (bb : Int) + (j : Int) := by omega
      have i5 : (bb : Int) + (j : Int) < (mn : Int) := by omega
      have i6 : ((bb : Int) + (j : Int)).toNat = bb + j := by omega
      go_wp2_with fail
      refine wp_region_T (fun w' => w'.cell? ⟨g, bb + j, none⟩ = some (.int .i64 (dj.getD (bb + j) 0)) ∧ w'.cell? ⟨g, pl + j, none⟩ = some (.int .i64 (dj.getD (pl + j) 0))) 20 (fun _ => True) 20 24 rfl (by kernel_rfl) ⟨⟨h1, h2⟩, trivial⟩ (fun hHeld => ?_)
      simp only [List.replicate_succ, List.replicate_zero]
      refine wpT_take 0 16 (v := ?_) hHeld.1 hHeld.2 rfl rfl (by kernel_rfl) (fun _ _ _ h => h) rfl ?_ ?_
      rotate_left
      · (intro w hSw; (try dsimp only at hSw); go_simp; try with_reducible rfl)
      try simp only [Act.put, List.setIfInBounds_toArray, List.set_cons_zero, List.set_cons_succ]
      refine wpT_take 1 17 (v := ?_) hHeld.1 hHeld.2 rfl rfl (by kernel_rfl) (fun _ _ _ h => h) rfl ?_ ?_
      rotate_left
      · (intro w hSw; (try dsimp only at hSw); go_simp; try with_reducible rfl)
      try simp only [Act.put, List.setIfInBounds_toArray, List.set_cons_zero, List.set_cons_succ]
      refine wpT_take 2 18 (v := ?_) hHeld.1 hHeld.2 rfl rfl (by kernel_rfl) (fun _ _ _ h => h) rfl ?_ ?_
      rotate_left
      · (intro w hSw; (try dsimp only at hSw); go_simp; try with_reducible rfl)
      try simp only [Act.put, List.setIfInBounds_toArray, List.set_cons_zero, List.set_cons_succ]
      refine wpT_take 3 19 (v := ?_) hHeld.1 hHeld.2 rfl rfl (by kernel_rfl) (fun _ _ _ h => h) rfl ?_ ?_
      rotate_left
      · (intro w hSw; (try dsimp only at hSw); go_simp; try with_reducible rfl)
      try simp only [Act.put, List.setIfInBounds_toArray, List.set_cons_zero, List.set_cons_succ]
      refine wpT_takeP 4 20 (v := ?_) ⟨fun _ => hHeld.1, fun _ => hHeld.2⟩ rfl rfl (by kernel_rfl) (fun _ _ _ h => h) rfl ?_ ?_
      rotate_left
      · (intro w; go_simp; try with_reducible rfl)
      try simp only [Act.put, List.setIfInBounds_toArray, List.set_cons_zero, List.set_cons_succ]
      refine wpT_takeP 5 21 (v := ?_) ⟨fun _ => hHeld.1, fun _ => hHeld.2⟩ rfl rfl (by kernel_rfl) (fun _ _ _ h => h) rfl ?_ ?_
      rotate_left
      · (intro w; go_simp; try with_reducible rfl)
      try simp only [Act.put, List.setIfInBounds_toArray, List.set_cons_zero, List.set_cons_succ]
      refine wpT_takeP 6 22 (v := ?_) ⟨fun _ => hHeld.1, fun _ => hHeld.2⟩ rfl rfl (by kernel_rfl) (fun _ _ _ h => h) rfl ?_ ?_
      rotate_left
      · (intro w; go_simp; try with_reducible rfl)
      try simp only [Act.put, List.setIfInBounds_toArray, List.set_cons_zero, List.set_cons_succ]
      refine wpT_takeP 7 23 (v := ?_) ⟨fun _ => hHeld.1, fun _ => hHeld.2⟩ rfl rfl (by kernel_rfl) (fun _ _ _ h => h) rfl ?_ ?_
      rotate_left
      · (intro w; go_simp; try with_reducible rfl)
      try simp only [Act.put, List.setIfInBounds_toArray, List.set_cons_zero, List.set_cons_succ]
      refine wpT_take 8 24 (v := ?_) hHeld.1 hHeld.2 rfl rfl (by kernel_rfl) (fun _ _ _ h => h) rfl ?_ ?_
      rotate_left
      · (intro w hSw; (try dsimp only at hSw); go_simp; try with_reducible rfl)
      try simp only [Act.put, List.setIfInBounds_toArray, List.set_cons_zero, List.set_cons_succ]
      refine wpT_take 9 25 (v := ?_) hHeld.1 hHeld.2 rfl rfl (by kernel_rfl) (fun _ _ _ h => h) rfl ?_ ?_
      rotate_left
      · (intro w hSw; (try dsimp only at hSw); go_simp; try with_reducible rfl)
      try simp only [Act.put, List.setIfInBounds_toArray, List.set_cons_zero, List.set_cons_succ]
      refine wpT_take 10 26 (v := ?_) hHeld.1 hHeld.2 rfl rfl (by kernel_rfl) (fun _ _ _ h => h) rfl ?_ ?_
      rotate_left
      · (intro w hSw; (try dsimp only at hSw); go_simp; try with_reducible rfl)
      try simp only [Act.put, List.setIfInBounds_toArray, List.set_cons_zero, List.set_cons_succ]
      refine wpT_take 11 27 (v := ?_) hHeld.1 hHeld.2 rfl rfl (by kernel_rfl) (fun _ _ _ h => h) rfl ?_ ?_
      rotate_left
      · (intro w hSw; (try dsimp only at hSw); go_simp; try with_reducible rfl)
      try simp only [Act.put, List.setIfInBounds_toArray, List.set_cons_zero, List.set_cons_succ]
      refine wpT_take 12 28 (v := ?_) hHeld.1 hHeld.2 rfl rfl (by kernel_rfl) (fun _ _ _ h => h) rfl ?_ ?_
      rotate_left
      · (intro w hSw; (try dsimp only at hSw); go_simp; try with_reducible rfl)
      try simp only [Act.put, List.setIfInBounds_toArray, List.set_cons_zero, List.set_cons_succ]
      refine wpT_take 13 29 (v := ?_) hHeld.1 hHeld.2 rfl rfl (by kernel_rfl) (fun _ _ _ h => h) rfl ?_ ?_
      rotate_left
      · (intro w hSw; (try dsimp only at hSw); go_simp; try with_reducible rfl)
      try simp only [Act.put, List.setIfInBounds_toArray, List.set_cons_zero, List.set_cons_succ]
      refine wpT_takeP 14 30 (v := ?_) ⟨fun _ => hHeld.1, fun _ => hHeld.2⟩ rfl rfl (by kernel_rfl) (fun _ _ _ h => h) rfl ?_ ?_
      rotate_left
      · (intro w; go_simp; try with_reducible rfl)
      try simp only [Act.put, List.setIfInBounds_toArray, List.set_cons_zero, List.set_cons_succ]
      refine wpT_takeP 15 31 (v := ?_) ⟨fun _ => hHeld.1, fun _ => hHeld.2⟩ rfl rfl (by kernel_rfl) (fun _ _ _ h => h) rfl ?_ ?_
      rotate_left
      · (intro w; go_simp; try with_reducible rfl)
      try simp only [Act.put, List.setIfInBounds_toArray, List.set_cons_zero, List.set_cons_succ]
      refine wpT_takeP 16 32 (v := ?_) ⟨fun _ => hHeld.1, fun _ => hHeld.2⟩ rfl rfl (by kernel_rfl) (fun _ _ _ h => h) rfl ?_ ?_
      rotate_left
      · (intro w; go_simp; try with_reducible rfl)
      try simp only [Act.put, List.setIfInBounds_toArray, List.set_cons_zero, List.set_cons_succ]
      refine wpT_takeP 17 33 (v := ?_) ⟨fun _ => hHeld.1, fun _ => hHeld.2⟩ rfl rfl (by kernel_rfl) (fun _ _ _ h => h) rfl ?_ ?_
      rotate_left
      · (intro w; go_simp; try with_reducible rfl)
      try simp only [Act.put, List.setIfInBounds_toArray, List.set_cons_zero, List.set_cons_succ]
      refine wpT_takeP 18 34 (v := ?_) ⟨fun _ => hHeld.1, fun _ => hHeld.2⟩ rfl rfl (by kernel_rfl) (fun _ _ _ h => h) rfl ?_ ?_
      rotate_left
      · (intro w; go_simp; try with_reducible rfl)
      try simp only [Act.put, List.setIfInBounds_toArray, List.set_cons_zero, List.set_cons_succ]
      refine wpT_take 19 35 (v := ?_) hHeld.1 hHeld.2 rfl rfl (by kernel_rfl) (fun _ _ _ h => h) rfl ?_ ?_
      rotate_left
      · (intro w hSw; (try dsimp only at hSw); go_simp; try with_reducible rfl)
      try simp only [Act.put, List.setIfInBounds_toArray, List.set_cons_zero, List.set_cons_succ]
      have HJD := Lib.hid HR.out.drew
      generalize wr.drew = wd at HJD hHeld ⊢
      have HSW := Lib.hid (HJD.out.swap (i := pl + j) (j := bb + j) (by have := HDL.out; omega) (by have := HDL.out; omega))
      have f1 := HJD.out.frozen (pl + j)
      have q1 := HJD.out.getD (j := pl + j) (by have := HDL.out; omega)
      have f2 := HJD.out.frozen (bb + j)
      have q2 := HJD.out.getD (j := bb + j) (by have := HDL.out; omega)
      refine wpT_tail [_, _, _, _] 20 [21, 22, 23] rfl (by kernel_rfl) ?_
      clear hHeld h1 h2
      go_wp2_with fail
      go_roundw
      case rel => exact ⟨j + 1, by omega, by go_num, by rw [← HNX.out]; exact HSW.out⟩
      case measure => simp [intOf]; omega
    · obtain rfl : j = xl := by omega
      go_wp2_with fail
      go_end0
      refine ⟨rfl, ?_⟩
      have h := HR.out
      obtain ⟨e1, e2, e3, e4⟩ := HPL.out
      rw [← e2, AdjS.part_all P X M Y Q e4] at h
      exact h

set_option maxRecDepth 100000 in
set_option maxHeartbeats 4000000 in
theorem rotate_any (w W : World) (g cap : Nat) (P L R Q : List Int) (a m b : Int) (mn : Nat) (F : Value) (ha : a = (P.length : Int)) (hm : m = (P.length : Int) + L.length) (hb : b = (P.length : Int) + L.length + R.length) (hn : mn = P.length + L.length + R.length + Q.length) (hbig : mn ≤ 4611686018427387904) (hl : 0 < L.length) (hr : 0 < R.length)
    (h : Sr.Ro w g (P ++ (L ++ (R ++ Q))) W) :
    Calls Try.prog 84 #[.slice (some ⟨g, 0, none⟩) mn cap, .int .i64 a, .int .i64 m, .int .i64 b, F] W fun e w' => e = .returned (.tuple #[]) ∧ Sr.Ro w g (P ++ (R ++ (L ++ Q))) w' := by
  obtain ⟨pl, hpl⟩ : ∃ pl, P.length = pl := ⟨_, rfl⟩
  obtain ⟨ll, hll⟩ : ∃ ll, L.length = ll := ⟨_, rfl⟩
  obtain ⟨rl, hrl⟩ : ∃ rl, R.length = rl := ⟨_, rfl⟩
  obtain rfl : a = (pl : Int) := by omega
  obtain rfl : m = ((pl + ll : Nat) : Int) := by omega
  obtain rfl : b = ((pl + ll + rl : Nat) : Int) := by omega
  have HPL := Lib.hid (And.intro hpl (And.intro hll hrl))
  have HN := Lib.hid hn
  obtain ⟨mm, hmm⟩ : ∃ mm, pl + ll = mm := ⟨_, rfl⟩
  obtain ⟨bb, hbb⟩ : ∃ bb, pl + ll + rl = bb := ⟨_, rfl⟩
  rw [hbb, hmm]
  have HMM := Lib.hid (And.intro hmm hbb)
  have h1 : pl < mm := by omega
  have h2 : mm < bb := by omega
  have h3 : bb ≤ mn := by omega
  have HS := Lib.hid h
  clear h hpl hll hrl ha hm hb hn hl hr hmm hbb
  go_enter Try.func84, Try.ntmps84
  go_wp2_with fail
  go_loopw [10, 11] (fun i j wr => ∃ P' U V Q' : List Int, i = .int .i64 (U.length : Int) ∧ j = .int .i64 (V.length : Int) ∧ (0 < U.length ∧ 0 < V.length ∧ P'.length + U.length = mm ∧ mn = P'.length + U.length + V.length + Q'.length) ∧ P' ++ (V ++ (U ++ Q')) = P ++ (R ++ (L ++ Q)) ∧ Sr.Ro w g (P' ++ (U ++ (V ++ Q'))) wr) (fun i j _ => (intOf i).toNat + (intOf j).toNat)
  case atStart =>
    obtain ⟨e1, e2, e3⟩ := HPL.out
    obtain ⟨e4, e5⟩ := HMM.out
    exact ⟨P, L, R, Q, by congr 1; omega, by congr 1; omega, ⟨by omega, by omega, by omega, HN.out⟩, rfl, HS.out⟩
  case round =>
    obtain ⟨P', U, V, Q', rfl, rfl, ⟨z1, z2, z3, z4⟩, ht, hr⟩ := hrel
    have HR := Lib.hid hr
    have HT := Lib.hid ht
    have HZ := Lib.hid (And.intro z3 z4)
    have hu : U.length ≤ mm := by omega
    have hv : mm + V.length ≤ mn := by omega
    clear hr ht z3 z4
    by_cases hgt : V.length < U.length
    · have HC := Lib.hid (swapRange_any w wr g cap P' (U.take V.length) (U.drop V.length) V Q' ((mm : Int) - (U.length : Int)) (mm : Int) (V.length : Int) mn F (by have := HZ.out; omega) (by have := HZ.out; rw [List.length_take, List.length_drop]; omega) (by rw [List.length_take]; omega) (by rw [List.length_take]; omega) (by have := HZ.out; rw [List.length_take, List.length_drop]; omega) hbig
        (by rw [← List.append_assoc (U.take V.length), List.take_append_drop]; exact HR.out))
      go_wp2_with fail
      ((with_reducible refine HC.out.mono ?_); rintro e w5 ⟨rfl, hr5⟩)
      have HR5 := Lib.hid hr5
      clear hr5
      go_wp2_with fail
      go_roundw
      case rel =>
        refine ⟨P' ++ V, U.drop V.length, U.take V.length, Q', by rw [List.length_drop]; congr 1; omega, by rw [List.length_take]; congr 1; omega, ⟨by rw [List.length_drop]; omega, by rw [List.length_take]; omega, by have := HZ.out; rw [List.length_append, List.length_drop]; omega, by have := HZ.out; rw [List.length_append, List.length_drop, List.length_take]; omega⟩, ?_, ?_⟩
        · rw [← HT.out, List.append_assoc, ← List.append_assoc (U.take V.length), List.take_append_drop]
        · rw [List.append_assoc]; exact HR5.out
      case measure => simp [intOf]; omega
    · by_cases hlt : U.length < V.length
      · have HC := Lib.hid (swapRange_any w wr g cap P' U (V.take (V.length - U.length)) (V.drop (V.length - U.length)) Q' ((mm : Int) - (U.length : Int)) ((mm : Int) + (V.length : Int) - (U.length : Int)) (U.length : Int) mn F (by have := HZ.out; omega) (by have := HZ.out; rw [List.length_take]; omega) rfl (by rw [List.length_drop]; omega) (by have := HZ.out; rw [List.length_take, List.length_drop]; omega) hbig
          (by rw [← List.append_assoc (V.take _), List.take_append_drop]; exact HR.out))
        go_wp2_with fail
        ((with_reducible refine HC.out.mono ?_); rintro e w5 ⟨rfl, hr5⟩)
        have HR5 := Lib.hid hr5
        clear hr5
        go_wp2_with fail
        go_roundw
        case rel =>
          refine ⟨P', V.drop (V.length - U.length), V.take (V.length - U.length), U ++ Q', by rw [List.length_drop]; congr 1; omega, by rw [List.length_take]; congr 1; omega, ⟨by rw [List.length_drop]; omega, by rw [List.length_take]; omega, by have := HZ.out; rw [List.length_drop]; omega, by have := HZ.out; rw [List.length_append, List.length_drop, List.length_take]; omega⟩, ?_, HR5.out⟩
          rw [← HT.out, ← List.append_assoc (V.take _), List.take_append_drop]
        case measure => simp [intOf]; omega
      · have heq : U.length = V.length := by omega
        have HE := Lib.hid heq
        have HC := Lib.hid (swapRange_any w wr g cap P' U [] V Q' ((mm : Int) - (U.length : Int)) (mm : Int) (U.length : Int) mn F (by have := HZ.out; omega) (by have := HZ.out; simp only [List.length_nil]; omega) rfl heq (by have := HZ.out; simp only [List.length_nil]; omega) hbig HR.out)
        have q0 : ((U.length : Int) != (V.length : Int)) = false := by simp; omega
        clear heq hgt hlt
        go_wp2_with fail
        ((with_reducible refine HC.out.mono ?_); rintro e w5 ⟨rfl, hr5⟩)
        have HR5 := Lib.hid hr5
        clear hr5
        go_wp2_with fail
        go_end0
        refine ⟨rfl, ?_⟩
        rw [← HT.out]; exact HR5.out
end Go.Proofs.Ytkopkicdmbnpgaa
