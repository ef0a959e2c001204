/-
  The walk of slices.Insert of one, where the row must grow. Conditions: the row is the call's own; what is put in lies elsewhere.
-/
import Derived.Test.YtkopkicdmbnpgaaRoomZc
namespace Go.Proofs.Ytkopkicdmbnpgaa
set_option linter.unusedVariables false
open Go.RowKit Adj

namespace Ld
theorem row_put (X : List Value) (o : Nat) (cs : List Value) (h : o ≤ X.length) : (X.take o ++ cs ++ X.drop (o + cs.length)).take (o + cs.length) = X.take o ++ cs := by
  refine List.take_left' ?_
  rw [List.length_append, List.length_take]; omega
theorem row_len (X : List Value) (o : Nat) (cs : List Value) (h : o + cs.length ≤ X.length) : (X.take o ++ cs ++ X.drop (o + cs.length)).length = X.length := by
  rw [List.length_append, List.length_append, List.length_take, List.length_drop]; omega
theorem row_keep (X : List Value) (o p : Nat) (cs : List Value) (h : p ≤ o) (h2 : o ≤ X.length) : (X.take o ++ cs ++ X.drop (o + cs.length)).take p = X.take p := by
  rw [List.append_assoc, List.take_append_of_le_length (by rw [List.length_take]; omega), List.take_take]
  congr 1; omega
end Ld

set_option maxRecDepth 100000 in
set_option maxHeartbeats 4000000 in
theorem insert_grow (w : World) (base : Nat) (L : List AdjL.Laid) (v : Value) (y : AdjL.Laid) (gv k n g : Nat) (hn : L.length = n) (hk : k < n) (hbig : n ≤ 1048576) (hb0 : base ≤ w.heap.size)
    (h : w.ownsRow base 78 3 (.slice (some ⟨g, 0, none⟩) n n) n (Adj.ints (Ld.lints L))) (hgv : Blk w gv 78 (Ld.three' y).toArray) :
    Calls Try.prog 49 #[.slice (some ⟨g, 0, none⟩) n n, .int .i64 (k : Int), .slice (some ⟨gv, 0, none⟩) 1 1] w fun e w' => ∃ v', e = .returned v' ∧ Ld.Kp base w w' (.slice (some ⟨g, 0, none⟩) n n) ∧ w'.ownsRow base 78 3 v' (Ld.putAt L k y).length (Adj.ints (Ld.lints (Ld.putAt L k y))) := by
  obtain ⟨i0, hi0, hz0, hz1, hz2⟩ := info_parts Try.infoLaid
  have hcell : ∀ j u, (Adj.ints (Ld.lints L))[j]? = some u → w.cell? ⟨g, j, none⟩ = some u := fun j u hu => by
    have h2 := h.cells (g := g) rfl j u hu
    unfold Addr.add at h2
    split at h2
    · rename_i e; subst e; exact h2
    · simpa using h2
  have hgl := (h.lt g rfl).2
  have hli := Ld.ints_len L
  have hlt : (Adj.ints (Ld.lints (L.take k))).length = k * 3 := by rw [Ld.ints_len, List.length_take]; congr 1; omega
  have hld : (Adj.ints (Ld.lints (L.drop k))).length = (n - k) * 3 := by rw [Ld.ints_len, List.length_drop, hn]
  have hsp := Ld.split_cells L k
  have hct : ∀ j u, (Adj.ints (Ld.lints (L.take k)))[j]? = some u → w.cell? ⟨g, j, none⟩ = some u := fun j u hu => hcell j u (by
    have hl := (List.getElem?_eq_some_iff.1 hu).1
    rw [hsp, List.getElem?_append_left hl]; exact hu)
  have hcd : ∀ j u, (Adj.ints (Ld.lints (L.drop k)))[j]? = some u → w.cell? ⟨g, k * 3 + j, none⟩ = some u := fun j u hu => hcell _ u (by
    rw [hsp, List.getElem?_append_right (by omega), hlt, show k * 3 + j - k * 3 = j by omega]; exact hu)
  have hold : (Builtin.firstCells i0.size k (.slice (some ⟨g, 0, none⟩) k n)).run Try.prog w.drew = .ok (Adj.ints (Ld.lints (L.take k))).toArray w.drew := by
    rw [hz1]
    exact run_firstCells_some w.drew 3 k ⟨g, 0, none⟩ k n _ (by rw [hlt]) (fun j u hj => by
      have h2 := hct j u hj
      unfold Addr.add
      split
      · rename_i e; subst e; exact h2
      · simpa using h2)
  have hrz : ∀ ty, (Builtin.append_ #[75, 3] ty #[.slice (some ⟨g, 0, none⟩) k n, .int .i64 ((n : Int) + 1 - (k : Int))]).run Try.prog w =
      .ok (.slice (some ⟨w.heap.size, 0, none⟩) (n + 1) (grownCap w (n + 1) n 78)) (w.drew.alloc (.cells ((Adj.ints (Ld.lints (L.take k))).toArray ++ Builtin.zeroCells (Value.agg #[.int .i64 0, .int .i64 0, .int .i64 0]).cells (n + 1 - k) ++ Builtin.zeroCells (Value.agg #[.int .i64 0, .int .i64 0, .int .i64 0]).cells (grownCap w (n + 1) n 78 - (n + 1))) 78)) := fun ty => by
    have h := Lib.run_append_grow_zeros w 75 3 ty 78 i0 _ .i64 .i64 Try.underlying75 Try.underlying3 hi0 hz0 (some ⟨g, 0, none⟩) k n _ hold (n + 1 - k) (by omega) (by omega) (by omega) (by omega) (by rw [hz2]; omega) (by rw [hz2, show k + (n + 1 - k) = n + 1 by omega]; exact growslice_fits_wide (by omega) (by omega))
    rw [show k + (n + 1 - k) = n + 1 by omega] at h
    rw [show (n : Int) + 1 - (k : Int) = ((n + 1 - k : Nat) : Int) by omega]
    exact h
  obtain ⟨G, hG⟩ : ∃ G, grownCap w (n + 1) n 78 = G := ⟨_, rfl⟩
  rw [hG] at hrz
  have hGn : n + 1 ≤ G := by rw [← hG]; exact grownCap_ge w _ _ _
  have hGm : G ≤ maxLen := by rw [← hG]; exact grownCap_le_maxLen w (n + 1) n _ (by unfold maxLen; omega)
  obtain ⟨ROW, hROW⟩ : ∃ ROW : Array Value, (Adj.ints (Ld.lints (L.take k))).toArray ++ Builtin.zeroCells (Value.agg #[.int .i64 0, .int .i64 0, .int .i64 0]).cells (n + 1 - k) ++ Builtin.zeroCells (Value.agg #[.int .i64 0, .int .i64 0, .int .i64 0]).cells (G - (n + 1)) = ROW := ⟨_, rfl⟩
  rw [hROW] at hrz
  have hRs : ROW.size = G * 3 := by
    rw [← hROW]
    have := hlt
    simp [Builtin.zeroCells, Value.cells]
    omega
  have hRt : ROW.toList.take (k * 3) = Adj.ints (Ld.lints (L.take k)) := by
    rw [← hROW]
    simp only [Array.toList_append, List.append_assoc]
    exact List.take_left' hlt
  have HB1 := Lib.hid (show Below w.heap.size w (w.drew.alloc (.cells ROW 78)) from (Below.refl _ _).drew.alloc (Nat.le_refl _) _)
  have HBK1 := Lib.hid (show Blk (w.drew.alloc (.cells ROW 78)) w.heap.size 78 ROW from Blk.new w.drew _ _)
  obtain ⟨W1, hW1⟩ : ∃ W1, w.drew.alloc (.cells ROW 78) = W1 := ⟨_, rfl⟩
  rw [hW1] at HB1 HBK1 hrz
  have hRl : ROW.toList.length = G * 3 := by simpa using hRs
  have hgv2 : gv < w.heap.size := hgv.lt
  have h3l : (Ld.three' y).length = 3 := rfl
  have hc1 : ∀ ty dc, (Builtin.copy_ #[75, 75] ty #[.slice (some ⟨w.heap.size, k * 3, none⟩) (n + 1 - k) dc, .slice (some ⟨gv, 0, none⟩) 1 1]).run Try.prog W1 = .ok (goInt (Nat.min 1 (n + 1 - k))) (W1.setRow w.heap.size (ROW.toList.take (k * 3) ++ Ld.three' y ++ ROW.toList.drop (k * 3 + (Ld.three' y).length)).toArray) := fun ty dc =>
    copy_laid W1 ty w.heap.size (k * 3) (n + 1 - k) dc ⟨gv, 0, none⟩ 1 1 ROW (Ld.three' y) HBK1.out (by rw [h3l, show Nat.min 1 (n + 1 - k) = 1 from by simp only [Nat.min_def]; split <;> omega]) (fun j u hj => by
      have h2 : w.cell? ⟨gv, j, none⟩ = some u := hgv.at (by simpa using hj)
      have h3 := (HB1.out.cell (p := ⟨gv, j, none⟩) hgv2).trans h2
      unfold Addr.add
      split
      · rename_i e; subst e; exact h3
      · simpa using h3) (by rw [h3l]; omega) (Ld.three_one y)
  obtain ⟨R2, hR2⟩ : ∃ R2, ROW.toList.take (k * 3) ++ Ld.three' y ++ ROW.toList.drop (k * 3 + (Ld.three' y).length) = R2 := ⟨_, rfl⟩
  have hR2l : R2.length = G * 3 := by rw [← hR2, Ld.row_len _ _ _ (by rw [h3l]; omega), hRl]
  have hR2t : R2.take (k * 3 + 3) = Adj.ints (Ld.lints (L.take k)) ++ Ld.three' y := by
    have h2 := Ld.row_put ROW.toList (k * 3) (Ld.three' y) (by omega)
    rw [hR2, hRt] at h2
    exact h2
  rw [hR2] at hc1
  have HF2 := Lib.hid (setRow_fr W1 w.heap.size R2.toArray)
  have HBK2 := Lib.hid (setRow_blk (cs := R2.toArray) HBK1.out)
  obtain ⟨W2, hW2⟩ : ∃ W2, W1.setRow w.heap.size R2.toArray = W2 := ⟨_, rfl⟩
  rw [hW2] at hc1 HF2 HBK2
  have HB2 := Lib.hid (HB1.out.trans ((HF2.out.from (B := w.heap.size) HB1.out.size (Nat.le_refl _))))
  have hc2 : ∀ ty dc sc, (Builtin.copy_ #[75, 75] ty #[.slice (some ⟨w.heap.size, (k + 1) * 3, none⟩) (n - k) dc, .slice (some ⟨g, k * 3, none⟩) (n - k) sc]).run Try.prog W2.drew = .ok (goInt (Nat.min (n - k) (n - k))) (W2.drew.setRow w.heap.size (R2.toArray.toList.take ((k + 1) * 3) ++ Adj.ints (Ld.lints (L.drop k)) ++ R2.toArray.toList.drop ((k + 1) * 3 + (Adj.ints (Ld.lints (L.drop k))).length)).toArray) := fun ty dc sc =>
    copy_laid W2.drew ty w.heap.size ((k + 1) * 3) (n - k) dc ⟨g, k * 3, none⟩ (n - k) sc R2.toArray (Adj.ints (Ld.lints (L.drop k))) HBK2.out.drew (by rw [hld, show Nat.min (n - k) (n - k) = n - k from Nat.min_self _]) (fun j u hj => by
      have h2 := hcd j u hj
      have h3 : W2.drew.cell? ⟨g, k * 3 + j, none⟩ = some u := (HB2.out.cell (p := ⟨g, k * 3 + j, none⟩) hgl).trans h2
      unfold Addr.add
      split
      · rename_i e; subst e; exact h3
      · simpa using h3) (by rw [hld]; simp; omega) (Ld.ints_one _)
  obtain ⟨R3, hR3⟩ : ∃ R3, R2.toArray.toList.take ((k + 1) * 3) ++ Adj.ints (Ld.lints (L.drop k)) ++ R2.toArray.toList.drop ((k + 1) * 3 + (Adj.ints (Ld.lints (L.drop k))).length) = R3 := ⟨_, rfl⟩
  have hR3l : R3.length = G * 3 := by rw [← hR3, Ld.row_len _ _ _ (by rw [hld]; simp; omega)]; simpa using hR2l
  have hR3t : R3.take ((n + 1) * 3) = Adj.ints (Ld.lints (Ld.putAt L k y)) := by
    have h2 := Ld.row_put R2.toArray.toList ((k + 1) * 3) (Adj.ints (Ld.lints (L.drop k))) (by simp; omega)
    rw [hR3, hld, show (k + 1) * 3 + (n - k) * 3 = (n + 1) * 3 by omega] at h2
    rw [h2, Ld.putAt_cells, show (k + 1) * 3 = k * 3 + 3 by omega]
    show R2.take (k * 3 + 3) ++ _ = _
    rw [hR2t, List.append_assoc]
  rw [hR3] at hc2
  have HF3 := Lib.hid (setRow_fr W2.drew w.heap.size R3.toArray)
  have HBK3 := Lib.hid (setRow_blk (cs := R3.toArray) HBK2.out.drew)
  obtain ⟨W3, hW3⟩ : ∃ W3, W2.drew.setRow w.heap.size R3.toArray = W3 := ⟨_, rfl⟩
  rw [hW3] at hc2 HF3 HBK3
  have HB3 := Lib.hid (HB2.out.trans (((Below.refl _ _).drew).trans (HF3.out.from (B := w.heap.size) HB2.out.size (Nat.le_refl _))))
  have HRES := Lib.hid (And.intro hR3l hR3t)
  have hpl := Ld.putAt_length L k y (by omega)
  rw [hn] at hpl
  have HPL := Lib.hid hpl
  have hGk : ¬ (G = k) := by omega
  have hGk1 : ¬ (G = k + 1) := by omega
  have hnk : ¬ (n = k) := by omega
  have hkn : ¬ (k = n) := by omega
  have q0 : ((k : Int) == (n : Int)) = false := by simp; omega
  have hG63 : G ≤ 9223372036854775807 := by unfold maxLen at hGm; omega
  have HGM := Lib.hid hGm
  clear hold hROW hRs hRt hRl hR2 hR2l hR2t hR3 hR3l hR3t hpl hcell hct hcd hli hlt hld hsp hgv hG hGm h3l h hn hi0 hz0 hz1 hz2
  go_enter Try.func49, Try.ntmps49
  go_wp2_with (first
    | (at_builtin; refine Lib.wpList_append_run _ rfl _ _ _ _ rfl _ _ rfl rfl _ _ (hrz _) ?_)
    | (at_builtin; refine wpList_copy_run2 _ rfl _ _ 75 75 rfl _ _ rfl rfl (hc1 _ _) ?_))
  clear hW1 hW2 hW3 hrz hc1
  have qk : IntKind.i64.wrap ((k : Int) + 1) = (k : Int) + 1 := IntWalk.i64_in _ (by omega)
  have hb1 : (0 : Int) ≤ (k : Int) + 1 := by omega
  have hb2 : (k : Int) + 1 ≤ (n : Int) + 1 := by omega
  have htn : ((k : Int) + 1).toNat = k + 1 := by omega
  have hb3 : (k : Int) ≤ (n : Int) := by omega
  have hb4 : (0 : Int) ≤ (k : Int) := by omega
  refine wp_region_T (fun _ => True) 8 (fun _ => True) 8 9 rfl (by kernel_rfl) ⟨trivial, trivial⟩ (fun hHeld => ?_)
  simp only [List.replicate_succ, List.replicate_zero]
  refine wpT_takeC [4] 0 46 (v := ?_) hHeld.1 hHeld.2 rfl rfl (by kernel_rfl) (fun _ _ _ h => h) (yields_yes rfl ?_) ?_
  rotate_left
  · (intro w hSw; (try dsimp only at hSw); go_simp; try with_reducible rfl)
  try simp only [Act.put, List.setIfInBounds_toArray, List.set_cons_zero, List.set_cons_succ]
  refine wpT_takeC [3, 4] 1 47 (v := ?_) hHeld.1 hHeld.2 rfl rfl (by kernel_rfl) (fun _ _ _ h => h) (yields_yes rfl ?_) ?_
  rotate_left
  · (intro w hSw; (try dsimp only at hSw); go_simp; try with_reducible rfl)
  try simp only [Act.put, List.setIfInBounds_toArray, List.set_cons_zero, List.set_cons_succ]
  refine wpT_takeC [3, 4] 2 48 (v := ?_) hHeld.1 hHeld.2 rfl rfl (by kernel_rfl) (fun _ _ _ h => h) (yields_yes rfl ?_) ?_
  rotate_left
  · (intro w hSw; (try dsimp only at hSw); go_simp; try with_reducible rfl)
  try simp only [Act.put, List.setIfInBounds_toArray, List.set_cons_zero, List.set_cons_succ]
  refine wpT_takeC [4] 3 49 (v := ?_) hHeld.1 hHeld.2 rfl rfl (by kernel_rfl) (fun _ _ _ h => h) (yields_yes rfl ?_) ?_
  rotate_left
  · (intro w hSw; (try dsimp only at hSw); go_simp; try with_reducible rfl)
  try simp only [Act.put, List.setIfInBounds_toArray, List.set_cons_zero, List.set_cons_succ]
  refine wpT_takeC [] 4 50 (v := ?_) hHeld.1 hHeld.2 rfl rfl (by kernel_rfl) (fun _ _ _ h => h) (yields_yes rfl ?_) ?_
  rotate_left
  · (intro w hSw; (try dsimp only at hSw); go_simp; try with_reducible rfl)
  try simp only [Act.put, List.setIfInBounds_toArray, List.set_cons_zero, List.set_cons_succ]
  refine wpT_takeC [7] 5 51 (v := ?_) hHeld.1 hHeld.2 rfl rfl (by kernel_rfl) (fun _ _ _ h => h) (yields_yes rfl ?_) ?_
  rotate_left
  · (intro w hSw; (try dsimp only at hSw); go_simp; try with_reducible rfl)
  try simp only [Act.put, List.setIfInBounds_toArray, List.set_cons_zero, List.set_cons_succ]
  refine wpT_takeC [7] 6 52 (v := ?_) hHeld.1 hHeld.2 rfl rfl (by kernel_rfl) (fun _ _ _ h => h) (yields_yes rfl ?_) ?_
  rotate_left
  · (intro w hSw; (try dsimp only at hSw); go_simp; try with_reducible rfl)
  try simp only [Act.put, List.setIfInBounds_toArray, List.set_cons_zero, List.set_cons_succ]
  refine wpT_takeC [] 7 53 (v := ?_) hHeld.1 hHeld.2 rfl rfl (by kernel_rfl) (fun _ _ _ h => h) (yields_yes rfl ?_) ?_
  rotate_left
  · (intro w hSw; (try dsimp only at hSw); go_simp; try with_reducible rfl)
  try simp only [Act.put, List.setIfInBounds_toArray, List.set_cons_zero, List.set_cons_succ]
  refine wpT_tail [_] 8 [] rfl (by kernel_rfl) ?_
  go_wp2_with (at_builtin; refine wpList_copy_run2 _ rfl _ _ 75 75 rfl _ _ rfl rfl (hc2 _ _ _) ?_)
  go_ret
  refine ⟨_, rfl, ⟨HB3.out.mono hb0, fun h hh _ => HB3.out.block h hh⟩, ?_, .inr ⟨w.heap.size, G, R3.toArray, by rw [HPL.out]; rfl, hb0, HBK3.out, by rw [HPL.out]; exact hGn, HGM.out, by simpa using HRES.out.1, ?_⟩⟩
  · rw [Ld.ints_len]
  · rw [HPL.out]
    simpa using HRES.out.2
end Go.Proofs.Ytkopkicdmbnpgaa
