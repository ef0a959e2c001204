/-
  The walk of slices.Insert of one, where there is room. Conditions: the row is the call's own; what is put in lies elsewhere.
-/
import Derived.Test.YtkopkicdmbnpgaaRoomZd
import Derived.Laws.Externs
namespace Go.Proofs.Ytkopkicdmbnpgaa
set_option linter.unusedVariables false
open Go.RowKit Adj

namespace Ld
theorem row_drop (X : List Value) (o : Nat) (cs : List Value) (h : o ≤ X.length) : (X.take o ++ cs ++ X.drop (o + cs.length)).drop o = cs ++ X.drop (o + cs.length) := by
  rw [List.append_assoc]
  exact List.drop_left' (by rw [List.length_take]; omega)
end Ld

set_option maxRecDepth 100000 in
set_option maxHeartbeats 4000000 in
theorem insert_room (w : World) (base : Nat) (L : List AdjL.Laid) (v : Value) (y : AdjL.Laid) (gv k n c g : Nat) (hn : L.length = n) (hk : k < n) (hnc : n + 1 ≤ c) (hbig : n ≤ 1048576) (hb0 : base ≤ w.heap.size) (hne : gv ≠ g)
    (h : w.ownsRow base 78 3 (.slice (some ⟨g, 0, none⟩) n c) n (Adj.ints (Ld.lints L))) (hgv : Blk w gv 78 (Ld.three' y).toArray) :
    Calls Try.prog 49 #[.slice (some ⟨g, 0, none⟩) n c, .int .i64 (k : Int), .slice (some ⟨gv, 0, none⟩) 1 1] w fun e w' => ∃ v', e = .returned v' ∧ Ld.Kp base w w' (.slice (some ⟨g, 0, none⟩) n c) ∧ w'.ownsRow base 78 3 v' (Ld.putAt L k y).length (Adj.ints (Ld.lints (Ld.putAt L k y))) := by
  obtain ⟨cur, hbg, hcur, hcm, hsz, htake⟩ : ∃ cur, base ≤ g ∧ w.heap[g]? = some (.cells cur 78 (0, 0)) ∧ c ≤ maxLen ∧ cur.size = c * 3 ∧ cur.toList.take (n * 3) = Adj.ints (Ld.lints L) := by
    rcases h.2 with ⟨e1, e2⟩ | ⟨g', cap, cur, e1, h2, h3, h4, h5, h6, h7⟩
    · omega
    · have hg : g' = g := by injection e1 with a; injection a with a; injection a with a; exact a.symm
      have hc : cap = c := by injection e1 with _ _ b; exact b.symm
      subst hg; subst hc
      exact ⟨cur, h2, h3, h5, h6, h7⟩
  have hblk : Blk w g 78 cur := hcur
  have hli := Ld.ints_len L
  have hlt : (Adj.ints (Ld.lints (L.take k))).length = k * 3 := by rw [Ld.ints_len, List.length_take]; congr 1; omega
  have hld : (Adj.ints (Ld.lints (L.drop k))).length = (n - k) * 3 := by rw [Ld.ints_len, List.length_drop, hn]
  have hsp := Ld.split_cells L k
  have hcl : cur.toList.length = c * 3 := by simpa using hsz
  have hct : cur.toList.take (k * 3) = Adj.ints (Ld.lints (L.take k)) := by
    have h2 : (cur.toList.take (n * 3)).take (k * 3) = Adj.ints (Ld.lints (L.take k)) := by
      rw [htake, hsp]; exact List.take_left' hlt
    rw [List.take_take] at h2
    rw [← h2]; congr 1; omega
  have hcd : ∀ j u, (Adj.ints (Ld.lints (L.drop k)))[j]? = some u → w.cell? ⟨g, k * 3 + j, none⟩ = some u := fun j u hu => by
    have hl := (List.getElem?_eq_some_iff.1 hu).1
    have h2 : (Adj.ints (Ld.lints L))[k * 3 + j]? = some u := by
      rw [hsp, List.getElem?_append_right (by omega), hlt, show k * 3 + j - k * 3 = j by omega]; exact hu
    rw [← htake, List.getElem?_take, if_pos (by omega)] at h2
    exact hblk.at (by simpa using h2)
  have hov : ∀ lb cb, (callFunc 64 #[.slice (some ⟨gv, 0, none⟩) 1 1, .slice (some ⟨g, (k + 1) * 3, none⟩) lb cb]).run Try.prog w = .ok (.value (.bool false)) w := fun lb cb => by
    have hsa : w.shape? gv = some (78, 3) := by unfold World.shape?; unfold Adj.Blk at hgv; rw [hgv]; rfl
    have hsb : w.shape? g = some (78, c * 3) := by unfold World.shape?; rw [hcur]; show some (_, cur.size) = _; rw [hsz]
    rw [run_callFunc_extern Try.func64 (by kernel_rfl) (by kernel_rfl) (by kernel_rfl) (e := Extern.SlicesOverlaps.overlaps #[75, 75] #[4]) (by kernel_rfl),
      Lib.run_overlaps_apart w 75 4 78 Try.underlying75 3 Try.sizeOf78 ⟨gv, 0, none⟩ ⟨g, (k + 1) * 3, none⟩ 1 1 lb cb hne 78 78 3 (c * 3) hsa hsb (by omega) (hgv.frozen 0) (hgv.frozen 3)]
    rfl
  have h3l : (Ld.three' y).length = 3 := rfl
  have hc1 : ∀ ty dc sc, (Builtin.copy_ #[75, 75] ty #[.slice (some ⟨g, (k + 1) * 3, none⟩) (n - k) dc, .slice (some ⟨g, k * 3, none⟩) (n + 1 - k) sc]).run Try.prog w.drew = .ok (goInt (Nat.min (n + 1 - k) (n - k))) (w.drew.setRow g (cur.toList.take ((k + 1) * 3) ++ Adj.ints (Ld.lints (L.drop k)) ++ cur.toList.drop ((k + 1) * 3 + (Adj.ints (Ld.lints (L.drop k))).length)).toArray) := fun ty dc sc =>
    copy_laid w.drew ty g ((k + 1) * 3) (n - k) dc ⟨g, k * 3, none⟩ (n + 1 - k) sc cur (Adj.ints (Ld.lints (L.drop k))) hblk.drew (by rw [hld, show Nat.min (n + 1 - k) (n - k) = n - k from by simp only [Nat.min_def]; split <;> omega]) (fun j u hj => by
      have h2 : w.drew.cell? ⟨g, k * 3 + j, none⟩ = some u := hcd j u hj
      unfold Addr.add
      split
      · rename_i e; subst e; exact h2
      · simpa using h2) (by rw [hld]; omega) (Ld.ints_one _)
  obtain ⟨R1, hR1⟩ : ∃ R1, cur.toList.take ((k + 1) * 3) ++ Adj.ints (Ld.lints (L.drop k)) ++ cur.toList.drop ((k + 1) * 3 + (Adj.ints (Ld.lints (L.drop k))).length) = R1 := ⟨_, rfl⟩
  have hR1l : R1.length = c * 3 := by rw [← hR1, Ld.row_len _ _ _ (by rw [hld]; omega), hcl]
  have hR1t : R1.take (k * 3) = Adj.ints (Ld.lints (L.take k)) := by
    rw [← hR1, Ld.row_keep _ _ _ _ (by omega) (by omega), hct]
  have hR1d : R1.drop (k * 3 + 3) = Adj.ints (Ld.lints (L.drop k)) ++ cur.toList.drop ((k + 1) * 3 + (Adj.ints (Ld.lints (L.drop k))).length) := by
    rw [← hR1, show k * 3 + 3 = (k + 1) * 3 by omega, Ld.row_drop _ _ _ (by omega)]
  rw [hR1] at hc1
  have HF1 := Lib.hid (setRow_fr w.drew g R1.toArray)
  have HBK1 := Lib.hid (setRow_blk (cs := R1.toArray) hblk.drew)
  obtain ⟨W1, hW1⟩ : ∃ W1, w.drew.setRow g R1.toArray = W1 := ⟨_, rfl⟩
  rw [hW1] at hc1 HF1 HBK1
  have hgv1 : ∀ j u, (Ld.three' y)[j]? = some u → W1.cell? ⟨gv, j, none⟩ = some u := fun j u hu => by
    have h2 : w.drew.cell? ⟨gv, j, none⟩ = some u := hgv.drew.at (by simpa using hu)
    exact (HF1.out.cell (p := ⟨gv, j, none⟩) (cell_lt h2) hne).trans h2
  have hc2 : ∀ ty dc, (Builtin.copy_ #[75, 75] ty #[.slice (some ⟨g, k * 3, none⟩) (n + 1 - k) dc, .slice (some ⟨gv, 0, none⟩) 1 1]).run Try.prog W1 = .ok (goInt (Nat.min 1 (n + 1 - k))) (W1.setRow g (R1.toArray.toList.take (k * 3) ++ Ld.three' y ++ R1.toArray.toList.drop (k * 3 + (Ld.three' y).length)).toArray) := fun ty dc =>
    copy_laid W1 ty g (k * 3) (n + 1 - k) dc ⟨gv, 0, none⟩ 1 1 R1.toArray (Ld.three' y) HBK1.out (by rw [h3l, show Nat.min 1 (n + 1 - k) = 1 from by simp only [Nat.min_def]; split <;> omega]) (fun j u hj => by
      have h3 := hgv1 j u hj
      unfold Addr.add
      split
      · rename_i e; subst e; exact h3
      · simpa using h3) (by rw [h3l]; simp; omega) (Ld.three_one y)
  obtain ⟨R2, hR2⟩ : ∃ R2, R1.toArray.toList.take (k * 3) ++ Ld.three' y ++ R1.toArray.toList.drop (k * 3 + (Ld.three' y).length) = R2 := ⟨_, rfl⟩
  have hR2l : R2.length = c * 3 := by rw [← hR2, Ld.row_len _ _ _ (by rw [h3l]; simp; omega)]; simpa using hR1l
  have hR2t : R2.take ((n + 1) * 3) = Adj.ints (Ld.lints (Ld.putAt L k y)) := by
    rw [← hR2, h3l]
    show (R1.take (k * 3) ++ Ld.three' y ++ R1.drop (k * 3 + 3)).take _ = _
    rw [hR1t, hR1d, Ld.putAt_cells, List.append_assoc, ← List.append_assoc (Ld.three' y), ← List.append_assoc]
    refine List.take_left' ?_
    rw [List.length_append, List.length_append, hlt, hld, h3l]; omega
  rw [hR2] at hc2
  have HF2 := Lib.hid (setRow_fr W1 g R2.toArray)
  have HBK2 := Lib.hid (setRow_blk (cs := R2.toArray) HBK1.out)
  obtain ⟨W2, hW2⟩ : ∃ W2, W1.setRow g R2.toArray = W2 := ⟨_, rfl⟩
  rw [hW2] at hc2 HF2 HBK2
  have HB2 := Lib.hid (show Below base w W2 from (((Below.refl base w).drew).trans (HF1.out.from (B := base) hb0 hbg)).trans (HF2.out.from (B := base) (Nat.le_trans hb0 HF1.out.size) hbg))
  have HRES := Lib.hid (And.intro hR2l hR2t)
  have hpl := Ld.putAt_length L k y (by omega)
  rw [hn] at hpl
  have HPL := Lib.hid hpl
  have HCM := Lib.hid hcm
  have HBG := Lib.hid hbg
  have hck : ¬ (c = k) := by omega
  have hck1 : ¬ (c = k + 1) := by omega
  have hkn : ¬ (k = n) := by omega
  have q0 : ((k : Int) == (n : Int)) = false := by simp; omega
  have hc63 : c ≤ 9223372036854775807 := by unfold maxLen at hcm; omega
  have qk : IntKind.i64.wrap ((k : Int) + 1) = (k : Int) + 1 := IntWalk.i64_in _ (by omega)
  have hb1 : (0 : Int) ≤ (k : Int) + 1 := by omega
  have hb2 : (k : Int) + 1 ≤ (n : Int) + 1 := by omega
  have htn : ((k : Int) + 1).toNat = k + 1 := by omega
  have hb3 : (k : Int) ≤ (n : Int) := by omega
  have hb4 : (0 : Int) ≤ (k : Int) := by omega
  have hb5 : (k : Int) ≤ (n : Int) + 1 := by omega
  clear hcur hcm hsz htake hblk hli hlt hld hsp hcl hct hcd h3l hR1 hR1l hR1t hR1d hR2 hR2l hR2t hpl hgv1 hgv hn h hbg hW1 hW2
  go_enter Try.func49, Try.ntmps49
  go_wp2_with (simp only [hov])
  refine wp_region_T (fun _ => True) 8 (fun _ => True) 8 9 rfl (by kernel_rfl) ⟨trivial, trivial⟩ (fun hHeld => ?_)
  simp only [List.replicate_succ, List.replicate_zero]
  refine wpT_takeC [4] 0 69 (v := ?_) hHeld.1 hHeld.2 rfl rfl (by kernel_rfl) (fun _ _ _ h => h) (yields_yes rfl ?_) ?_
  rotate_left
  · (intro w hSw; (try dsimp only at hSw); go_simp; try with_reducible rfl)
  try simp only [Act.put, List.setIfInBounds_toArray, List.set_cons_zero, List.set_cons_succ]
  refine wpT_takeC [3, 4] 1 70 (v := ?_) hHeld.1 hHeld.2 rfl rfl (by kernel_rfl) (fun _ _ _ h => h) (yields_yes rfl ?_) ?_
  rotate_left
  · (intro w hSw; (try dsimp only at hSw); go_simp; try with_reducible rfl)
  try simp only [Act.put, List.setIfInBounds_toArray, List.set_cons_zero, List.set_cons_succ]
  refine wpT_takeC [3, 4] 2 71 (v := ?_) hHeld.1 hHeld.2 rfl rfl (by kernel_rfl) (fun _ _ _ h => h) (yields_yes rfl ?_) ?_
  rotate_left
  · (intro w hSw; (try dsimp only at hSw); go_simp; try with_reducible rfl)
  try simp only [Act.put, List.setIfInBounds_toArray, List.set_cons_zero, List.set_cons_succ]
  refine wpT_takeC [4] 3 72 (v := ?_) hHeld.1 hHeld.2 rfl rfl (by kernel_rfl) (fun _ _ _ h => h) (yields_yes rfl ?_) ?_
  rotate_left
  · (intro w hSw; (try dsimp only at hSw); go_simp; try with_reducible rfl)
  try simp only [Act.put, List.setIfInBounds_toArray, List.set_cons_zero, List.set_cons_succ]
  refine wpT_takeC [] 4 73 (v := ?_) hHeld.1 hHeld.2 rfl rfl (by kernel_rfl) (fun _ _ _ h => h) (yields_yes rfl ?_) ?_
  rotate_left
  · (intro w hSw; (try dsimp only at hSw); go_simp; try with_reducible rfl)
  try simp only [Act.put, List.setIfInBounds_toArray, List.set_cons_zero, List.set_cons_succ]
  refine wpT_takeC [7] 5 74 (v := ?_) hHeld.1 hHeld.2 rfl rfl (by kernel_rfl) (fun _ _ _ h => h) (yields_yes rfl ?_) ?_
  rotate_left
  · (intro w hSw; (try dsimp only at hSw); go_simp; try with_reducible rfl)
  try simp only [Act.put, List.setIfInBounds_toArray, List.set_cons_zero, List.set_cons_succ]
  refine wpT_takeC [7] 6 75 (v := ?_) hHeld.1 hHeld.2 rfl rfl (by kernel_rfl) (fun _ _ _ h => h) (yields_yes rfl ?_) ?_
  rotate_left
  · (intro w hSw; (try dsimp only at hSw); go_simp; try with_reducible rfl)
  try simp only [Act.put, List.setIfInBounds_toArray, List.set_cons_zero, List.set_cons_succ]
  refine wpT_takeC [] 7 76 (v := ?_) hHeld.1 hHeld.2 rfl rfl (by kernel_rfl) (fun _ _ _ h => h) (yields_yes rfl ?_) ?_
  rotate_left
  · (intro w hSw; (try dsimp only at hSw); go_simp; try with_reducible rfl)
  try simp only [Act.put, List.setIfInBounds_toArray, List.set_cons_zero, List.set_cons_succ]
  refine wpT_tail [_] 8 [] rfl (by kernel_rfl) ?_
  go_wp2_with (first
    | (at_builtin; refine wpList_copy_run2 _ rfl _ _ 75 75 rfl _ _ rfl rfl (hc1 _ _ _) ?_)
    | (at_builtin; refine wpList_copy_run2 _ rfl _ _ 75 75 rfl _ _ rfl rfl (hc2 _ _) ?_))
  go_ret
  refine ⟨_, rfl, ⟨HB2.out, fun h hh hne2 => (HF2.out.block h (Nat.lt_of_lt_of_le hh HF1.out.size) (fun e => hne2 (by rw [e]; rfl))).trans (HF1.out.block h hh (fun e => hne2 (by rw [e]; rfl)))⟩, ?_, .inr ⟨g, c, R2.toArray, by rw [HPL.out]; rfl, HBG.out, HBK2.out, by rw [HPL.out]; exact hnc, HCM.out, by simpa using HRES.out.1, ?_⟩⟩
  · rw [Ld.ints_len]
  · rw [HPL.out]
    simpa using HRES.out.2
end Go.Proofs.Ytkopkicdmbnpgaa
