/-
  The walks of cmp.Compare and of what Climb sorts by. Conditions: what is read lies outside the row that is sorted.
-/
import Derived.Test.YtkopkicdmbnpgaaSortE
namespace Go.Proofs.Ytkopkicdmbnpgaa
set_option linter.unusedVariables false
open Go.RowKit Adj

theorem isNaN_any (x : Int) (w : World) : Calls Try.prog 53 #[.int .i64 x] w fun e w' => e = .returned (.bool false) ∧ w' = w := by
  go_enter Try.func53, Try.ntmps53
  go_wp2
  go_ret
  exact ⟨by simp, rfl⟩
set_option maxHeartbeats 1000000 in
theorem compare_any (x y : Int) (w : World) : Calls Try.prog 30 #[.int .i64 x, .int .i64 y] w fun e w' => e = .returned (.int .i64 (AdjS.cmp3 x y)) ∧ w' = w := by
  go_enter Try.func30, Try.ntmps30
  go_wp2_with ((with_reducible refine (isNaN_any _ _).mono ?_); rintro e w' ⟨rfl, hw⟩; rw [hw])
  all_goals (go_ret; refine ⟨?_, rfl⟩; unfold AdjS.cmp3; (repeat' split) <;> first | rfl | (exfalso; omega))

namespace Sr
theorem Fr.cell {w w1 : World} {g : Nat} (h : Fr w w1 g) {p : Addr} (hp : p.block < w.heap.size) (hne : p.block ≠ g) : w1.cell? p = w.cell? p := by
  unfold World.cell?
  rw [h.block _ hp hne]
end Sr

theorem cell_lt {w : World} {p : Addr} {v : Value} (h : w.cell? p = some v) : p.block < w.heap.size := by
  rcases Nat.lt_or_ge p.block w.heap.size with hlt | hge
  · exact hlt
  · exfalso
    unfold World.cell? at h
    rw [Array.getElem?_eq_none hge] at h
    cases h

set_option maxRecDepth 100000 in
set_option maxHeartbeats 4000000 in
theorem climbCmp (w : World) (g bp bw gp gw off n cw : Nat) (pk ws : List Int) (h1 : w.cell? ⟨bp, 0, none⟩ = some (.slice (some ⟨gp, 0, none⟩) n n)) (h2 : w.cell? ⟨bw, 0, none⟩ = some (.slice (some ⟨gw, off, none⟩) n cw))
    (h3 : ∀ i, i < n → w.cell? ⟨gp, i, none⟩ = some (.int .i64 (pk.getD i 0))) (h4 : ∀ i, i < n → w.cell? ⟨gw, off + i, none⟩ = some (.int .i64 (ws.getD i 0))) (h5 : bp ≠ g ∧ bw ≠ g ∧ gp ≠ g ∧ gw ≠ g)
    (h6 : ∀ i, i < n → IntKind.i64.wrap (pk.getD i 0 - ws.getD i 0) = pk.getD i 0 - ws.getD i 0) :
    Sr.CmpOk w g 29 #[.pointer (some ⟨bp, 0, none⟩), .pointer (some ⟨bw, 0, none⟩)] (fun x => -(pk.getD x.toNat 0 - ws.getD x.toNat 0)) (fun x => 0 ≤ x ∧ x < n) := by
  refine ⟨fun _ _ => rfl, fun x y hx hy W hf => ?_⟩
  obtain ⟨i, rfl⟩ : ∃ i : Nat, x = (i : Int) := ⟨x.toNat, by omega⟩
  obtain ⟨j, rfl⟩ : ∃ j : Nat, y = (j : Int) := ⟨y.toNat, by omega⟩
  have i1 : i < n := by omega
  have j1 : j < n := by omega
  have c1 := (hf.cell (cell_lt h1) h5.1).trans h1
  have c2 := (hf.cell (cell_lt h2) h5.2.1).trans h2
  have c3 := (hf.cell (cell_lt (h3 i i1)) h5.2.2.1).trans (h3 i i1)
  have c4 := (hf.cell (cell_lt (h4 i i1)) h5.2.2.2).trans (h4 i i1)
  have c5 := (hf.cell (cell_lt (h3 j j1)) h5.2.2.1).trans (h3 j j1)
  have c6 := (hf.cell (cell_lt (h4 j j1)) h5.2.2.2).trans (h4 j j1)
  have q1 := h6 i i1
  have q2 := h6 j j1
  show Calls _ _ _ _ fun e W' => e = .returned (.int .i64 (AdjS.cmp3 (-(pk.getD i 0 - ws.getD i 0)) (-(pk.getD j 0 - ws.getD j 0)))) ∧ Below W.heap.size W W'
  generalize pk.getD i 0 = pi at c3 q1 ⊢
  generalize pk.getD j 0 = pj at c5 q2 ⊢
  generalize ws.getD i 0 = wi at c4 q1 ⊢
  generalize ws.getD j 0 = wj at c6 q2 ⊢
  have HR := Lib.hid (show AdjS.cmp3 (-(pi - wi)) (-(pj - wj)) = AdjS.cmp3 (pj - wj) (pi - wi) by unfold AdjS.cmp3; (repeat' split) <;> omega)
  have HB := Lib.hid (Below.refl W.heap.size W)
  clear h1 h2 h3 h4 h5 h6 hf hx hy
  show Calls _ _ #[.int .i64 (i : Int), .int .i64 (j : Int), .pointer (some ⟨bp, 0, none⟩), .pointer (some ⟨bw, 0, none⟩)] _ _
  go_enter Try.func29, Try.ntmps29
  go_wp2_with fail
  refine wp_region_T (fun w' => w'.cell? ⟨bp, 0, none⟩ = some (.slice (some ⟨gp, 0, none⟩) n n) ∧ w'.cell? ⟨bw, 0, none⟩ = some (.slice (some ⟨gw, off, none⟩) n cw) ∧ w'.cell? ⟨gp, i, none⟩ = some (.int .i64 pi) ∧ w'.cell? ⟨gw, off + i, none⟩ = some (.int .i64 wi) ∧ w'.cell? ⟨gp, j, none⟩ = some (.int .i64 pj) ∧ w'.cell? ⟨gw, off + j, none⟩ = some (.int .i64 wj)) 18 (fun _ => True) 18 20 rfl (by kernel_rfl) ⟨⟨c1, c2, c3, c4, c5, c6⟩, trivial⟩ (fun hHeld => ?_)
  simp only [List.replicate_succ, List.replicate_zero]
  refine wpT_takeC [2, 3, 8] 0 7 (v := ?_) hHeld.1 hHeld.2 rfl rfl (by kernel_rfl) (fun _ _ _ h => h) (yields_yes rfl ?_) ?_
  rotate_left
  · (intro w hSw; (try dsimp only at hSw); go_simp; try with_reducible rfl)
  try simp only [Act.put, List.setIfInBounds_toArray, List.set_cons_zero, List.set_cons_succ]
  refine wpT_takeC [2, 3, 8] 1 8 (v := ?_) hHeld.1 hHeld.2 rfl rfl (by kernel_rfl) (fun _ _ _ h => h) (yields_yes rfl ?_) ?_
  rotate_left
  · (intro w hSw; (try dsimp only at hSw); go_simp; try with_reducible rfl)
  try simp only [Act.put, List.setIfInBounds_toArray, List.set_cons_zero, List.set_cons_succ]
  refine wpT_takeC [3, 8] 2 9 (v := ?_) hHeld.1 hHeld.2 rfl rfl (by kernel_rfl) (fun _ _ _ h => h) (yields_yes rfl ?_) ?_
  rotate_left
  · (intro w hSw; (try dsimp only at hSw); go_simp; try with_reducible rfl)
  try simp only [Act.put, List.setIfInBounds_toArray, List.set_cons_zero, List.set_cons_succ]
  refine wpT_takeC [8] 3 10 (v := ?_) hHeld.1 hHeld.2 rfl rfl (by kernel_rfl) (fun _ _ _ h => h) (yields_yes rfl ?_) ?_
  rotate_left
  · (intro w hSw; (try dsimp only at hSw); go_simp; try with_reducible rfl)
  try simp only [Act.put, List.setIfInBounds_toArray, List.set_cons_zero, List.set_cons_succ]
  refine wpT_takeC [6, 7, 8] 4 11 (v := ?_) hHeld.1 hHeld.2 rfl rfl (by kernel_rfl) (fun _ _ _ h => h) (yields_yes rfl ?_) ?_
  rotate_left
  · (intro w hSw; (try dsimp only at hSw); go_simp; try with_reducible rfl)
  try simp only [Act.put, List.setIfInBounds_toArray, List.set_cons_zero, List.set_cons_succ]
  refine wpT_takeC [6, 7, 8] 5 12 (v := ?_) hHeld.1 hHeld.2 rfl rfl (by kernel_rfl) (fun _ _ _ h => h) (yields_yes rfl ?_) ?_
  rotate_left
  · (intro w hSw; (try dsimp only at hSw); go_simp; try with_reducible rfl)
  try simp only [Act.put, List.setIfInBounds_toArray, List.set_cons_zero, List.set_cons_succ]
  refine wpT_takeC [7, 8] 6 13 (v := ?_) hHeld.1 hHeld.2 rfl rfl (by kernel_rfl) (fun _ _ _ h => h) (yields_yes rfl ?_) ?_
  rotate_left
  · (intro w hSw; (try dsimp only at hSw); go_simp; try with_reducible rfl)
  try simp only [Act.put, List.setIfInBounds_toArray, List.set_cons_zero, List.set_cons_succ]
  refine wpT_takeC [8] 7 14 (v := ?_) hHeld.1 hHeld.2 rfl rfl (by kernel_rfl) (fun _ _ _ h => h) (yields_yes rfl ?_) ?_
  rotate_left
  · (intro w hSw; (try dsimp only at hSw); go_simp; try with_reducible rfl)
  try simp only [Act.put, List.setIfInBounds_toArray, List.set_cons_zero, List.set_cons_succ]
  refine wpT_takeC [] 8 15 (v := ?_) hHeld.1 hHeld.2 rfl rfl (by kernel_rfl) (fun _ _ _ h => h) (yields_yes rfl ?_) ?_
  rotate_left
  · (intro w hSw; (try dsimp only at hSw); go_simp; try with_reducible rfl)
  try simp only [Act.put, List.setIfInBounds_toArray, List.set_cons_zero, List.set_cons_succ]
  refine wpT_takeC [11, 12, 17] 9 16 (v := ?_) hHeld.1 hHeld.2 rfl rfl (by kernel_rfl) (fun _ _ _ h => h) (yields_yes rfl ?_) ?_
  rotate_left
  · (intro w hSw; (try dsimp only at hSw); go_simp; try with_reducible rfl)
  try simp only [Act.put, List.setIfInBounds_toArray, List.set_cons_zero, List.set_cons_succ]
  refine wpT_takeC [11, 12, 17] 10 17 (v := ?_) hHeld.1 hHeld.2 rfl rfl (by kernel_rfl) (fun _ _ _ h => h) (yields_yes rfl ?_) ?_
  rotate_left
  · (intro w hSw; (try dsimp only at hSw); go_simp; try with_reducible rfl)
  try simp only [Act.put, List.setIfInBounds_toArray, List.set_cons_zero, List.set_cons_succ]
  refine wpT_takeC [12, 17] 11 18 (v := ?_) hHeld.1 hHeld.2 rfl rfl (by kernel_rfl) (fun _ _ _ h => h) (yields_yes rfl ?_) ?_
  rotate_left
  · (intro w hSw; (try dsimp only at hSw); go_simp; try with_reducible rfl)
  try simp only [Act.put, List.setIfInBounds_toArray, List.set_cons_zero, List.set_cons_succ]
  refine wpT_takeC [17] 12 19 (v := ?_) hHeld.1 hHeld.2 rfl rfl (by kernel_rfl) (fun _ _ _ h => h) (yields_yes rfl ?_) ?_
  rotate_left
  · (intro w hSw; (try dsimp only at hSw); go_simp; try with_reducible rfl)
  try simp only [Act.put, List.setIfInBounds_toArray, List.set_cons_zero, List.set_cons_succ]
  refine wpT_takeC [15, 16, 17] 13 20 (v := ?_) hHeld.1 hHeld.2 rfl rfl (by kernel_rfl) (fun _ _ _ h => h) (yields_yes rfl ?_) ?_
  rotate_left
  · (intro w hSw; (try dsimp only at hSw); go_simp; try with_reducible rfl)
  try simp only [Act.put, List.setIfInBounds_toArray, List.set_cons_zero, List.set_cons_succ]
  refine wpT_takeC [15, 16, 17] 14 21 (v := ?_) hHeld.1 hHeld.2 rfl rfl (by kernel_rfl) (fun _ _ _ h => h) (yields_yes rfl ?_) ?_
  rotate_left
  · (intro w hSw; (try dsimp only at hSw); go_simp; try with_reducible rfl)
  try simp only [Act.put, List.setIfInBounds_toArray, List.set_cons_zero, List.set_cons_succ]
  refine wpT_takeC [16, 17] 15 22 (v := ?_) hHeld.1 hHeld.2 rfl rfl (by kernel_rfl) (fun _ _ _ h => h) (yields_yes rfl ?_) ?_
  rotate_left
  · (intro w hSw; (try dsimp only at hSw); go_simp; try with_reducible rfl)
  try simp only [Act.put, List.setIfInBounds_toArray, List.set_cons_zero, List.set_cons_succ]
  refine wpT_takeC [17] 16 23 (v := ?_) hHeld.1 hHeld.2 rfl rfl (by kernel_rfl) (fun _ _ _ h => h) (yields_yes rfl ?_) ?_
  rotate_left
  · (intro w hSw; (try dsimp only at hSw); go_simp; try with_reducible rfl)
  try simp only [Act.put, List.setIfInBounds_toArray, List.set_cons_zero, List.set_cons_succ]
  refine wpT_takeC [] 17 24 (v := ?_) hHeld.1 hHeld.2 rfl rfl (by kernel_rfl) (fun _ _ _ h => h) (yields_yes rfl ?_) ?_
  rotate_left
  · (intro w hSw; (try dsimp only at hSw); go_simp; try with_reducible rfl)
  try simp only [Act.put, List.setIfInBounds_toArray, List.set_cons_zero, List.set_cons_succ]
  refine wpT_tail [_, _] 18 [19] rfl (by kernel_rfl) ?_
  clear hHeld c1 c2 c3 c4 c5 c6
  go_wp2_with ((with_reducible refine (compare_any _ _ _).mono ?_); rintro e w' ⟨rfl, hw⟩; rw [hw])
  go_ret
  refine ⟨?_, HB.out.drew⟩
  rw [HR.out]
  rfl
end Go.Proofs.Ytkopkicdmbnpgaa
