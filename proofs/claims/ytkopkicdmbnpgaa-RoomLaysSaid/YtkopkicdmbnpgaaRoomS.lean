/-
  The walks of cmp.Or of two numbers and of what Load sorts by. Conditions: the two can be read.
-/
import Derived.Test.YtkopkicdmbnpgaaRoomR
import Derived.Sort.Grow
namespace Go.Proofs.Ytkopkicdmbnpgaa
set_option linter.unusedVariables false
open Go.RowKit Adj Go.Sort

namespace Lv
def chgV (c : Int × Int) : Value := .agg #[.int .i64 c.1, .int .i64 c.2]
/-- What Load sorts by. -/
def byTime (a b : Int × Int) : Int := if AdjS.cmp3 a.1 b.1 ≠ 0 then AdjS.cmp3 a.1 b.1 else AdjS.cmp3 a.2 b.2
theorem grew (w : World) (o1 o2 o3 : Obj) : (((w.alloc o1).alloc o2).alloc o3).drew = grow (w.drewN 1) #[o1, o2, o3] := by
  rw [alloc_eq_grow, alloc_eq_grow, alloc_eq_grow, grow_grow, grow_grow]
  rfl
end Lv

set_option maxRecDepth 100000 in
set_option maxHeartbeats 4000000 in
theorem or2_any (W : World) (g : Nat) (a b : Int) (h0 : W.cell? ⟨g, 0, none⟩ = some (.int .i64 a)) (h1 : W.cell? ⟨g, 1, none⟩ = some (.int .i64 b)) :
    Calls Try.prog 42 #[.slice (some ⟨g, 0, none⟩) 2 2] W fun e w' => e = .returned (.int .i64 (if a ≠ 0 then a else b)) ∧ w' = W := by
  by_cases e1 : a = 0
  · subst e1
    by_cases e2 : b = 0
    · subst e2
      go_enter Try.func42, Try.ntmps42
      go_wp2_with fail
      go_loopw [8] (fun kv wr => ∃ k : Nat, kv = .int .i64 (k : Int) ∧ k ≤ 2 ∧ wr = W) (fun kv _ => 2 - (intOf kv).toNat)
      case atStart => exact ⟨0, rfl, by omega, rfl⟩
      case round =>
        obtain ⟨k, rfl, hk, rfl⟩ := hrel
        rcases Nat.lt_or_ge k 2 with hk2 | hk2
        · rcases (show k = 0 ∨ k = 1 by omega) with rfl | rfl
          · go_wp2_with fail
            go_roundw
            case rel => exact ⟨1, rfl, by omega, by trivial⟩
            case measure => simp [intOf]
          · go_wp2_with fail
            go_roundw
            case rel => exact ⟨2, rfl, by omega, by trivial⟩
            case measure => simp [intOf]
        · obtain rfl : k = 2 := by omega
          go_wp2_with fail
          go_ret
          exact ⟨rfl, by trivial⟩
    · have q0 : (b == 0) = false := by simpa using e2
      have q1 : (b != 0) = true := by simpa using e2
      go_enter Try.func42, Try.ntmps42
      go_wp2_with fail
      go_loopw [8] (fun kv wr => ∃ k : Nat, kv = .int .i64 (k : Int) ∧ k ≤ 1 ∧ wr = W) (fun kv _ => 2 - (intOf kv).toNat)
      case atStart => exact ⟨0, rfl, by omega, rfl⟩
      case round =>
        obtain ⟨k, rfl, hk, rfl⟩ := hrel
        rcases (show k = 0 ∨ k = 1 by omega) with rfl | rfl
        · go_wp2_with fail
          go_roundw
          case rel => exact ⟨1, rfl, by omega, by trivial⟩
          case measure => simp [intOf]
        · go_wp2_with fail
          go_ret
          exact ⟨rfl, by trivial⟩
  · have q0 : (a == 0) = false := by simpa using e1
    have q1 : (a != 0) = true := by simpa using e1
    go_enter Try.func42, Try.ntmps42
    go_wp2_with fail
    go_loopw [8] (fun kv wr => kv = .int .i64 0 ∧ wr = W) (fun kv _ => 0)
    case atStart => exact ⟨rfl, rfl⟩
    case round =>
      obtain ⟨rfl, rfl⟩ := hrel
      go_wp2_with fail
      go_ret
      exact ⟨rfl, by trivial⟩

set_option maxRecDepth 100000 in
set_option maxHeartbeats 4000000 in
theorem load1_any (w : World) (a b : Int × Int) :
    Calls Try.prog 41 #[Lv.chgV a, Lv.chgV b] w fun e w' => e = .returned (.int .i64 (Lv.byTime a b)) ∧ ∃ q os', w' = grow (w.drewN q) os' := by
  obtain ⟨a1, a2⟩ := a
  obtain ⟨b1, b2⟩ := b
  unfold Lv.chgV Lv.byTime
  simp only
  obtain ⟨x, hx⟩ : ∃ x, AdjS.cmp3 a1 b1 = x := ⟨_, rfl⟩
  obtain ⟨y, hy⟩ : ∃ y, AdjS.cmp3 a2 b2 = y := ⟨_, rfl⟩
  have HX := Lib.hid (fun W => hx ▸ compare_any a1 b1 W)
  have HY := Lib.hid (fun W => hy ▸ compare_any a2 b2 W)
  rw [hx, hy]
  clear hx hy
  have HA := Lib.hid ((Blk.new w 71 #[.int .i64 a1, .int .i64 a2]).alloc (.cells #[.int .i64 b1, .int .i64 b2] 71))
  have HB := Lib.hid (show Blk ((w.alloc (.cells #[.int .i64 a1, .int .i64 a2] 71)).alloc (.cells #[.int .i64 b1, .int .i64 b2] 71)) (w.heap.size + 1) 71 #[.int .i64 b1, .int .i64 b2] by
    have h := Blk.new (w.alloc (.cells #[.int .i64 a1, .int .i64 a2] 71)) 71 #[.int .i64 b1, .int .i64 b2]
    rwa [World.size_alloc] at h)
  go_enter Try.func41, Try.ntmps41
  go_wp2_with fail
  generalize hW0 : (w.alloc (.cells #[.int .i64 a1, .int .i64 a2] 71)).alloc (.cells #[.int .i64 b1, .int .i64 b2] 71) = W0 at HA HB ⊢
  refine wp_region_T (fun w' => (w'.cell? ⟨w.heap.size, 0, none⟩ = some (.int .i64 a1) ∧ w'.cell? ⟨w.heap.size, 1, none⟩ = some (.int .i64 a2)) ∧ w'.cell? ⟨w.heap.size + 1, 0, none⟩ = some (.int .i64 b1) ∧ w'.cell? ⟨w.heap.size + 1, 1, none⟩ = some (.int .i64 b2)) 12 (fun _ => True) 12 13 rfl (by kernel_rfl) ⟨⟨⟨HA.out.cell 0, HA.out.cell 1⟩, HB.out.cell 0, HB.out.cell 1⟩, trivial⟩ (fun hHeld => ?_)
  simp only [List.replicate_succ, List.replicate_zero]
  refine wpT_take 0 5 (v := ?_) hHeld.1 hHeld.2 rfl rfl (by kernel_rfl) (fun _ _ _ h => h) rfl ?_ ?_
  rotate_left
  · (intro w hSw; (try dsimp only at hSw); go_simp; try with_reducible rfl)
  try simp only [Act.put, List.setIfInBounds_toArray, List.set_cons_zero, List.set_cons_succ]
  refine wpT_take 1 6 (v := ?_) hHeld.1 hHeld.2 rfl rfl (by kernel_rfl) (fun _ _ _ h => h) rfl ?_ ?_
  rotate_left
  · (intro w hSw; (try dsimp only at hSw); go_simp; try with_reducible rfl)
  try simp only [Act.put, List.setIfInBounds_toArray, List.set_cons_zero, List.set_cons_succ]
  refine wpT_take 2 7 (v := ?_) hHeld.1 hHeld.2 rfl rfl (by kernel_rfl) (fun _ _ _ h => h) rfl ?_ ?_
  rotate_left
  · (intro w hSw; (try dsimp only at hSw); go_simp; try with_reducible rfl)
  try simp only [Act.put, List.setIfInBounds_toArray, List.set_cons_zero, List.set_cons_succ]
  refine wpT_take 3 8 (v := ?_) hHeld.1 hHeld.2 rfl rfl (by kernel_rfl) (fun _ _ _ h => h) rfl ?_ ?_
  rotate_left
  · (intro w hSw; (try dsimp only at hSw); go_simp; try with_reducible rfl)
  try simp only [Act.put, List.setIfInBounds_toArray, List.set_cons_zero, List.set_cons_succ]
  refine wpT_take 5 10 (v := ?_) hHeld.1 hHeld.2 rfl rfl (by kernel_rfl) (fun _ _ _ h => h) rfl ?_ ?_
  rotate_left
  · (intro w hSw; (try dsimp only at hSw); go_simp; try with_reducible rfl)
  try simp only [Act.put, List.setIfInBounds_toArray, List.set_cons_zero, List.set_cons_succ]
  refine wpT_take 6 11 (v := ?_) hHeld.1 hHeld.2 rfl rfl (by kernel_rfl) (fun _ _ _ h => h) rfl ?_ ?_
  rotate_left
  · (intro w hSw; (try dsimp only at hSw); go_simp; try with_reducible rfl)
  try simp only [Act.put, List.setIfInBounds_toArray, List.set_cons_zero, List.set_cons_succ]
  refine wpT_take 7 12 (v := ?_) hHeld.1 hHeld.2 rfl rfl (by kernel_rfl) (fun _ _ _ h => h) rfl ?_ ?_
  rotate_left
  · (intro w hSw; (try dsimp only at hSw); go_simp; try with_reducible rfl)
  try simp only [Act.put, List.setIfInBounds_toArray, List.set_cons_zero, List.set_cons_succ]
  refine wpT_take 8 13 (v := ?_) hHeld.1 hHeld.2 rfl rfl (by kernel_rfl) (fun _ _ _ h => h) rfl ?_ ?_
  rotate_left
  · (intro w hSw; (try dsimp only at hSw); go_simp; try with_reducible rfl)
  try simp only [Act.put, List.setIfInBounds_toArray, List.set_cons_zero, List.set_cons_succ]
  refine wpT_one 4 (by kernel_rfl) (stepT_early rfl rfl (fun K hK => ?_))
  go_simp
  refine (HX.out _).mono ?_
  rintro e W1 ⟨rfl, rfl⟩
  try go_simp
  refine hK.out _ _ hHeld (fun _ => ?_)
  clear hK K
  try simp only [List.setIfInBounds_toArray, List.set_cons_zero, List.set_cons_succ]
  refine wpT_one 9 (by kernel_rfl) (stepT_early rfl rfl (fun K hK => ?_))
  go_simp
  refine (HY.out _).mono ?_
  rintro e W1 ⟨rfl, rfl⟩
  try go_simp
  refine hK.out _ _ hHeld (fun _ => ?_)
  clear hK K
  try simp only [List.setIfInBounds_toArray, List.set_cons_zero, List.set_cons_succ]
  have hsz : w.heap.size + 1 < W0.heap.size := HB.out.lt
  refine wpT_one 10 (by kernel_rfl) (stepT_early rfl rfl (fun K hK => ?_))
  go_simp
  have HN := Lib.hid ((Blk.new W0 3 #[.int .i64 x, .int .i64 y]).drew)
  have HHE := Lib.hid (show ((( (W0.alloc (.cells #[.int .i64 x, .int .i64 y] 3)).drew).cell? ⟨w.heap.size, 0, none⟩ = some (.int .i64 a1) ∧ ((W0.alloc (.cells #[.int .i64 x, .int .i64 y] 3)).drew).cell? ⟨w.heap.size, 1, none⟩ = some (.int .i64 a2)) ∧ ((W0.alloc (.cells #[.int .i64 x, .int .i64 y] 3)).drew).cell? ⟨w.heap.size + 1, 0, none⟩ = some (.int .i64 b1) ∧ ((W0.alloc (.cells #[.int .i64 x, .int .i64 y] 3)).drew).cell? ⟨w.heap.size + 1, 1, none⟩ = some (.int .i64 b2)) ∧ True from
    ⟨⟨⟨(World.cell?_alloc_lt _ _ _ (by show w.heap.size < _; omega)).trans hHeld.1.1.1, (World.cell?_alloc_lt _ _ _ (by show w.heap.size < _; omega)).trans hHeld.1.1.2⟩, (World.cell?_alloc_lt _ _ _ (by show w.heap.size + 1 < _; omega)).trans hHeld.1.2.1, (World.cell?_alloc_lt _ _ _ (by show w.heap.size + 1 < _; omega)).trans hHeld.1.2.2⟩, trivial⟩)
  have HGR := Lib.hid (show (W0.alloc (.cells #[.int .i64 x, .int .i64 y] 3)).drew = grow (w.drewN 1) #[.cells #[.int .i64 a1, .int .i64 a2] 71, .cells #[.int .i64 b1, .int .i64 b2] 71, .cells #[.int .i64 x, .int .i64 y] 3] by
    rw [← hW0]
    exact Lv.grew w _ _ _)
  refine hK.out _ _ HHE.out (fun hHeld2 => ?_)
  clear hK K hHeld
  have hHeld := hHeld2
  clear hHeld2
  try simp only [List.setIfInBounds_toArray, List.set_cons_zero, List.set_cons_succ]
  generalize hgg : W0.heap.size = gg at HN ⊢
  generalize (W0.alloc (.cells #[.int .i64 x, .int .i64 y] 3)).drew = W2 at HN HGR hHeld ⊢
  refine wpT_one 11 (by kernel_rfl) (stepT_early rfl rfl (fun K hK => ?_))
  go_simp
  refine (or2_any W2 _ x y (HN.out.cell 0) (HN.out.cell 1)).mono ?_
  rintro e W1 ⟨rfl, rfl⟩
  try go_simp
  refine hK.out _ _ hHeld (fun _ => ?_)
  clear hK K
  try simp only [List.setIfInBounds_toArray, List.set_cons_zero, List.set_cons_succ]
  refine wpT_tail [_] 12 [] rfl (by kernel_rfl) ?_
  go_wp2_with fail
  all_goals
    go_ret
    exact ⟨rfl, 1, _, HGR.out⟩
end Go.Proofs.Ytkopkicdmbnpgaa
