/-
  slices.Insert of one at what lies, whole; what Lay sorts by. Conditions: the row is the call's own; what is put in lies elsewhere.
-/
import Derived.Test.YtkopkicdmbnpgaaRoomZe
namespace Go.Proofs.Ytkopkicdmbnpgaa
set_option linter.unusedVariables false
open Go.RowKit Adj

theorem insert_any (w : World) (base : Nat) (L : List AdjL.Laid) (v : Value) (y : AdjL.Laid) (gv k : Nat) (hk : k ≤ L.length) (hbig : L.length ≤ 1048576) (hb0 : base ≤ w.heap.size) (hne : v.ownBlock ≠ some gv)
    (h : w.ownsRow base 78 3 v L.length (Adj.ints (Ld.lints L))) (hgv : Blk w gv 78 (Ld.three' y).toArray) :
    Calls Try.prog 49 #[v, .int .i64 (k : Int), .slice (some ⟨gv, 0, none⟩) 1 1] w fun e w' => ∃ v', e = .returned v' ∧ Ld.Kp base w w' v ∧ w'.ownsRow base 78 3 v' (Ld.putAt L k y).length (Adj.ints (Ld.lints (Ld.putAt L k y))) := by
  by_cases e : k = L.length
  · subst e
    exact insert_end w base L v y gv hbig hb0 h hgv
  · obtain ⟨g, c, hv, _⟩ := h.form (by omega)
    subst hv
    have hc : L.length ≤ c := by
      rcases h.2 with ⟨e1, e2⟩ | ⟨g', cap, cur, e1, _, _, h4, _⟩
      · omega
      · injection e1 with _ _ e3; omega
    by_cases e2 : c = L.length
    · subst e2
      exact insert_grow w base L (.bool true) y gv k L.length g rfl (by omega) hbig hb0 h hgv
    · exact insert_room w base L (.bool true) y gv k L.length c g rfl (by omega) (by omega) hbig hb0 (fun e3 => hne (by rw [e3]; rfl)) h hgv

set_option maxRecDepth 100000 in
set_option maxHeartbeats 4000000 in
theorem layCmp (w : World) (g bl gl off n c : Nat) (l : List AdjL.Life) (hn : l.length = n) (h1 : w.cell? ⟨bl, 0, none⟩ = some (.slice (some ⟨gl, off, none⟩) n c)) (h2 : IntsAt w w.heap.size (some ⟨gl, off, none⟩) (AdjL.flat l)) (h5 : bl ≠ g ∧ gl ≠ g) :
    Sr.CmpOk w g 43 #[.pointer (some ⟨bl, 0, none⟩)] (AdjL.fromOf l) (fun x => 0 ≤ x ∧ x < n) := by
  refine ⟨fun _ _ => rfl, fun x y hx hy W hf => ?_⟩
  obtain ⟨i, rfl⟩ : ∃ i : Nat, x = (i : Int) := ⟨x.toNat, by omega⟩
  obtain ⟨j, rfl⟩ : ∃ j : Nat, y = (j : Int) := ⟨y.toNat, by omega⟩
  have i1 : i < n := by omega
  have j1 : j < n := by omega
  have hget : ∀ k, k < n → AdjL.fromOf l (k : Int) = (AdjL.get l k).f ∧ W.cell? ⟨gl, off + k * 3, none⟩ = some (.int .i64 (AdjL.get l k).f) := fun k hk => by
    have hg : AdjL.get l k = l[k] := by unfold AdjL.get; rw [List.getD_eq_getElem?_getD, List.getElem?_eq_getElem (by omega)]; rfl
    have hc := (Lv.cells h2 (k := k) (by omega)).1
    refine ⟨by unfold AdjL.fromOf; rw [Int.toNat_natCast], ?_⟩
    rw [hg]
    exact (hf.cell (cell_lt hc) h5.2).trans hc
  have c1 := (hf.cell (cell_lt h1) h5.1).trans h1
  have c3 := (hget i i1).2
  have c5 := (hget j j1).2
  show Calls _ _ _ _ fun e W' => e = .returned (.int .i64 (AdjS.cmp3 (AdjL.fromOf l (i : Int)) (AdjL.fromOf l (j : Int)))) ∧ Below W.heap.size W W'
  rw [(hget i i1).1, (hget j j1).1]
  generalize (AdjL.get l i).f = a at c3 ⊢
  generalize (AdjL.get l j).f = b at c5 ⊢
  have HB := Lib.hid (Below.refl W.heap.size W).drew
  have HX := Lib.hid (fun W => compare_any a b W)
  clear h1 h2 h5 hf hx hy hget
  show Calls _ _ #[.int .i64 (i : Int), .int .i64 (j : Int), .pointer (some ⟨bl, 0, none⟩)] _ _
  have him : (i : Int) < (n : Int) := by omega
  have hjm : (j : Int) < (n : Int) := by omega
  have hi0 : (0 : Int) ≤ (i : Int) := by omega
  have hj0 : (0 : Int) ≤ (j : Int) := by omega
  go_enter Try.func43, Try.ntmps43
  go_wp2_with fail
  refine wp_region_T (fun w' => w'.cell? ⟨bl, 0, none⟩ = some (.slice (some ⟨gl, off, none⟩) n c) ∧ w'.cell? ⟨gl, off + i * 3, none⟩ = some (.int .i64 a) ∧ w'.cell? ⟨gl, off + j * 3, none⟩ = some (.int .i64 b)) 11 (fun _ => True) 11 12 rfl (by kernel_rfl) ⟨⟨c1, c3, c5⟩, trivial⟩ (fun hHeld => ?_)
  simp only [List.replicate_succ, List.replicate_zero]
  refine wpT_take 0 6 (v := ?_) hHeld.1 hHeld.2 rfl rfl (by kernel_rfl) (fun _ _ _ h => h) rfl ?_ ?_
  rotate_left
  · (intro w hSw; (try dsimp only at hSw); go_simp; try with_reducible rfl)
  try simp only [Act.put, List.setIfInBounds_toArray, List.set_cons_zero, List.set_cons_succ]
  refine wpT_take 1 7 (v := ?_) hHeld.1 hHeld.2 rfl rfl (by kernel_rfl) (fun _ _ _ h => h) rfl ?_ ?_
  rotate_left
  · (intro w hSw; (try dsimp only at hSw); go_simp; try with_reducible rfl)
  try simp only [Act.put, List.setIfInBounds_toArray, List.set_cons_zero, List.set_cons_succ]
  refine wpT_take 2 8 (v := ?_) hHeld.1 hHeld.2 rfl rfl (by kernel_rfl) (fun _ _ _ h => h) rfl ?_ ?_
  rotate_left
  · (intro w hSw; (try dsimp only at hSw); go_simp; try with_reducible rfl)
  try simp only [Act.put, List.setIfInBounds_toArray, List.set_cons_zero, List.set_cons_succ]
  refine wpT_take 3 9 (v := ?_) hHeld.1 hHeld.2 rfl rfl (by kernel_rfl) (fun _ _ _ h => h) rfl ?_ ?_
  rotate_left
  · (intro w hSw; (try dsimp only at hSw); go_simp; try with_reducible rfl)
  try simp only [Act.put, List.setIfInBounds_toArray, List.set_cons_zero, List.set_cons_succ]
  refine wpT_take 4 10 (v := ?_) hHeld.1 hHeld.2 rfl rfl (by kernel_rfl) (fun _ _ _ h => h) rfl ?_ ?_
  rotate_left
  · (intro w hSw; (try dsimp only at hSw); go_simp; try with_reducible rfl)
  try simp only [Act.put, List.setIfInBounds_toArray, List.set_cons_zero, List.set_cons_succ]
  refine wpT_take 5 11 (v := ?_) hHeld.1 hHeld.2 rfl rfl (by kernel_rfl) (fun _ _ _ h => h) rfl ?_ ?_
  rotate_left
  · (intro w hSw; (try dsimp only at hSw); go_simp; try with_reducible rfl)
  try simp only [Act.put, List.setIfInBounds_toArray, List.set_cons_zero, List.set_cons_succ]
  refine wpT_take 6 12 (v := ?_) hHeld.1 hHeld.2 rfl rfl (by kernel_rfl) (fun _ _ _ h => h) rfl ?_ ?_
  rotate_left
  · (intro w hSw; (try dsimp only at hSw); go_simp; try with_reducible rfl)
  try simp only [Act.put, List.setIfInBounds_toArray, List.set_cons_zero, List.set_cons_succ]
  refine wpT_take 7 13 (v := ?_) hHeld.1 hHeld.2 rfl rfl (by kernel_rfl) (fun _ _ _ h => h) rfl ?_ ?_
  rotate_left
  · (intro w hSw; (try dsimp only at hSw); go_simp; try with_reducible rfl)
  try simp only [Act.put, List.setIfInBounds_toArray, List.set_cons_zero, List.set_cons_succ]
  refine wpT_take 8 14 (v := ?_) hHeld.1 hHeld.2 rfl rfl (by kernel_rfl) (fun _ _ _ h => h) rfl ?_ ?_
  rotate_left
  · (intro w hSw; (try dsimp only at hSw); go_simp; try with_reducible rfl)
  try simp only [Act.put, List.setIfInBounds_toArray, List.set_cons_zero, List.set_cons_succ]
  refine wpT_take 9 15 (v := ?_) hHeld.1 hHeld.2 rfl rfl (by kernel_rfl) (fun _ _ _ h => h) rfl ?_ ?_
  rotate_left
  · (intro w hSw; (try dsimp only at hSw); go_simp; try with_reducible rfl)
  try simp only [Act.put, List.setIfInBounds_toArray, List.set_cons_zero, List.set_cons_succ]
  refine wpT_one 10 (by kernel_rfl) (stepT_early rfl rfl (fun K hK => ?_))
  go_simp
  refine (HX.out _).mono ?_
  rintro e W1 ⟨rfl, rfl⟩
  try go_simp
  refine hK.out _ _ hHeld (fun _ => ?_)
  clear hK K
  try simp only [List.setIfInBounds_toArray, List.set_cons_zero, List.set_cons_succ]
  refine wpT_tail [_] 11 [] rfl (by kernel_rfl) ?_
  go_wp2_with fail
  go_ret
  exact ⟨rfl, HB.out⟩
end Go.Proofs.Ytkopkicdmbnpgaa
