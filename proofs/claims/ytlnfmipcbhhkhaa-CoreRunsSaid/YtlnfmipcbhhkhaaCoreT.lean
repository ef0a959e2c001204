/-
  The walk of step. Conditions: the machine's state lies there, the engine can go on.
-/
import Derived.Test.YtlnfmipcbhhkhaaCoreS
import Derived.Test.YtlnfmipcbhhkhaaCorePlain8
namespace Go.Proofs.Ytlnfmipcbhhkhaa
set_option linter.unusedVariables false
open Go.RowKit Adj

namespace Cr
/-- While step works: the state, and the instruction in a block of its own. -/
structure Tx (w : World) (k : Sk) (c : AdjC.Code) (s : AdjC.St) (x : AdjC.I) (ib : Nat) (wr : World) : Prop where
  st : Sb w k c s wr
  ins : Blk wr ib 42 #[.int .i64 x.d, .int .i64 x.a, .int .i64 x.b, .int .i64 x.c, .int .i64 x.n, .int .i64 x.v]
  low : 0 < s.pad.length → k.gp < ib
  lowm : 0 < s.mem.length → k.gm < ib
  lowg : k.g < ib
theorem loadK_next (x : AdjC.I) (pad mem : List Int) (j p q : Nat) (h : x.a = (p : Int)) (hq : x.b + (j : Int) * x.c = (q : Int)) : AdjC.loadK x pad mem (j + 1) = AdjC.put (AdjC.loadK x pad mem j) ((p + j : Nat) : Int) (AdjC.at_ mem (q : Int)) := by
  show AdjC.put (AdjC.loadK x pad mem j) (x.a + (j : Int)) (AdjC.at_ mem (x.b + (j : Int) * x.c)) = _
  rw [h, hq, show (p : Int) + (j : Int) = ((p + j : Nat) : Int) by omega]
theorem storeK_next (x : AdjC.I) (pad mem : List Int) (j p q : Nat) (h : x.a = (p : Int)) (hq : x.b + (j : Int) * x.c = (q : Int)) : AdjC.storeK x pad mem (j + 1) = AdjC.put (AdjC.storeK x pad mem j) (q : Int) (AdjC.at_ pad ((p + j : Nat) : Int)) := by
  show AdjC.put (AdjC.storeK x pad mem j) (x.b + (j : Int) * x.c) (AdjC.at_ pad (x.a + (j : Int))) = _
  rw [h, hq, show (p : Int) + (j : Int) = ((p + j : Nat) : Int) by omega]
theorem doI_i (x : AdjC.I) (s : AdjC.St) (m : Nat) : { AdjC.doI x s with i := m } = AdjC.doI x { s with i := m } := by
  unfold AdjC.doI
  repeat' split
  all_goals rfl
theorem doI_j (x : AdjC.I) (s : AdjC.St) (m : Nat) : { AdjC.doI x s with j := m } = AdjC.doI x { s with j := m } := by
  unfold AdjC.doI
  repeat' split
  all_goals rfl
theorem sumK_next (x : AdjC.I) (pad : List Int) (j q r : Nat) (h : x.b = (q : Int)) (hq : x.c = (r : Int)) : AdjC.sumK x pad (j + 1) = wrap64 (AdjC.sumK x pad j + wrap64 (AdjC.at_ pad ((q + j : Nat) : Int) * AdjC.at_ pad ((r + j : Nat) : Int))) := by
  show wrap64 (AdjC.sumK x pad j + wrap64 (AdjC.at_ pad (x.b + (j : Int)) * AdjC.at_ pad (x.c + (j : Int)))) = _
  rw [h, hq, show (q : Int) + (j : Int) = ((q + j : Nat) : Int) by omega, show (r : Int) + (j : Int) = ((r + j : Nat) : Int) by omega]
theorem doI_rest (x : AdjC.I) (s : AdjC.St) (h : x.d ≠ 1 ∧ x.d ≠ 2 ∧ x.d ≠ 3 ∧ x.d ≠ 4 ∧ x.d ≠ 13) : AdjC.doI x s = { s with pad := AdjC.eachK x s.pad x.n.toNat } := by
  unfold AdjC.doI
  rw [if_neg h.1, if_neg h.2.1, if_neg h.2.2.1, if_neg h.2.2.2.1, if_neg h.2.2.2.2]
theorem tests_rest {d : Int} (h : 5 ≤ d ∧ d ≠ 13) : (d == 1) = false ∧ (d == 2) = false ∧ (d == 3) = false ∧ (d == 4) = false ∧ (d == 13) = false := by
  refine ⟨?_, ?_, ?_, ?_, ?_⟩ <;> simp <;> omega
theorem seven_alloc {g p b q : Nat} {v v0 v1 v2 v3 v4 v5 : Value} {W : World} (h : W.cell? ⟨g, p, none⟩ = some v ∧ W.cell? ⟨b, q, none⟩ = some v0 ∧ W.cell? ⟨b, q + 1, none⟩ = some v1 ∧ W.cell? ⟨b, q + 2, none⟩ = some v2 ∧ W.cell? ⟨b, q + 3, none⟩ = some v3 ∧ W.cell? ⟨b, q + 4, none⟩ = some v4 ∧ W.cell? ⟨b, q + 5, none⟩ = some v5) (hs : g < W.heap.size ∧ b < W.heap.size) (o : Obj) :
    (W.alloc o).cell? ⟨g, p, none⟩ = some v ∧ (W.alloc o).cell? ⟨b, q, none⟩ = some v0 ∧ (W.alloc o).cell? ⟨b, q + 1, none⟩ = some v1 ∧ (W.alloc o).cell? ⟨b, q + 2, none⟩ = some v2 ∧ (W.alloc o).cell? ⟨b, q + 3, none⟩ = some v3 ∧ (W.alloc o).cell? ⟨b, q + 4, none⟩ = some v4 ∧ (W.alloc o).cell? ⟨b, q + 5, none⟩ = some v5 := by
  have e : ∀ b i, b < W.heap.size → (W.alloc o).cell? ⟨b, i, none⟩ = W.cell? ⟨b, i, none⟩ := fun b i hb => World.cell?_alloc_lt _ _ _ hb
  obtain ⟨h, h0, h1, h2, h3, h4, h5⟩ := h
  exact ⟨(e _ _ hs.1).trans h, (e _ _ hs.2).trans h0, (e _ _ hs.2).trans h1, (e _ _ hs.2).trans h2, (e _ _ hs.2).trans h3, (e _ _ hs.2).trans h4, (e _ _ hs.2).trans h5⟩
section
variable {w wr wr' : World} {k : Sk} {c : AdjC.Code} {s : AdjC.St} {x : AdjC.I} {ib : Nat}
theorem Tx.below (h : Tx w k c s x ib wr) (hb : Below wr.heap.size wr wr') : Tx w k c s x ib wr' := ⟨h.st.below hb, h.ins.below hb h.ins.lt, h.low, h.lowm, h.lowg⟩
theorem Tx.drew (h : Tx w k c s x ib wr) : Tx w k c s x ib wr.drew := ⟨h.st.drew, h.ins, h.low, h.lowm, h.lowg⟩
theorem Tx.drewN (h : Tx w k c s x ib wr) (m : Nat) : Tx w k c s x ib (wr.drewN m) := ⟨h.st.drewN m, h.ins, h.low, h.lowm, h.lowg⟩
theorem Tx.put (h : Tx w k c s x ib wr) {j : Nat} (hj : j < s.pad.length) (v : Int) : Tx w k c { s with pad := AdjC.put s.pad (j : Int) v } x ib (wr.setCell ⟨k.gp, j, none⟩ (.int .i64 v)) := by
  have hg := h.low (by omega)
  exact ⟨h.st.set_pad hj v, h.ins.far (p := ⟨k.gp, j, none⟩) (by simp; omega) _, fun _ => hg, h.lowm, h.lowg⟩
theorem Tx.putM (h : Tx w k c s x ib wr) {j : Nat} (hj : j < s.mem.length) (v : Int) : Tx w k c { s with mem := AdjC.put s.mem (j : Int) v } x ib (wr.setCell ⟨k.gm, j, none⟩ (.int .i64 v)) := by
  have hg := h.lowm (by omega)
  exact ⟨h.st.set_mem hj v, h.ins.far (p := ⟨k.gm, j, none⟩) (by simp; omega) _, h.low, fun _ => hg, h.lowg⟩
theorem Tx.sem (h : Tx w k c s x ib wr) (hl : s.sems.length = 16) {j : Nat} (hj : j < 16) (v : Int) : Tx w k c { s with sems := AdjC.put s.sems (j : Int) v } x ib (wr.setCell ⟨k.g, 6 + j, none⟩ (.int .i64 v)) :=
  ⟨h.st.set_sem hl hj v, h.ins.far (p := ⟨k.g, 6 + j, none⟩) (Nat.ne_of_gt h.lowg) _, h.low, h.lowm, h.lowg⟩
theorem Tx.set_i (h : Tx w k c s x ib wr) (hl : s.sems.length = 16) (m : Nat) : Tx w k c { s with i := m } x ib (wr.setCell ⟨k.g, 22, none⟩ (.int .i64 (m : Int))) :=
  ⟨h.st.set_i hl m, h.ins.far (p := ⟨k.g, 22, none⟩) (Nat.ne_of_gt h.lowg) _, h.low, h.lowm, h.lowg⟩
theorem Tx.set_j (h : Tx w k c s x ib wr) (hl : s.sems.length = 16) (m : Nat) : Tx w k c { s with j := m } x ib (wr.setCell ⟨k.g, 23, none⟩ (.int .i64 (m : Int))) :=
  ⟨h.st.set_j hl m, h.ins.far (p := ⟨k.g, 23, none⟩) (Nat.ne_of_gt h.lowg) _, h.low, h.lowm, h.lowg⟩
/-- The instruction laid in a new block. -/
theorem Tx.made {W : World} (h : Sb w k c s W) (x : AdjC.I) : Tx w k c s x W.heap.size (W.alloc (.cells #[.int .i64 x.d, .int .i64 x.a, .int .i64 x.b, .int .i64 x.c, .int .i64 x.n, .int .i64 x.v] 42)) :=
  ⟨h.alloc _, Blk.new _ _ _, fun hp => h.pad.lt hp, fun hp => h.mem.lt hp, h.lt⟩
end
end Cr
set_option maxRecDepth 100000 in
set_option maxHeartbeats 8000000 in
theorem step_mover (w wr : World) (k : Cr.Sk) (c : AdjC.Code) (s : AdjC.St) (h : Cr.Sb w k c s wr) (ho : AdjC.Ok c s) (hw : AdjC.wrong c = 0) (hc : AdjC.canA c s = true) :
    Calls Try.prog 20 #[.pointer (some ⟨k.g, 0, none⟩), .int .i64 0] wr fun e w' => e = .returned (.tuple #[]) ∧ Cr.Sb w k c (AdjC.stepA c s) w' := by
  have HO := Lib.hid (fun W (hb : Cr.Sb w k c s W) => of_mover w W k c s hb)
  have HS := Lib.hid h
  have hsem := ho.sems
  have a1 := h.i_at hsem
  have hlen := (AdjC.wrong_zero hw).2.1
  have hij := ho.i
  have HOK := Lib.hid ho
  have HSE := Lib.hid hsem
  obtain ⟨hlt, hrd⟩ := AdjC.canA_at hc
  have HWX := Lib.hid ((AdjC.wrong_zero hw).2.2.1 _ (List.getElem_mem hlt))
  have HZ := Lib.hid (AdjC.wrong_zero hw).1
  have HST := Lib.hid (AdjC.stepA_at (c := c) (s := s) hlt)
  obtain ⟨b, off, hA, hbl⟩ := HS.out.mov.spot (by rw [AdjC.flat_length]; omega)
  obtain ⟨x, hx⟩ : ∃ x, c.mover[s.i] = x := ⟨_, rfl⟩
  rw [hx] at HWX HST hrd
  have hm := HS.out.mov.below HS.out.bel
  rw [hA] at hm
  obtain ⟨x0, x1, x2, x3, x4, x5⟩ := Cr.six_cells hm hlt hx
  have HRD := Lib.hid hrd
  have hzr := HS.out.lt
  have HA := Lib.hid hA
  clear h ho hw hsem hc hx hm hA hrd
  go_enter Try.func20, Try.ntmps20
  go_upto_region 0 with (fail)
  go_cut [4] (fun s4 wx => s4 = .pointer (some ⟨wr.heap.size, 0, none⟩) ∧ Cr.Tx w k c s x wr.heap.size wx)
  case first =>
    refine wp_region_T (fun w' => w'.cell? ⟨k.g, 22, none⟩ = some (.int .i64 (s.i : Int)) ∧ w'.cell? ⟨b, off + s.i * 6, none⟩ = some (.int .i64 x.d) ∧ w'.cell? ⟨b, off + s.i * 6 + 1, none⟩ = some (.int .i64 x.a) ∧ w'.cell? ⟨b, off + s.i * 6 + 2, none⟩ = some (.int .i64 x.b) ∧ w'.cell? ⟨b, off + s.i * 6 + 3, none⟩ = some (.int .i64 x.c) ∧ w'.cell? ⟨b, off + s.i * 6 + 4, none⟩ = some (.int .i64 x.n) ∧ w'.cell? ⟨b, off + s.i * 6 + 5, none⟩ = some (.int .i64 x.v)) 12 (fun _ => True) 12 13 rfl (by kernel_rfl) ⟨⟨a1, x0, x1, x2, x3, x4, x5⟩, trivial⟩ (fun hHeld => ?_)
    simp only [List.replicate_succ, List.replicate_zero]
    refine wpT_take 0 9 (v := ?_) hHeld.1 hHeld.2 rfl rfl (by kernel_rfl) (fun _ _ _ h => h) rfl ?_ ?_
    rotate_left
    · (intro w hSw; (try dsimp only at hSw); go_simp; try with_reducible rfl)
    try simp only [Act.put, List.setIfInBounds_toArray, List.set_cons_zero, List.set_cons_succ]
    refine wpT_take 1 10 (v := ?_) hHeld.1 hHeld.2 rfl rfl (by kernel_rfl) (fun _ _ _ h => h) rfl ?_ ?_
    rotate_left
    · (intro w hSw; (try dsimp only at hSw); go_simp; try with_reducible rfl)
    try simp only [Act.put, List.setIfInBounds_toArray, List.set_cons_zero, List.set_cons_succ]
    refine wpT_take 3 12 (v := ?_) hHeld.1 hHeld.2 rfl rfl (by kernel_rfl) (fun _ _ _ h => h) rfl ?_ ?_
    rotate_left
    · (intro w hSw; (try dsimp only at hSw); go_simp; try with_reducible rfl)
    try simp only [Act.put, List.setIfInBounds_toArray, List.set_cons_zero, List.set_cons_succ]
    refine wpT_take 4 13 (v := ?_) hHeld.1 hHeld.2 rfl rfl (by kernel_rfl) (fun _ _ _ h => h) rfl ?_ ?_
    rotate_left
    · (intro w hSw; (try dsimp only at hSw); go_simp; try with_reducible rfl)
    try simp only [Act.put, List.setIfInBounds_toArray, List.set_cons_zero, List.set_cons_succ]
    refine wpT_take 5 14 (v := ?_) hHeld.1 hHeld.2 rfl rfl (by kernel_rfl) (fun _ _ _ h => h) rfl ?_ ?_
    rotate_left
    · (intro w hSw; (try dsimp only at hSw); go_simp; try with_reducible rfl)
    try simp only [Act.put, List.setIfInBounds_toArray, List.set_cons_zero, List.set_cons_succ]
    refine wpT_take 6 15 (v := ?_) hHeld.1 hHeld.2 rfl rfl (by kernel_rfl) (fun _ _ _ h => h) rfl ?_ ?_
    rotate_left
    · (intro w hSw; (try dsimp only at hSw); go_simp; try with_reducible rfl)
    try simp only [Act.put, List.setIfInBounds_toArray, List.set_cons_zero, List.set_cons_succ]
    refine wpT_take 7 16 (v := ?_) hHeld.1 hHeld.2 rfl rfl (by kernel_rfl) (fun _ _ _ h => h) rfl ?_ ?_
    rotate_left
    · (intro w hSw; (try dsimp only at hSw); go_simp; try with_reducible rfl)
    try simp only [Act.put, List.setIfInBounds_toArray, List.set_cons_zero, List.set_cons_succ]
    refine wpT_take 8 17 (v := ?_) hHeld.1 hHeld.2 rfl rfl (by kernel_rfl) (fun _ _ _ h => h) rfl ?_ ?_
    rotate_left
    · (intro w hSw; (try dsimp only at hSw); go_simp; try with_reducible rfl)
    try simp only [Act.put, List.setIfInBounds_toArray, List.set_cons_zero, List.set_cons_succ]
    have HSD := Lib.hid HS.out.drew
    have hzW : k.g < wr.drew.heap.size ∧ b < wr.drew.heap.size := ⟨hzr, Nat.lt_of_lt_of_le hbl HS.out.bel.size⟩
    have hzE : wr.drew.heap.size = wr.heap.size := rfl
    generalize wr.drew = W at HSD hHeld hzW hzE ⊢
    have HZE := Lib.hid hzE
    clear hzE
    refine wpT_two 2 11 (by kernel_rfl) (stepT_early rfl rfl (fun K hK => ?_)) (stepT_early rfl rfl (fun K hK => ?_))
    · go_simp
      ((with_reducible refine (HO.out _ HSD.out).mono ?_); rintro e w' ⟨rfl, rfl⟩)
      rw [HA.out]
      try go_simp
      refine hK.out _ _ ⟨hHeld.1, trivial⟩ (fun hHeld2 => ?_)
      clear hK K hHeld
      have hHeld := hHeld2
      clear hHeld2
      try simp only [List.setIfInBounds_toArray, List.set_cons_zero, List.set_cons_succ]
      refine wpT_take 9 18 (v := ?_) hHeld.1 hHeld.2 rfl rfl (by kernel_rfl) (fun _ _ _ h => h) rfl ?_ ?_
      rotate_left
      · (intro w hSw; (try dsimp only at hSw); go_simp; try with_reducible rfl)
      try simp only [Act.put, List.setIfInBounds_toArray, List.set_cons_zero, List.set_cons_succ]
      refine wpT_take 10 19 (v := ?_) hHeld.1 hHeld.2 rfl rfl (by kernel_rfl) (fun _ _ _ h => h) rfl ?_ ?_
      rotate_left
      · (intro w hSw; (try dsimp only at hSw); go_simp; try with_reducible rfl)
      try simp only [Act.put, List.setIfInBounds_toArray, List.set_cons_zero, List.set_cons_succ]
      refine wpT_one 11 (by kernel_rfl) (stepT_early rfl rfl (fun K hK => ?_))
      go_simp
      refine hK.out _ _ ⟨Cr.seven_alloc hHeld.1 hzW _, trivial⟩ (fun hHeld2 => ?_)
      clear hK K hHeld
      have hHeld := hHeld2
      clear hHeld2
      try simp only [List.setIfInBounds_toArray, List.set_cons_zero, List.set_cons_succ]
      refine wpT_tail [_] 12 [] rfl (by kernel_rfl) ?_
      go_wp2_with fail
      go_meet
      case rel =>
        exact ⟨by rw [HZE.out], by rw [← HZE.out]; exact Cr.Tx.made HSD.out x⟩
    · go_simp
      refine hK.out _ _ ⟨Cr.seven_alloc hHeld.1 hzW _, trivial⟩ (fun hHeld2 => ?_)
      clear hK K hHeld
      have hHeld := hHeld2
      clear hHeld2
      try simp only [List.setIfInBounds_toArray, List.set_cons_zero, List.set_cons_succ]
      refine wpT_one 2 (by kernel_rfl) (stepT_early rfl rfl (fun K hK => ?_))
      go_simp
      ((with_reducible refine (HO.out _ (HSD.out.alloc _)).mono ?_); rintro e w' ⟨rfl, rfl⟩)
      rw [HA.out]
      try go_simp
      refine hK.out _ _ ⟨hHeld.1, trivial⟩ (fun hHeld2 => ?_)
      clear hK K hHeld
      have hHeld := hHeld2
      clear hHeld2
      try simp only [List.setIfInBounds_toArray, List.set_cons_zero, List.set_cons_succ]
      refine wpT_take 9 18 (v := ?_) hHeld.1 hHeld.2 rfl rfl (by kernel_rfl) (fun _ _ _ h => h) rfl ?_ ?_
      rotate_left
      · (intro w hSw; (try dsimp only at hSw); go_simp; try with_reducible rfl)
      try simp only [Act.put, List.setIfInBounds_toArray, List.set_cons_zero, List.set_cons_succ]
      refine wpT_take 10 19 (v := ?_) hHeld.1 hHeld.2 rfl rfl (by kernel_rfl) (fun _ _ _ h => h) rfl ?_ ?_
      rotate_left
      · (intro w hSw; (try dsimp only at hSw); go_simp; try with_reducible rfl)
      try simp only [Act.put, List.setIfInBounds_toArray, List.set_cons_zero, List.set_cons_succ]
      refine wpT_tail [_] 12 [] rfl (by kernel_rfl) ?_
      go_wp2_with fail
      go_meet
      case rel =>
        exact ⟨by rw [HZE.out], by rw [← HZE.out]; exact Cr.Tx.made HSD.out x⟩
  case rest =>
    obtain ⟨rfl, ht⟩ := hcut
    have HT := Lib.hid ht
    have a2 := ht.st.i_at HSE.out
    clear ht x0 x1 x2 x3 x4 x5 a1 HO HS
    go_upto_region 1 with (fail)
    go_cut [26] (fun s26 wx => Cr.Tx w k c { s with i := s.i + 1 } x wr.heap.size wx)
    case first =>
      refine wp_region_T (fun w' => w'.cell? ⟨k.g, 22, none⟩ = some (.int .i64 (s.i : Int))) 10 (fun _ => True) 10 11 rfl (by kernel_rfl) ⟨a2, trivial⟩ (fun hHeld => ?_)
      simp only [List.replicate_succ, List.replicate_zero]
      refine wpT_take 0 20 (v := ?_) hHeld.1 hHeld.2 rfl rfl (by kernel_rfl) (fun _ _ _ h => h) rfl ?_ ?_
      rotate_left
      · (intro w hSw; (try dsimp only at hSw); go_simp; try with_reducible rfl)
      try simp only [Act.put, List.setIfInBounds_toArray, List.set_cons_zero, List.set_cons_succ]
      refine wpT_take 1 21 (v := ?_) hHeld.1 hHeld.2 rfl rfl (by kernel_rfl) (fun _ _ _ h => h) rfl ?_ ?_
      rotate_left
      · (intro w hSw; (try dsimp only at hSw); go_simp; try with_reducible rfl)
      try simp only [Act.put, List.setIfInBounds_toArray, List.set_cons_zero, List.set_cons_succ]
      refine wpT_take 2 22 (v := ?_) hHeld.1 hHeld.2 rfl rfl (by kernel_rfl) (fun _ _ _ h => h) rfl ?_ ?_
      rotate_left
      · (intro w hSw; (try dsimp only at hSw); go_simp; try with_reducible rfl)
      try simp only [Act.put, List.setIfInBounds_toArray, List.set_cons_zero, List.set_cons_succ]
      refine wpT_take 3 23 (v := ?_) hHeld.1 hHeld.2 rfl rfl (by kernel_rfl) (fun _ _ _ h => h) rfl ?_ ?_
      rotate_left
      · (intro w hSw; (try dsimp only at hSw); go_simp; try with_reducible rfl)
      try simp only [Act.put, List.setIfInBounds_toArray, List.set_cons_zero, List.set_cons_succ]
      refine wpT_take 4 24 (v := ?_) hHeld.1 hHeld.2 rfl rfl (by kernel_rfl) (fun _ _ _ h => h) rfl ?_ ?_
      rotate_left
      · (intro w hSw; (try dsimp only at hSw); go_simp; try with_reducible rfl)
      try simp only [Act.put, List.setIfInBounds_toArray, List.set_cons_zero, List.set_cons_succ]
      refine wpT_take 5 25 (v := ?_) hHeld.1 hHeld.2 rfl rfl (by kernel_rfl) (fun _ _ _ h => h) rfl ?_ ?_
      rotate_left
      · (intro w hSw; (try dsimp only at hSw); go_simp; try with_reducible rfl)
      try simp only [Act.put, List.setIfInBounds_toArray, List.set_cons_zero, List.set_cons_succ]
      refine wpT_take 6 26 (v := ?_) hHeld.1 hHeld.2 rfl rfl (by kernel_rfl) (fun _ _ _ h => h) rfl ?_ ?_
      rotate_left
      · (intro w hSw; (try dsimp only at hSw); go_simp; try with_reducible rfl)
      try simp only [Act.put, List.setIfInBounds_toArray, List.set_cons_zero, List.set_cons_succ]
      refine wpT_takeP 7 27 (v := ?_) ⟨fun _ => hHeld.1, fun _ => hHeld.2⟩ rfl rfl (by kernel_rfl) (fun _ _ _ h => h) rfl ?_ ?_
      rotate_left
      · (intro w; go_simp; try with_reducible rfl)
      try simp only [Act.put, List.setIfInBounds_toArray, List.set_cons_zero, List.set_cons_succ]
      refine wpT_takeP 8 28 (v := ?_) ⟨fun _ => hHeld.1, fun _ => hHeld.2⟩ rfl rfl (by kernel_rfl) (fun _ _ _ h => h) rfl ?_ ?_
      rotate_left
      · (intro w; go_simp; try with_reducible rfl)
      try simp only [Act.put, List.setIfInBounds_toArray, List.set_cons_zero, List.set_cons_succ]
      refine wpT_take 9 29 (v := ?_) hHeld.1 hHeld.2 rfl rfl (by kernel_rfl) (fun _ _ _ h => h) rfl ?_ ?_
      rotate_left
      · (intro w hSw; (try dsimp only at hSw); go_simp; try with_reducible rfl)
      try simp only [Act.put, List.setIfInBounds_toArray, List.set_cons_zero, List.set_cons_succ]
      have HTD := Lib.hid HT.out.drew
      generalize wc.drew = W at HTD hHeld ⊢
      have q := HTD.out.st.i_at HSE.out
      have f := HTD.out.st.froz 22
      have HTF := Lib.hid (HTD.out.set_i HSE.out (s.i + 1))
      refine wpT_tail [_] 10 [] rfl (by kernel_rfl) ?_
      clear hHeld a2
      go_wp2_with fail
      go_meet
      case rel => exact HTF.out
    case rest =>
      have HT1 := Lib.hid hcut
      clear hcut a2 HT
      have HDO := Lib.hid (show AdjC.stepA c s = AdjC.doI x { s with i := s.i + 1 } by rw [HST.out]; exact Cr.doI_i x s (s.i + 1))
      have hpl : (s.pad.length : Int) = c.pad := HOK.out.pad
      have hml : (s.mem.length : Int) = c.mem := HOK.out.mem
      have hpz := HZ.out
      have HSL := Lib.hid (show ({ s with i := s.i + 1 } : AdjC.St).sems.length = 16 from HSE.out)
      have HRG := Lib.hid (show ∀ v ∈ ({ s with i := s.i + 1 } : AdjC.St).sems, 0 ≤ v ∧ v ≤ 524288 from fun v hv => by
        have h1 := HOK.out.range v hv
        have h2 := HOK.out.i
        have h3 := HOK.out.j
        omega)
      have hpl1 : (({ s with i := s.i + 1 } : AdjC.St).pad.length : Int) = c.pad := hpl
      have hml1 : (({ s with i := s.i + 1 } : AdjC.St).mem.length : Int) = c.mem := hml
      clear hpl hml
      generalize ({ s with i := s.i + 1 } : AdjC.St) = s1 at HT1 HSL HRG hpl1 hml1 HDO
      clear HST HOK HSE HA hbl hij hlt hlen HZ
      generalize wr.heap.size = ib at HT1 hzr ⊢
      have HPL := Lib.hid hpl1
      have HML := Lib.hid hml1
      clear hpl1 hml1
      obtain ⟨d, a, b2, c', n, v⟩ := x
      rcases AdjC.right_mover HWX.out with hd | hd | hd | hd
      · simp only at hd
        subst hd
        obtain ⟨mn, mp, mq⟩ := AdjC.right_moves HWX.out (.inl rfl)
        simp only at mn mp mq
        obtain ⟨n, rfl⟩ : ∃ m : Nat, n = (m : Int) := ⟨n.toNat, by omega⟩
        have HMQ := Lib.hid mq
        have HDL := Lib.hid (show AdjC.doI ⟨1, a, b2, c', (n : Int), v⟩ s1 = { s1 with pad := AdjC.loadK ⟨1, a, b2, c', (n : Int), v⟩ s1.pad s1.mem n } from rfl)
        have n0 := HT1.out.ins.cell 0
        have n4 := HT1.out.ins.cell 4
        clear mq
        go_wp2_with fail
        clear n0 n4
        go_loopw [39] (fun i wr => ∃ j : Nat, j ≤ n ∧ i = .int .i64 (j : Int) ∧ Cr.Tx w k c { s1 with pad := AdjC.loadK ⟨1, a, b2, c', (n : Int), v⟩ s1.pad s1.mem j } ⟨1, a, b2, c', (n : Int), v⟩ ib wr) (fun i _ => n - (intOf i).toNat)
        case atStart => exact ⟨0, by omega, rfl, HT1.out⟩
        case round =>
          obtain ⟨j, hj, rfl, he⟩ := hrel
          have HJ := Lib.hid he
          clear he
          have n4 := HJ.out.ins.cell 4
          by_cases hlt : j < n
          · obtain ⟨p, rfl⟩ : ∃ p : Nat, a = (p : Int) := ⟨a.toNat, by have := mp (by omega); omega⟩
            have hpn : p + n ≤ s1.pad.length := by have := mp (by omega); have := HPL.out; omega
            obtain ⟨hq1, hq2⟩ := HMQ.out (j : Int) (by omega) (by omega)
            obtain ⟨m, hm⟩ : ∃ m : Int, (j : Int) * c' = m := ⟨_, rfl⟩
            rw [hm] at hq1 hq2
            obtain ⟨q, hq⟩ : ∃ q : Nat, b2 + m = (q : Int) := ⟨(b2 + m).toNat, by omega⟩
            have hqm : q < s1.mem.length := by have := HML.out; omega
            have hmlen : s1.mem.length ≤ 1048576 := by have := HML.out; omega
            have HNX := Lib.hid (Cr.loadK_next ⟨1, (p : Int), b2, c', (n : Int), v⟩ s1.pad s1.mem j p q rfl (by simp only; rw [hm, hq]))
            have b4 := HJ.out.st.pad_at
            rw [HJ.out.st.pad.some_ (by simp only [AdjC.loadK_length]; omega)] at b4
            simp only [AdjC.loadK_length] at b4
            have b5 := HJ.out.st.mem_at
            rw [HJ.out.st.mem.some_ (by simp only; omega)] at b5
            simp only at b5
            have b6 := HJ.out.st.mem.cell (k := q) hqm
            simp only at b6
            have n1 := HJ.out.ins.cell 1
            have n2 := HJ.out.ins.cell 2
            have n3 := HJ.out.ins.cell 3
            go_wp2_with fail
            have wm : IntKind.i64.wrap m = m := IntWalk.i64_in _ (by omega)
            have wq : IntKind.i64.wrap (q : Int) = (q : Int) := IntWalk.i64_in _ (by omega)
            refine wp_region_T (fun w' => w'.cell? ⟨k.g, 4, none⟩ = some (.slice (some ⟨k.gp, 0, none⟩) s1.pad.length k.cp) ∧ w'.cell? ⟨k.g, 5, none⟩ = some (.slice (some ⟨k.gm, 0, none⟩) s1.mem.length k.cm) ∧ w'.cell? ⟨ib, 1, none⟩ = some (.int .i64 (p : Int)) ∧ w'.cell? ⟨ib, 2, none⟩ = some (.int .i64 b2) ∧ w'.cell? ⟨ib, 3, none⟩ = some (.int .i64 c') ∧ w'.cell? ⟨k.gm, q, none⟩ = some (.int .i64 (AdjC.at_ s1.mem (q : Int)))) 21 (fun _ => True) 21 23 rfl (by kernel_rfl) ⟨⟨b4, b5, n1, n2, n3, b6⟩, trivial⟩ (fun hHeld => ?_)
            simp only [List.replicate_succ, List.replicate_zero]
            refine wpT_take 0 42 (v := ?_) hHeld.1 hHeld.2 rfl rfl (by kernel_rfl) (fun _ _ _ h => h) rfl ?_ ?_
            rotate_left
            · (intro w hSw; (try dsimp only at hSw); go_simp; try with_reducible rfl)
            try simp only [Act.put, List.setIfInBounds_toArray, List.set_cons_zero, List.set_cons_succ]
            refine wpT_take 1 43 (v := ?_) hHeld.1 hHeld.2 rfl rfl (by kernel_rfl) (fun _ _ _ h => h) rfl ?_ ?_
            rotate_left
            · (intro w hSw; (try dsimp only at hSw); go_simp; try with_reducible rfl)
            try simp only [Act.put, List.setIfInBounds_toArray, List.set_cons_zero, List.set_cons_succ]
            refine wpT_take 2 44 (v := ?_) hHeld.1 hHeld.2 rfl rfl (by kernel_rfl) (fun _ _ _ h => h) rfl ?_ ?_
            rotate_left
            · (intro w hSw; (try dsimp only at hSw); go_simp; try with_reducible rfl)
            try simp only [Act.put, List.setIfInBounds_toArray, List.set_cons_zero, List.set_cons_succ]
            refine wpT_take 3 45 (v := ?_) hHeld.1 hHeld.2 rfl rfl (by kernel_rfl) (fun _ _ _ h => h) rfl ?_ ?_
            rotate_left
            · (intro w hSw; (try dsimp only at hSw); go_simp; try with_reducible rfl)
            try simp only [Act.put, List.setIfInBounds_toArray, List.set_cons_zero, List.set_cons_succ]
            refine wpT_take 4 46 (v := ?_) hHeld.1 hHeld.2 rfl rfl (by kernel_rfl) (fun _ _ _ h => h) rfl ?_ ?_
            rotate_left
            · (intro w hSw; (try dsimp only at hSw); go_simp; try with_reducible rfl)
            try simp only [Act.put, List.setIfInBounds_toArray, List.set_cons_zero, List.set_cons_succ]
            refine wpT_take 5 47 (v := ?_) hHeld.1 hHeld.2 rfl rfl (by kernel_rfl) (fun _ _ _ h => h) rfl ?_ ?_
            rotate_left
            · (intro w hSw; (try dsimp only at hSw); go_simp; try with_reducible rfl)
            try simp only [Act.put, List.setIfInBounds_toArray, List.set_cons_zero, List.set_cons_succ]
            refine wpT_take 6 48 (v := ?_) hHeld.1 hHeld.2 rfl rfl (by kernel_rfl) (fun _ _ _ h => h) rfl ?_ ?_
            rotate_left
            · (intro w hSw; (try dsimp only at hSw); go_simp; try with_reducible rfl)
            try simp only [Act.put, List.setIfInBounds_toArray, List.set_cons_zero, List.set_cons_succ]
            refine wpT_take 7 49 (v := ?_) hHeld.1 hHeld.2 rfl rfl (by kernel_rfl) (fun _ _ _ h => h) rfl ?_ ?_
            rotate_left
            · (intro w hSw; (try dsimp only at hSw); go_simp; try with_reducible rfl)
            try simp only [Act.put, List.setIfInBounds_toArray, List.set_cons_zero, List.set_cons_succ]
            refine wpT_take 8 50 (v := ?_) hHeld.1 hHeld.2 rfl rfl (by kernel_rfl) (fun _ _ _ h => h) rfl ?_ ?_
            rotate_left
            · (intro w hSw; (try dsimp only at hSw); go_simp; try with_reducible rfl)
            try simp only [Act.put, List.setIfInBounds_toArray, List.set_cons_zero, List.set_cons_succ]
            refine wpT_take 9 51 (v := ?_) hHeld.1 hHeld.2 rfl rfl (by kernel_rfl) (fun _ _ _ h => h) rfl ?_ ?_
            rotate_left
            · (intro w hSw; (try dsimp only at hSw); go_simp; try with_reducible rfl)
            try simp only [Act.put, List.setIfInBounds_toArray, List.set_cons_zero, List.set_cons_succ]
            refine wpT_take 10 52 (v := ?_) hHeld.1 hHeld.2 rfl rfl (by kernel_rfl) (fun _ _ _ h => h) rfl ?_ ?_
            rotate_left
            · (intro w hSw; (try dsimp only at hSw); go_simp; try with_reducible rfl)
            try simp only [Act.put, List.setIfInBounds_toArray, List.set_cons_zero, List.set_cons_succ]
            refine wpT_take 11 53 (v := ?_) hHeld.1 hHeld.2 rfl rfl (by kernel_rfl) (fun _ _ _ h => h) rfl ?_ ?_
            rotate_left
            · (intro w hSw; (try dsimp only at hSw); go_simp; try with_reducible rfl)
            try simp only [Act.put, List.setIfInBounds_toArray, List.set_cons_zero, List.set_cons_succ]
            refine wpT_take 12 54 (v := ?_) hHeld.1 hHeld.2 rfl rfl (by kernel_rfl) (fun _ _ _ h => h) rfl ?_ ?_
            rotate_left
            · (intro w hSw; (try dsimp only at hSw); go_simp; try with_reducible rfl)
            try simp only [Act.put, List.setIfInBounds_toArray, List.set_cons_zero, List.set_cons_succ]
            refine wpT_take 13 55 (v := ?_) hHeld.1 hHeld.2 rfl rfl (by kernel_rfl) (fun _ _ _ h => h) rfl ?_ ?_
            rotate_left
            · (intro w hSw; (try dsimp only at hSw); go_simp; try with_reducible rfl)
            try simp only [Act.put, List.setIfInBounds_toArray, List.set_cons_zero, List.set_cons_succ]
            refine wpT_take 14 56 (v := ?_) hHeld.1 hHeld.2 rfl rfl (by kernel_rfl) (fun _ _ _ h => h) rfl ?_ ?_
            rotate_left
            · (intro w hSw; (try dsimp only at hSw); go_simp; try with_reducible rfl)
            try simp only [Act.put, List.setIfInBounds_toArray, List.set_cons_zero, List.set_cons_succ]
            refine wpT_take 15 57 (v := ?_) hHeld.1 hHeld.2 rfl rfl (by kernel_rfl) (fun _ _ _ h => h) rfl ?_ ?_
            rotate_left
            · (intro w hSw; (try dsimp only at hSw); go_simp; try with_reducible rfl)
            try simp only [Act.put, List.setIfInBounds_toArray, List.set_cons_zero, List.set_cons_succ]
            refine wpT_take 16 58 (v := ?_) hHeld.1 hHeld.2 rfl rfl (by kernel_rfl) (fun _ _ _ h => h) rfl ?_ ?_
            rotate_left
            · (intro w hSw; (try dsimp only at hSw); go_simp; try with_reducible rfl)
            try simp only [Act.put, List.setIfInBounds_toArray, List.set_cons_zero, List.set_cons_succ]
            refine wpT_take 17 59 (v := ?_) hHeld.1 hHeld.2 rfl rfl (by kernel_rfl) (fun _ _ _ h => h) rfl ?_ ?_
            rotate_left
            · (intro w hSw; (try dsimp only at hSw); go_simp; try with_reducible rfl)
            try simp only [Act.put, List.setIfInBounds_toArray, List.set_cons_zero, List.set_cons_succ]
            refine wpT_take 18 60 (v := ?_) hHeld.1 hHeld.2 rfl rfl (by kernel_rfl) (fun _ _ _ h => h) rfl ?_ ?_
            rotate_left
            · (intro w hSw; (try dsimp only at hSw); go_simp; try with_reducible rfl)
            try simp only [Act.put, List.setIfInBounds_toArray, List.set_cons_zero, List.set_cons_succ]
            refine wpT_take 19 61 (v := ?_) hHeld.1 hHeld.2 rfl rfl (by kernel_rfl) (fun _ _ _ h => h) rfl ?_ ?_
            rotate_left
            · (intro w hSw; (try dsimp only at hSw); go_simp; try with_reducible rfl)
            try simp only [Act.put, List.setIfInBounds_toArray, List.set_cons_zero, List.set_cons_succ]
            refine wpT_take 20 62 (v := ?_) hHeld.1 hHeld.2 rfl rfl (by kernel_rfl) (fun _ _ _ h => h) rfl ?_ ?_
            rotate_left
            · (intro w hSw; (try dsimp only at hSw); go_simp; try with_reducible rfl)
            try simp only [Act.put, List.setIfInBounds_toArray, List.set_cons_zero, List.set_cons_succ]
            have HJD := Lib.hid HJ.out.drew
            generalize wr.drew = wd at HJD hHeld ⊢
            have f5 := HJD.out.st.pad.frozen (k := p + j) (by simp only [AdjC.loadK_length]; omega)
            have q5 := HJD.out.st.pad.cell (k := p + j) (by simp only [AdjC.loadK_length]; omega)
            have HPU := Lib.hid (HJD.out.put (j := p + j) (by simp only [AdjC.loadK_length]; omega) (AdjC.at_ s1.mem (q : Int)))
            refine wpT_tail [_, _] 21 [22] rfl (by kernel_rfl) ?_
            have HM := Lib.hid hm
            have HQ := Lib.hid hq
            clear hHeld hm hq wm wq n4 n1 n2 n3 b4 b5 b6
            go_wp2_with fail
            go_roundw
            case rel => exact ⟨j + 1, by omega, by go_num, by rw [HNX.out]; exact HPU.out⟩
            case measure => simp [intOf]; omega
          · obtain rfl : j = n := by omega
            go_wp2_with fail
            go_end0
            exact ⟨rfl, by rw [HDO.out, HDL.out]; exact HJ.out.st⟩
      · simp only at hd
        subst hd
        obtain ⟨mn, mp, mq⟩ := AdjC.right_moves HWX.out (.inr rfl)
        simp only at mn mp mq
        obtain ⟨n, rfl⟩ : ∃ m : Nat, n = (m : Int) := ⟨n.toNat, by omega⟩
        have HMQ := Lib.hid mq
        have HDL := Lib.hid (show AdjC.doI ⟨2, a, b2, c', (n : Int), v⟩ s1 = { s1 with mem := AdjC.storeK ⟨2, a, b2, c', (n : Int), v⟩ s1.pad s1.mem n } from rfl)
        have n0 := HT1.out.ins.cell 0
        have n4 := HT1.out.ins.cell 4
        clear mq
        go_wp2_with fail
        clear n0 n4
        go_loopw [69] (fun i wr => ∃ j : Nat, j ≤ n ∧ i = .int .i64 (j : Int) ∧ Cr.Tx w k c { s1 with mem := AdjC.storeK ⟨2, a, b2, c', (n : Int), v⟩ s1.pad s1.mem j } ⟨2, a, b2, c', (n : Int), v⟩ ib wr) (fun i _ => n - (intOf i).toNat)
        case atStart => exact ⟨0, by omega, rfl, HT1.out⟩
        case round =>
          obtain ⟨j, hj, rfl, he⟩ := hrel
          have HJ := Lib.hid he
          clear he
          have n4 := HJ.out.ins.cell 4
          by_cases hlt : j < n
          · obtain ⟨p, rfl⟩ : ∃ p : Nat, a = (p : Int) := ⟨a.toNat, by have := mp (by omega); omega⟩
            have hpn : p + n ≤ s1.pad.length := by have := mp (by omega); have := HPL.out; omega
            obtain ⟨hq1, hq2⟩ := HMQ.out (j : Int) (by omega) (by omega)
            obtain ⟨m, hm⟩ : ∃ m : Int, (j : Int) * c' = m := ⟨_, rfl⟩
            rw [hm] at hq1 hq2
            obtain ⟨q, hq⟩ : ∃ q : Nat, b2 + m = (q : Int) := ⟨(b2 + m).toNat, by omega⟩
            have hqm : q < s1.mem.length := by have := HML.out; omega
            have hmlen : s1.mem.length ≤ 1048576 := by have := HML.out; omega
            have HNX := Lib.hid (Cr.storeK_next ⟨2, (p : Int), b2, c', (n : Int), v⟩ s1.pad s1.mem j p q rfl (by simp only; rw [hm, hq]))
            have b4 := HJ.out.st.pad_at
            rw [HJ.out.st.pad.some_ (by simp only; omega)] at b4
            simp only at b4
            have b5 := HJ.out.st.mem_at
            rw [HJ.out.st.mem.some_ (by simp only [AdjC.storeK_length]; omega)] at b5
            simp only [AdjC.storeK_length] at b5
            have b6 := HJ.out.st.pad.cell (k := p + j) (by simp only; omega)
            simp only at b6
            have n1 := HJ.out.ins.cell 1
            have n2 := HJ.out.ins.cell 2
            have n3 := HJ.out.ins.cell 3
            go_wp2_with fail
            have wm : IntKind.i64.wrap m = m := IntWalk.i64_in _ (by omega)
            have wq : IntKind.i64.wrap (q : Int) = (q : Int) := IntWalk.i64_in _ (by omega)
            have wp : IntKind.i64.wrap ((p : Int) + (j : Int)) = (p : Int) + (j : Int) := IntWalk.i64_in _ (by omega)
            have i1 : (0 : Int) ≤ (p : Int) + (j : Int) := by omega
            have i2 : (p : Int) + (j : Int) < (s1.pad.length : Int) := by omega
            have i3 : ((p : Int) + (j : Int)).toNat = p + j := by omega
            refine wp_region_T (fun w' => w'.cell? ⟨k.g, 4, none⟩ = some (.slice (some ⟨k.gp, 0, none⟩) s1.pad.length k.cp) ∧ w'.cell? ⟨k.g, 5, none⟩ = some (.slice (some ⟨k.gm, 0, none⟩) s1.mem.length k.cm) ∧ w'.cell? ⟨ib, 1, none⟩ = some (.int .i64 (p : Int)) ∧ w'.cell? ⟨ib, 2, none⟩ = some (.int .i64 b2) ∧ w'.cell? ⟨ib, 3, none⟩ = some (.int .i64 c') ∧ w'.cell? ⟨k.gp, p + j, none⟩ = some (.int .i64 (AdjC.at_ s1.pad ((p + j : Nat) : Int)))) 21 (fun _ => True) 21 23 rfl (by kernel_rfl) ⟨⟨b4, b5, n1, n2, n3, b6⟩, trivial⟩ (fun hHeld => ?_)
            simp only [List.replicate_succ, List.replicate_zero]
            refine wpT_take 0 72 (v := ?_) hHeld.1 hHeld.2 rfl rfl (by kernel_rfl) (fun _ _ _ h => h) rfl ?_ ?_
            rotate_left
            · (intro w hSw; (try dsimp only at hSw); go_simp; try with_reducible rfl)
            try simp only [Act.put, List.setIfInBounds_toArray, List.set_cons_zero, List.set_cons_succ]
            refine wpT_take 1 73 (v := ?_) hHeld.1 hHeld.2 rfl rfl (by kernel_rfl) (fun _ _ _ h => h) rfl ?_ ?_
            rotate_left
            · (intro w hSw; (try dsimp only at hSw); go_simp; try with_reducible rfl)
            try simp only [Act.put, List.setIfInBounds_toArray, List.set_cons_zero, List.set_cons_succ]
            refine wpT_take 2 74 (v := ?_) hHeld.1 hHeld.2 rfl rfl (by kernel_rfl) (fun _ _ _ h => h) rfl ?_ ?_
            rotate_left
            · (intro w hSw; (try dsimp only at hSw); go_simp; try with_reducible rfl)
            try simp only [Act.put, List.setIfInBounds_toArray, List.set_cons_zero, List.set_cons_succ]
            refine wpT_take 3 75 (v := ?_) hHeld.1 hHeld.2 rfl rfl (by kernel_rfl) (fun _ _ _ h => h) rfl ?_ ?_
            rotate_left
            · (intro w hSw; (try dsimp only at hSw); go_simp; try with_reducible rfl)
            try simp only [Act.put, List.setIfInBounds_toArray, List.set_cons_zero, List.set_cons_succ]
            refine wpT_take 4 76 (v := ?_) hHeld.1 hHeld.2 rfl rfl (by kernel_rfl) (fun _ _ _ h => h) rfl ?_ ?_
            rotate_left
            · (intro w hSw; (try dsimp only at hSw); go_simp; try with_reducible rfl)
            try simp only [Act.put, List.setIfInBounds_toArray, List.set_cons_zero, List.set_cons_succ]
            refine wpT_take 5 77 (v := ?_) hHeld.1 hHeld.2 rfl rfl (by kernel_rfl) (fun _ _ _ h => h) rfl ?_ ?_
            rotate_left
            · (intro w hSw; (try dsimp only at hSw); go_simp; try with_reducible rfl)
            try simp only [Act.put, List.setIfInBounds_toArray, List.set_cons_zero, List.set_cons_succ]
            refine wpT_take 6 78 (v := ?_) hHeld.1 hHeld.2 rfl rfl (by kernel_rfl) (fun _ _ _ h => h) rfl ?_ ?_
            rotate_left
            · (intro w hSw; (try dsimp only at hSw); go_simp; try with_reducible rfl)
            try simp only [Act.put, List.setIfInBounds_toArray, List.set_cons_zero, List.set_cons_succ]
            refine wpT_take 7 79 (v := ?_) hHeld.1 hHeld.2 rfl rfl (by kernel_rfl) (fun _ _ _ h => h) rfl ?_ ?_
            rotate_left
            · (intro w hSw; (try dsimp only at hSw); go_simp; try with_reducible rfl)
            try simp only [Act.put, List.setIfInBounds_toArray, List.set_cons_zero, List.set_cons_succ]
            refine wpT_take 8 80 (v := ?_) hHeld.1 hHeld.2 rfl rfl (by kernel_rfl) (fun _ _ _ h => h) rfl ?_ ?_
            rotate_left
            · (intro w hSw; (try dsimp only at hSw); go_simp; try with_reducible rfl)
            try simp only [Act.put, List.setIfInBounds_toArray, List.set_cons_zero, List.set_cons_succ]
            refine wpT_take 9 81 (v := ?_) hHeld.1 hHeld.2 rfl rfl (by kernel_rfl) (fun _ _ _ h => h) rfl ?_ ?_
            rotate_left
            · (intro w hSw; (try dsimp only at hSw); go_simp; try with_reducible rfl)
            try simp only [Act.put, List.setIfInBounds_toArray, List.set_cons_zero, List.set_cons_succ]
            refine wpT_take 10 82 (v := ?_) hHeld.1 hHeld.2 rfl rfl (by kernel_rfl) (fun _ _ _ h => h) rfl ?_ ?_
            rotate_left
            · (intro w hSw; (try dsimp only at hSw); go_simp; try with_reducible rfl)
            try simp only [Act.put, List.setIfInBounds_toArray, List.set_cons_zero, List.set_cons_succ]
            refine wpT_take 11 83 (v := ?_) hHeld.1 hHeld.2 rfl rfl (by kernel_rfl) (fun _ _ _ h => h) rfl ?_ ?_
            rotate_left
            · (intro w hSw; (try dsimp only at hSw); go_simp; try with_reducible rfl)
            try simp only [Act.put, List.setIfInBounds_toArray, List.set_cons_zero, List.set_cons_succ]
            refine wpT_take 12 84 (v := ?_) hHeld.1 hHeld.2 rfl rfl (by kernel_rfl) (fun _ _ _ h => h) rfl ?_ ?_
            rotate_left
            · (intro w hSw; (try dsimp only at hSw); go_simp; try with_reducible rfl)
            try simp only [Act.put, List.setIfInBounds_toArray, List.set_cons_zero, List.set_cons_succ]
            refine wpT_take 13 85 (v := ?_) hHeld.1 hHeld.2 rfl rfl (by kernel_rfl) (fun _ _ _ h => h) rfl ?_ ?_
            rotate_left
            · (intro w hSw; (try dsimp only at hSw); go_simp; try with_reducible rfl)
            try simp only [Act.put, List.setIfInBounds_toArray, List.set_cons_zero, List.set_cons_succ]
            refine wpT_take 14 86 (v := ?_) hHeld.1 hHeld.2 rfl rfl (by kernel_rfl) (fun _ _ _ h => h) rfl ?_ ?_
            rotate_left
            · (intro w hSw; (try dsimp only at hSw); go_simp; try with_reducible rfl)
            try simp only [Act.put, List.setIfInBounds_toArray, List.set_cons_zero, List.set_cons_succ]
            refine wpT_take 15 87 (v := ?_) hHeld.1 hHeld.2 rfl rfl (by kernel_rfl) (fun _ _ _ h => h) rfl ?_ ?_
            rotate_left
            · (intro w hSw; (try dsimp only at hSw); go_simp; try with_reducible rfl)
            try simp only [Act.put, List.setIfInBounds_toArray, List.set_cons_zero, List.set_cons_succ]
            refine wpT_take 16 88 (v := ?_) hHeld.1 hHeld.2 rfl rfl (by kernel_rfl) (fun _ _ _ h => h) rfl ?_ ?_
            rotate_left
            · (intro w hSw; (try dsimp only at hSw); go_simp; try with_reducible rfl)
            try simp only [Act.put, List.setIfInBounds_toArray, List.set_cons_zero, List.set_cons_succ]
            refine wpT_take 17 89 (v := ?_) hHeld.1 hHeld.2 rfl rfl (by kernel_rfl) (fun _ _ _ h => h) rfl ?_ ?_
            rotate_left
            · (intro w hSw; (try dsimp only at hSw); go_simp; try with_reducible rfl)
            try simp only [Act.put, List.setIfInBounds_toArray, List.set_cons_zero, List.set_cons_succ]
            refine wpT_take 18 90 (v := ?_) hHeld.1 hHeld.2 rfl rfl (by kernel_rfl) (fun _ _ _ h => h) rfl ?_ ?_
            rotate_left
            · (intro w hSw; (try dsimp only at hSw); go_simp; try with_reducible rfl)
            try simp only [Act.put, List.setIfInBounds_toArray, List.set_cons_zero, List.set_cons_succ]
            refine wpT_take 19 91 (v := ?_) hHeld.1 hHeld.2 rfl rfl (by kernel_rfl) (fun _ _ _ h => h) rfl ?_ ?_
            rotate_left
            · (intro w hSw; (try dsimp only at hSw); go_simp; try with_reducible rfl)
            try simp only [Act.put, List.setIfInBounds_toArray, List.set_cons_zero, List.set_cons_succ]
            refine wpT_take 20 92 (v := ?_) hHeld.1 hHeld.2 rfl rfl (by kernel_rfl) (fun _ _ _ h => h) rfl ?_ ?_
            rotate_left
            · (intro w hSw; (try dsimp only at hSw); go_simp; try with_reducible rfl)
            try simp only [Act.put, List.setIfInBounds_toArray, List.set_cons_zero, List.set_cons_succ]
            have HJD := Lib.hid HJ.out.drew
            generalize wr.drew = wd at HJD hHeld ⊢
            have f5 := HJD.out.st.mem.frozen (k := q) (by simp only [AdjC.storeK_length]; omega)
            have q5 := HJD.out.st.mem.cell (k := q) (by simp only [AdjC.storeK_length]; omega)
            have HPU := Lib.hid (HJD.out.putM (j := q) (by simp only [AdjC.storeK_length]; omega) (AdjC.at_ s1.pad ((p + j : Nat) : Int)))
            refine wpT_tail [_, _] 21 [22] rfl (by kernel_rfl) ?_
            have HM := Lib.hid hm
            have HQ := Lib.hid hq
            clear hHeld hm hq wm wq wp i1 i2 i3 n4 n1 n2 n3 b4 b5 b6
            go_wp2_with fail
            go_roundw
            case rel => exact ⟨j + 1, by omega, by go_num, by rw [HNX.out]; exact HPU.out⟩
            case measure => simp [intOf]; omega
          · obtain rfl : j = n := by omega
            go_wp2_with fail
            go_end0
            exact ⟨rfl, by rw [HDO.out, HDL.out]; exact HJ.out.st⟩
      · simp only at hd
        subst hd
        obtain ⟨sm, hs, hs16⟩ := AdjC.sem_range HWX.out (.inl rfl)
        simp only at hs
        subst hs
        have HDL := Lib.hid (show AdjC.doI ⟨3, (sm : Int), b2, c', n, v⟩ s1 = { s1 with sems := AdjC.put s1.sems (sm : Int) (AdjC.at_ s1.sems (sm : Int) + 1) } from rfl)
        have n0 := HT1.out.ins.cell 0
        have n1 := HT1.out.ins.cell 1
        have z := HT1.out.st.sem_at HSL.out hs16
        have hv := HRG.out _ (AdjC.at_mem (l := s1.sems) (k := (sm : Int)) (by rw [HSL.out]; omega))
        obtain ⟨u, hu⟩ : ∃ u, AdjC.at_ s1.sems (sm : Int) = u := ⟨_, rfl⟩
        rw [hu] at z hv HDL
        clear hu
        go_wp2_with fail
        have wu : IntKind.i64.wrap (u + 1) = u + 1 := IntWalk.i64_in _ (by omega)
        have i1 : (sm : Int) < 16 := by omega
        refine wp_region_T (fun w' => w'.cell? ⟨ib, 1, none⟩ = some (.int .i64 (sm : Int)) ∧ w'.cell? ⟨k.g, 6 + sm, none⟩ = some (.int .i64 u)) 11 (fun _ => True) 11 12 rfl (by kernel_rfl) ⟨⟨n1, z⟩, trivial⟩ (fun hHeld => ?_)
        simp only [List.replicate_succ, List.replicate_zero]
        refine wpT_take 0 97 (v := ?_) hHeld.1 hHeld.2 rfl rfl (by kernel_rfl) (fun _ _ _ h => h) rfl ?_ ?_
        rotate_left
        · (intro w hSw; (try dsimp only at hSw); go_simp; try with_reducible rfl)
        try simp only [Act.put, List.setIfInBounds_toArray, List.set_cons_zero, List.set_cons_succ]
        refine wpT_take 1 98 (v := ?_) hHeld.1 hHeld.2 rfl rfl (by kernel_rfl) (fun _ _ _ h => h) rfl ?_ ?_
        rotate_left
        · (intro w hSw; (try dsimp only at hSw); go_simp; try with_reducible rfl)
        try simp only [Act.put, List.setIfInBounds_toArray, List.set_cons_zero, List.set_cons_succ]
        refine wpT_take 2 99 (v := ?_) hHeld.1 hHeld.2 rfl rfl (by kernel_rfl) (fun _ _ _ h => h) rfl ?_ ?_
        rotate_left
        · (intro w hSw; (try dsimp only at hSw); go_simp; try with_reducible rfl)
        try simp only [Act.put, List.setIfInBounds_toArray, List.set_cons_zero, List.set_cons_succ]
        refine wpT_take 3 100 (v := ?_) hHeld.1 hHeld.2 rfl rfl (by kernel_rfl) (fun _ _ _ h => h) rfl ?_ ?_
        rotate_left
        · (intro w hSw; (try dsimp only at hSw); go_simp; try with_reducible rfl)
        try simp only [Act.put, List.setIfInBounds_toArray, List.set_cons_zero, List.set_cons_succ]
        refine wpT_take 4 101 (v := ?_) hHeld.1 hHeld.2 rfl rfl (by kernel_rfl) (fun _ _ _ h => h) rfl ?_ ?_
        rotate_left
        · (intro w hSw; (try dsimp only at hSw); go_simp; try with_reducible rfl)
        try simp only [Act.put, List.setIfInBounds_toArray, List.set_cons_zero, List.set_cons_succ]
        refine wpT_take 5 102 (v := ?_) hHeld.1 hHeld.2 rfl rfl (by kernel_rfl) (fun _ _ _ h => h) rfl ?_ ?_
        rotate_left
        · (intro w hSw; (try dsimp only at hSw); go_simp; try with_reducible rfl)
        try simp only [Act.put, List.setIfInBounds_toArray, List.set_cons_zero, List.set_cons_succ]
        refine wpT_take 6 103 (v := ?_) hHeld.1 hHeld.2 rfl rfl (by kernel_rfl) (fun _ _ _ h => h) rfl ?_ ?_
        rotate_left
        · (intro w hSw; (try dsimp only at hSw); go_simp; try with_reducible rfl)
        try simp only [Act.put, List.setIfInBounds_toArray, List.set_cons_zero, List.set_cons_succ]
        refine wpT_take 7 104 (v := ?_) hHeld.1 hHeld.2 rfl rfl (by kernel_rfl) (fun _ _ _ h => h) rfl ?_ ?_
        rotate_left
        · (intro w hSw; (try dsimp only at hSw); go_simp; try with_reducible rfl)
        try simp only [Act.put, List.setIfInBounds_toArray, List.set_cons_zero, List.set_cons_succ]
        refine wpT_takeP 8 105 (v := ?_) ⟨fun _ => hHeld.1, fun _ => hHeld.2⟩ rfl rfl (by kernel_rfl) (fun _ _ _ h => h) rfl ?_ ?_
        rotate_left
        · (intro w; go_simp; try with_reducible rfl)
        try simp only [Act.put, List.setIfInBounds_toArray, List.set_cons_zero, List.set_cons_succ]
        refine wpT_takeP 9 106 (v := ?_) ⟨fun _ => hHeld.1, fun _ => hHeld.2⟩ rfl rfl (by kernel_rfl) (fun _ _ _ h => h) rfl ?_ ?_
        rotate_left
        · (intro w; go_simp; try with_reducible rfl)
        try simp only [Act.put, List.setIfInBounds_toArray, List.set_cons_zero, List.set_cons_succ]
        refine wpT_take 10 107 (v := ?_) hHeld.1 hHeld.2 rfl rfl (by kernel_rfl) (fun _ _ _ h => h) rfl ?_ ?_
        rotate_left
        · (intro w hSw; (try dsimp only at hSw); go_simp; try with_reducible rfl)
        try simp only [Act.put, List.setIfInBounds_toArray, List.set_cons_zero, List.set_cons_succ]
        have HJD := Lib.hid HT1.out.drew
        generalize wc.drew = wd at HJD hHeld ⊢
        have f5 := HJD.out.st.froz (6 + sm)
        have q5 := HJD.out.st.sem_at HSL.out hs16
        have HPU := Lib.hid (HJD.out.sem HSL.out hs16 (u + 1))
        refine wpT_tail [_] 11 [] rfl (by kernel_rfl) ?_
        clear hHeld wu n0 n1 z
        go_wp2_with fail
        go_end0
        exact ⟨rfl, by rw [HDO.out, HDL.out]; exact HPU.out.st⟩
      · simp only at hd
        subst hd
        obtain ⟨sm, hs, hs16⟩ := AdjC.sem_range HWX.out (.inr rfl)
        simp only at hs
        subst hs
        have HDL := Lib.hid (show AdjC.doI ⟨4, (sm : Int), b2, c', n, v⟩ s1 = { s1 with sems := AdjC.put s1.sems (sm : Int) (AdjC.at_ s1.sems (sm : Int) - 1) } from rfl)
        have n0 := HT1.out.ins.cell 0
        have n1 := HT1.out.ins.cell 1
        have z := HT1.out.st.sem_at HSL.out hs16
        have hv := HRG.out _ (AdjC.at_mem (l := s1.sems) (k := (sm : Int)) (by rw [HSL.out]; omega))
        obtain ⟨u, hu⟩ : ∃ u, AdjC.at_ s1.sems (sm : Int) = u := ⟨_, rfl⟩
        rw [hu] at z hv HDL
        clear hu
        go_wp2_with fail
        have wu : IntKind.i64.wrap (u - 1) = u - 1 := IntWalk.i64_in _ (by omega)
        have i1 : (sm : Int) < 16 := by omega
        refine wp_region_T (fun w' => w'.cell? ⟨ib, 1, none⟩ = some (.int .i64 (sm : Int)) ∧ w'.cell? ⟨k.g, 6 + sm, none⟩ = some (.int .i64 u)) 11 (fun _ => True) 11 12 rfl (by kernel_rfl) ⟨⟨n1, z⟩, trivial⟩ (fun hHeld => ?_)
        simp only [List.replicate_succ, List.replicate_zero]
        refine wpT_take 0 110 (v := ?_) hHeld.1 hHeld.2 rfl rfl (by kernel_rfl) (fun _ _ _ h => h) rfl ?_ ?_
        rotate_left
        · (intro w hSw; (try dsimp only at hSw); go_simp; try with_reducible rfl)
        try simp only [Act.put, List.setIfInBounds_toArray, List.set_cons_zero, List.set_cons_succ]
        refine wpT_take 1 111 (v := ?_) hHeld.1 hHeld.2 rfl rfl (by kernel_rfl) (fun _ _ _ h => h) rfl ?_ ?_
        rotate_left
        · (intro w hSw; (try dsimp only at hSw); go_simp; try with_reducible rfl)
        try simp only [Act.put, List.setIfInBounds_toArray, List.set_cons_zero, List.set_cons_succ]
        refine wpT_take 2 112 (v := ?_) hHeld.1 hHeld.2 rfl rfl (by kernel_rfl) (fun _ _ _ h => h) rfl ?_ ?_
        rotate_left
        · (intro w hSw; (try dsimp only at hSw); go_simp; try with_reducible rfl)
        try simp only [Act.put, List.setIfInBounds_toArray, List.set_cons_zero, List.set_cons_succ]
        refine wpT_take 3 113 (v := ?_) hHeld.1 hHeld.2 rfl rfl (by kernel_rfl) (fun _ _ _ h => h) rfl ?_ ?_
        rotate_left
        · (intro w hSw; (try dsimp only at hSw); go_simp; try with_reducible rfl)
        try simp only [Act.put, List.setIfInBounds_toArray, List.set_cons_zero, List.set_cons_succ]
        refine wpT_take 4 114 (v := ?_) hHeld.1 hHeld.2 rfl rfl (by kernel_rfl) (fun _ _ _ h => h) rfl ?_ ?_
        rotate_left
        · (intro w hSw; (try dsimp only at hSw); go_simp; try with_reducible rfl)
        try simp only [Act.put, List.setIfInBounds_toArray, List.set_cons_zero, List.set_cons_succ]
        refine wpT_take 5 115 (v := ?_) hHeld.1 hHeld.2 rfl rfl (by kernel_rfl) (fun _ _ _ h => h) rfl ?_ ?_
        rotate_left
        · (intro w hSw; (try dsimp only at hSw); go_simp; try with_reducible rfl)
        try simp only [Act.put, List.setIfInBounds_toArray, List.set_cons_zero, List.set_cons_succ]
        refine wpT_take 6 116 (v := ?_) hHeld.1 hHeld.2 rfl rfl (by kernel_rfl) (fun _ _ _ h => h) rfl ?_ ?_
        rotate_left
        · (intro w hSw; (try dsimp only at hSw); go_simp; try with_reducible rfl)
        try simp only [Act.put, List.setIfInBounds_toArray, List.set_cons_zero, List.set_cons_succ]
        refine wpT_take 7 117 (v := ?_) hHeld.1 hHeld.2 rfl rfl (by kernel_rfl) (fun _ _ _ h => h) rfl ?_ ?_
        rotate_left
        · (intro w hSw; (try dsimp only at hSw); go_simp; try with_reducible rfl)
        try simp only [Act.put, List.setIfInBounds_toArray, List.set_cons_zero, List.set_cons_succ]
        refine wpT_takeP 8 118 (v := ?_) ⟨fun _ => hHeld.1, fun _ => hHeld.2⟩ rfl rfl (by kernel_rfl) (fun _ _ _ h => h) rfl ?_ ?_
        rotate_left
        · (intro w; go_simp; try with_reducible rfl)
        try simp only [Act.put, List.setIfInBounds_toArray, List.set_cons_zero, List.set_cons_succ]
        refine wpT_takeP 9 119 (v := ?_) ⟨fun _ => hHeld.1, fun _ => hHeld.2⟩ rfl rfl (by kernel_rfl) (fun _ _ _ h => h) rfl ?_ ?_
        rotate_left
        · (intro w; go_simp; try with_reducible rfl)
        try simp only [Act.put, List.setIfInBounds_toArray, List.set_cons_zero, List.set_cons_succ]
        refine wpT_take 10 120 (v := ?_) hHeld.1 hHeld.2 rfl rfl (by kernel_rfl) (fun _ _ _ h => h) rfl ?_ ?_
        rotate_left
        · (intro w hSw; (try dsimp only at hSw); go_simp; try with_reducible rfl)
        try simp only [Act.put, List.setIfInBounds_toArray, List.set_cons_zero, List.set_cons_succ]
        have HJD := Lib.hid HT1.out.drew
        generalize wc.drew = wd at HJD hHeld ⊢
        have f5 := HJD.out.st.froz (6 + sm)
        have q5 := HJD.out.st.sem_at HSL.out hs16
        have HPU := Lib.hid (HJD.out.sem HSL.out hs16 (u - 1))
        refine wpT_tail [_] 11 [] rfl (by kernel_rfl) ?_
        clear hHeld wu n0 n1 z
        go_wp2_with fail
        go_end0
        exact ⟨rfl, by rw [HDO.out, HDL.out]; exact HPU.out.st⟩
set_option maxRecDepth 100000 in
set_option maxHeartbeats 8000000 in
theorem step_maker (w wr : World) (k : Cr.Sk) (c : AdjC.Code) (s : AdjC.St) (h : Cr.Sb w k c s wr) (ho : AdjC.Ok c s) (hw : AdjC.wrong c = 0) (hc : AdjC.canB c s = true) :
    Calls Try.prog 20 #[.pointer (some ⟨k.g, 0, none⟩), .int .i64 1] wr fun e w' => e = .returned (.tuple #[]) ∧ Cr.Sb w k c (AdjC.stepB c s) w' := by
  have HO := Lib.hid (fun W (hb : Cr.Sb w k c s W) => of_maker w W k c s hb)
  have HS := Lib.hid h
  have hsem := ho.sems
  have a1 := h.j_at hsem
  have hlen := (AdjC.wrong_zero hw).2.1
  have hij := ho.j
  have HOK := Lib.hid ho
  have HSE := Lib.hid hsem
  obtain ⟨hlt, hrd⟩ := AdjC.canB_at hc
  have HWX := Lib.hid ((AdjC.wrong_zero hw).2.2.2.1 _ (List.getElem_mem hlt))
  have HZ := Lib.hid (AdjC.wrong_zero hw).1
  have HST := Lib.hid (AdjC.stepB_at (c := c) (s := s) hlt)
  obtain ⟨b, off, hA, hbl⟩ := HS.out.mak.spot (by rw [AdjC.flat_length]; omega)
  obtain ⟨x, hx⟩ : ∃ x, c.maker[s.j] = x := ⟨_, rfl⟩
  rw [hx] at HWX HST hrd
  have hm := HS.out.mak.below HS.out.bel
  rw [hA] at hm
  obtain ⟨x0, x1, x2, x3, x4, x5⟩ := Cr.six_cells hm hlt hx
  have HRD := Lib.hid hrd
  have hzr := HS.out.lt
  have HA := Lib.hid hA
  clear h ho hw hsem hc hx hm hA hrd
  go_enter Try.func20, Try.ntmps20
  go_upto_region 0 with (fail)
  go_cut [4] (fun s4 wx => s4 = .pointer (some ⟨wr.heap.size, 0, none⟩) ∧ Cr.Tx w k c s x wr.heap.size wx)
  case first =>
    refine wp_region_T (fun w' => w'.cell? ⟨k.g, 23, none⟩ = some (.int .i64 (s.j : Int)) ∧ w'.cell? ⟨b, off + s.j * 6, none⟩ = some (.int .i64 x.d) ∧ w'.cell? ⟨b, off + s.j * 6 + 1, none⟩ = some (.int .i64 x.a) ∧ w'.cell? ⟨b, off + s.j * 6 + 2, none⟩ = some (.int .i64 x.b) ∧ w'.cell? ⟨b, off + s.j * 6 + 3, none⟩ = some (.int .i64 x.c) ∧ w'.cell? ⟨b, off + s.j * 6 + 4, none⟩ = some (.int .i64 x.n) ∧ w'.cell? ⟨b, off + s.j * 6 + 5, none⟩ = some (.int .i64 x.v)) 12 (fun _ => True) 12 13 rfl (by kernel_rfl) ⟨⟨a1, x0, x1, x2, x3, x4, x5⟩, trivial⟩ (fun hHeld => ?_)
    simp only [List.replicate_succ, List.replicate_zero]
    refine wpT_take 0 9 (v := ?_) hHeld.1 hHeld.2 rfl rfl (by kernel_rfl) (fun _ _ _ h => h) rfl ?_ ?_
    rotate_left
    · (intro w hSw; (try dsimp only at hSw); go_simp; try with_reducible rfl)
    try simp only [Act.put, List.setIfInBounds_toArray, List.set_cons_zero, List.set_cons_succ]
    refine wpT_take 1 10 (v := ?_) hHeld.1 hHeld.2 rfl rfl (by kernel_rfl) (fun _ _ _ h => h) rfl ?_ ?_
    rotate_left
    · (intro w hSw; (try dsimp only at hSw); go_simp; try with_reducible rfl)
    try simp only [Act.put, List.setIfInBounds_toArray, List.set_cons_zero, List.set_cons_succ]
    refine wpT_take 3 12 (v := ?_) hHeld.1 hHeld.2 rfl rfl (by kernel_rfl) (fun _ _ _ h => h) rfl ?_ ?_
    rotate_left
    · (intro w hSw; (try dsimp only at hSw); go_simp; try with_reducible rfl)
    try simp only [Act.put, List.setIfInBounds_toArray, List.set_cons_zero, List.set_cons_succ]
    refine wpT_take 4 13 (v := ?_) hHeld.1 hHeld.2 rfl rfl (by kernel_rfl) (fun _ _ _ h => h) rfl ?_ ?_
    rotate_left
    · (intro w hSw; (try dsimp only at hSw); go_simp; try with_reducible rfl)
    try simp only [Act.put, List.setIfInBounds_toArray, List.set_cons_zero, List.set_cons_succ]
    refine wpT_take 5 14 (v := ?_) hHeld.1 hHeld.2 rfl rfl (by kernel_rfl) (fun _ _ _ h => h) rfl ?_ ?_
    rotate_left
    · (intro w hSw; (try dsimp only at hSw); go_simp; try with_reducible rfl)
    try simp only [Act.put, List.setIfInBounds_toArray, List.set_cons_zero, List.set_cons_succ]
    refine wpT_take 6 15 (v := ?_) hHeld.1 hHeld.2 rfl rfl (by kernel_rfl) (fun _ _ _ h => h) rfl ?_ ?_
    rotate_left
    · (intro w hSw; (try dsimp only at hSw); go_simp; try with_reducible rfl)
    try simp only [Act.put, List.setIfInBounds_toArray, List.set_cons_zero, List.set_cons_succ]
    refine wpT_take 7 16 (v := ?_) hHeld.1 hHeld.2 rfl rfl (by kernel_rfl) (fun _ _ _ h => h) rfl ?_ ?_
    rotate_left
    · (intro w hSw; (try dsimp only at hSw); go_simp; try with_reducible rfl)
    try simp only [Act.put, List.setIfInBounds_toArray, List.set_cons_zero, List.set_cons_succ]
    refine wpT_take 8 17 (v := ?_) hHeld.1 hHeld.2 rfl rfl (by kernel_rfl) (fun _ _ _ h => h) rfl ?_ ?_
    rotate_left
    · (intro w hSw; (try dsimp only at hSw); go_simp; try with_reducible rfl)
    try simp only [Act.put, List.setIfInBounds_toArray, List.set_cons_zero, List.set_cons_succ]
    have HSD := Lib.hid HS.out.drew
    have hzW : k.g < wr.drew.heap.size ∧ b < wr.drew.heap.size := ⟨hzr, Nat.lt_of_lt_of_le hbl HS.out.bel.size⟩
    have hzE : wr.drew.heap.size = wr.heap.size := rfl
    generalize wr.drew = W at HSD hHeld hzW hzE ⊢
    have HZE := Lib.hid hzE
    clear hzE
    refine wpT_two 2 11 (by kernel_rfl) (stepT_early rfl rfl (fun K hK => ?_)) (stepT_early rfl rfl (fun K hK => ?_))
    · go_simp
      ((with_reducible refine (HO.out _ HSD.out).mono ?_); rintro e w' ⟨rfl, rfl⟩)
      rw [HA.out]
      try go_simp
      refine hK.out _ _ ⟨hHeld.1, trivial⟩ (fun hHeld2 => ?_)
      clear hK K hHeld
      have hHeld := hHeld2
      clear hHeld2
      try simp only [List.setIfInBounds_toArray, List.set_cons_zero, List.set_cons_succ]
      refine wpT_take 9 18 (v := ?_) hHeld.1 hHeld.2 rfl rfl (by kernel_rfl) (fun _ _ _ h => h) rfl ?_ ?_
      rotate_left
      · (intro w hSw; (try dsimp only at hSw); go_simp; try with_reducible rfl)
      try simp only [Act.put, List.setIfInBounds_toArray, List.set_cons_zero, List.set_cons_succ]
      refine wpT_take 10 19 (v := ?_) hHeld.1 hHeld.2 rfl rfl (by kernel_rfl) (fun _ _ _ h => h) rfl ?_ ?_
      rotate_left
      · (intro w hSw; (try dsimp only at hSw); go_simp; try with_reducible rfl)
      try simp only [Act.put, List.setIfInBounds_toArray, List.set_cons_zero, List.set_cons_succ]
      refine wpT_one 11 (by kernel_rfl) (stepT_early rfl rfl (fun K hK => ?_))
      go_simp
      refine hK.out _ _ ⟨Cr.seven_alloc hHeld.1 hzW _, trivial⟩ (fun hHeld2 => ?_)
      clear hK K hHeld
      have hHeld := hHeld2
      clear hHeld2
      try simp only [List.setIfInBounds_toArray, List.set_cons_zero, List.set_cons_succ]
      refine wpT_tail [_] 12 [] rfl (by kernel_rfl) ?_
      go_wp2_with fail
      go_meet
      case rel =>
        exact ⟨by rw [HZE.out], by rw [← HZE.out]; exact Cr.Tx.made HSD.out x⟩
    · go_simp
      refine hK.out _ _ ⟨Cr.seven_alloc hHeld.1 hzW _, trivial⟩ (fun hHeld2 => ?_)
      clear hK K hHeld
      have hHeld := hHeld2
      clear hHeld2
      try simp only [List.setIfInBounds_toArray, List.set_cons_zero, List.set_cons_succ]
      refine wpT_one 2 (by kernel_rfl) (stepT_early rfl rfl (fun K hK => ?_))
      go_simp
      ((with_reducible refine (HO.out _ (HSD.out.alloc _)).mono ?_); rintro e w' ⟨rfl, rfl⟩)
      rw [HA.out]
      try go_simp
      refine hK.out _ _ ⟨hHeld.1, trivial⟩ (fun hHeld2 => ?_)
      clear hK K hHeld
      have hHeld := hHeld2
      clear hHeld2
      try simp only [List.setIfInBounds_toArray, List.set_cons_zero, List.set_cons_succ]
      refine wpT_take 9 18 (v := ?_) hHeld.1 hHeld.2 rfl rfl (by kernel_rfl) (fun _ _ _ h => h) rfl ?_ ?_
      rotate_left
      · (intro w hSw; (try dsimp only at hSw); go_simp; try with_reducible rfl)
      try simp only [Act.put, List.setIfInBounds_toArray, List.set_cons_zero, List.set_cons_succ]
      refine wpT_take 10 19 (v := ?_) hHeld.1 hHeld.2 rfl rfl (by kernel_rfl) (fun _ _ _ h => h) rfl ?_ ?_
      rotate_left
      · (intro w hSw; (try dsimp only at hSw); go_simp; try with_reducible rfl)
      try simp only [Act.put, List.setIfInBounds_toArray, List.set_cons_zero, List.set_cons_succ]
      refine wpT_tail [_] 12 [] rfl (by kernel_rfl) ?_
      go_wp2_with fail
      go_meet
      case rel =>
        exact ⟨by rw [HZE.out], by rw [← HZE.out]; exact Cr.Tx.made HSD.out x⟩
  case rest =>
    obtain ⟨rfl, ht⟩ := hcut
    have HT := Lib.hid ht
    have a2 := ht.st.j_at HSE.out
    clear ht x0 x1 x2 x3 x4 x5 a1 HO HS
    go_upto_region 1 with (fail)
    go_cut [26] (fun s26 wx => Cr.Tx w k c { s with j := s.j + 1 } x wr.heap.size wx)
    case first =>
      refine wp_region_T (fun w' => w'.cell? ⟨k.g, 23, none⟩ = some (.int .i64 (s.j : Int))) 10 (fun _ => True) 10 11 rfl (by kernel_rfl) ⟨a2, trivial⟩ (fun hHeld => ?_)
      simp only [List.replicate_succ, List.replicate_zero]
      refine wpT_take 0 20 (v := ?_) hHeld.1 hHeld.2 rfl rfl (by kernel_rfl) (fun _ _ _ h => h) rfl ?_ ?_
      rotate_left
      · (intro w hSw; (try dsimp only at hSw); go_simp; try with_reducible rfl)
      try simp only [Act.put, List.setIfInBounds_toArray, List.set_cons_zero, List.set_cons_succ]
      refine wpT_take 1 21 (v := ?_) hHeld.1 hHeld.2 rfl rfl (by kernel_rfl) (fun _ _ _ h => h) rfl ?_ ?_
      rotate_left
      · (intro w hSw; (try dsimp only at hSw); go_simp; try with_reducible rfl)
      try simp only [Act.put, List.setIfInBounds_toArray, List.set_cons_zero, List.set_cons_succ]
      refine wpT_take 2 22 (v := ?_) hHeld.1 hHeld.2 rfl rfl (by kernel_rfl) (fun _ _ _ h => h) rfl ?_ ?_
      rotate_left
      · (intro w hSw; (try dsimp only at hSw); go_simp; try with_reducible rfl)
      try simp only [Act.put, List.setIfInBounds_toArray, List.set_cons_zero, List.set_cons_succ]
      refine wpT_take 3 23 (v := ?_) hHeld.1 hHeld.2 rfl rfl (by kernel_rfl) (fun _ _ _ h => h) rfl ?_ ?_
      rotate_left
      · (intro w hSw; (try dsimp only at hSw); go_simp; try with_reducible rfl)
      try simp only [Act.put, List.setIfInBounds_toArray, List.set_cons_zero, List.set_cons_succ]
      refine wpT_take 4 24 (v := ?_) hHeld.1 hHeld.2 rfl rfl (by kernel_rfl) (fun _ _ _ h => h) rfl ?_ ?_
      rotate_left
      · (intro w hSw; (try dsimp only at hSw); go_simp; try with_reducible rfl)
      try simp only [Act.put, List.setIfInBounds_toArray, List.set_cons_zero, List.set_cons_succ]
      refine wpT_take 5 25 (v := ?_) hHeld.1 hHeld.2 rfl rfl (by kernel_rfl) (fun _ _ _ h => h) rfl ?_ ?_
      rotate_left
      · (intro w hSw; (try dsimp only at hSw); go_simp; try with_reducible rfl)
      try simp only [Act.put, List.setIfInBounds_toArray, List.set_cons_zero, List.set_cons_succ]
      refine wpT_take 6 26 (v := ?_) hHeld.1 hHeld.2 rfl rfl (by kernel_rfl) (fun _ _ _ h => h) rfl ?_ ?_
      rotate_left
      · (intro w hSw; (try dsimp only at hSw); go_simp; try with_reducible rfl)
      try simp only [Act.put, List.setIfInBounds_toArray, List.set_cons_zero, List.set_cons_succ]
      refine wpT_takeP 7 27 (v := ?_) ⟨fun _ => hHeld.1, fun _ => hHeld.2⟩ rfl rfl (by kernel_rfl) (fun _ _ _ h => h) rfl ?_ ?_
      rotate_left
      · (intro w; go_simp; try with_reducible rfl)
      try simp only [Act.put, List.setIfInBounds_toArray, List.set_cons_zero, List.set_cons_succ]
      refine wpT_takeP 8 28 (v := ?_) ⟨fun _ => hHeld.1, fun _ => hHeld.2⟩ rfl rfl (by kernel_rfl) (fun _ _ _ h => h) rfl ?_ ?_
      rotate_left
      · (intro w; go_simp; try with_reducible rfl)
      try simp only [Act.put, List.setIfInBounds_toArray, List.set_cons_zero, List.set_cons_succ]
      refine wpT_take 9 29 (v := ?_) hHeld.1 hHeld.2 rfl rfl (by kernel_rfl) (fun _ _ _ h => h) rfl ?_ ?_
      rotate_left
      · (intro w hSw; (try dsimp only at hSw); go_simp; try with_reducible rfl)
      try simp only [Act.put, List.setIfInBounds_toArray, List.set_cons_zero, List.set_cons_succ]
      have HTD := Lib.hid HT.out.drew
      generalize wc.drew = W at HTD hHeld ⊢
      have q := HTD.out.st.j_at HSE.out
      have f := HTD.out.st.froz 23
      have HTF := Lib.hid (HTD.out.set_j HSE.out (s.j + 1))
      refine wpT_tail [_] 10 [] rfl (by kernel_rfl) ?_
      clear hHeld a2
      go_wp2_with fail
      go_meet
      case rel => exact HTF.out
    case rest =>
      have HT1 := Lib.hid hcut
      clear hcut a2 HT
      have HDO := Lib.hid (show AdjC.stepB c s = AdjC.doI x { s with j := s.j + 1 } by rw [HST.out]; exact Cr.doI_j x s (s.j + 1))
      have hpl : (s.pad.length : Int) = c.pad := HOK.out.pad
      have hml : (s.mem.length : Int) = c.mem := HOK.out.mem
      have hpz := HZ.out
      have HSL := Lib.hid (show ({ s with j := s.j + 1 } : AdjC.St).sems.length = 16 from HSE.out)
      have HRG := Lib.hid (show ∀ v ∈ ({ s with j := s.j + 1 } : AdjC.St).sems, 0 ≤ v ∧ v ≤ 524288 from fun v hv => by
        have h1 := HOK.out.range v hv
        have h2 := HOK.out.i
        have h3 := HOK.out.j
        omega)
      have hpl1 : (({ s with j := s.j + 1 } : AdjC.St).pad.length : Int) = c.pad := hpl
      have hml1 : (({ s with j := s.j + 1 } : AdjC.St).mem.length : Int) = c.mem := hml
      clear hpl hml
      generalize ({ s with j := s.j + 1 } : AdjC.St) = s1 at HT1 HSL HRG hpl1 hml1 HDO
      clear HST HOK HSE HA hbl hij hlt hlen HZ
      generalize wr.heap.size = ib at HT1 hzr ⊢
      have HPL := Lib.hid hpl1
      have HML := Lib.hid hml1
      clear hpl1 hml1
      obtain ⟨d, a, b2, c', n, v⟩ := x
      rcases AdjC.right_maker HWX.out with hd | hd | hd
      · simp only at hd
        subst hd
        obtain ⟨sm, hs, hs16⟩ := AdjC.sem_range HWX.out (.inl rfl)
        simp only at hs
        subst hs
        have HDL := Lib.hid (show AdjC.doI ⟨3, (sm : Int), b2, c', n, v⟩ s1 = { s1 with sems := AdjC.put s1.sems (sm : Int) (AdjC.at_ s1.sems (sm : Int) + 1) } from rfl)
        have n0 := HT1.out.ins.cell 0
        have n1 := HT1.out.ins.cell 1
        have z := HT1.out.st.sem_at HSL.out hs16
        have hv := HRG.out _ (AdjC.at_mem (l := s1.sems) (k := (sm : Int)) (by rw [HSL.out]; omega))
        obtain ⟨u, hu⟩ : ∃ u, AdjC.at_ s1.sems (sm : Int) = u := ⟨_, rfl⟩
        rw [hu] at z hv HDL
        clear hu
        go_wp2_with fail
        have wu : IntKind.i64.wrap (u + 1) = u + 1 := IntWalk.i64_in _ (by omega)
        have i1 : (sm : Int) < 16 := by omega
        refine wp_region_T (fun w' => w'.cell? ⟨ib, 1, none⟩ = some (.int .i64 (sm : Int)) ∧ w'.cell? ⟨k.g, 6 + sm, none⟩ = some (.int .i64 u)) 11 (fun _ => True) 11 12 rfl (by kernel_rfl) ⟨⟨n1, z⟩, trivial⟩ (fun hHeld => ?_)
        simp only [List.replicate_succ, List.replicate_zero]
        refine wpT_take 0 97 (v := ?_) hHeld.1 hHeld.2 rfl rfl (by kernel_rfl) (fun _ _ _ h => h) rfl ?_ ?_
        rotate_left
        · (intro w hSw; (try dsimp only at hSw); go_simp; try with_reducible rfl)
        try simp only [Act.put, List.setIfInBounds_toArray, List.set_cons_zero, List.set_cons_succ]
        refine wpT_take 1 98 (v := ?_) hHeld.1 hHeld.2 rfl rfl (by kernel_rfl) (fun _ _ _ h => h) rfl ?_ ?_
        rotate_left
        · (intro w hSw; (try dsimp only at hSw); go_simp; try with_reducible rfl)
        try simp only [Act.put, List.setIfInBounds_toArray, List.set_cons_zero, List.set_cons_succ]
        refine wpT_take 2 99 (v := ?_) hHeld.1 hHeld.2 rfl rfl (by kernel_rfl) (fun _ _ _ h => h) rfl ?_ ?_
        rotate_left
        · (intro w hSw; (try dsimp only at hSw); go_simp; try with_reducible rfl)
        try simp only [Act.put, List.setIfInBounds_toArray, List.set_cons_zero, List.set_cons_succ]
        refine wpT_take 3 100 (v := ?_) hHeld.1 hHeld.2 rfl rfl (by kernel_rfl) (fun _ _ _ h => h) rfl ?_ ?_
        rotate_left
        · (intro w hSw; (try dsimp only at hSw); go_simp; try with_reducible rfl)
        try simp only [Act.put, List.setIfInBounds_toArray, List.set_cons_zero, List.set_cons_succ]
        refine wpT_take 4 101 (v := ?_) hHeld.1 hHeld.2 rfl rfl (by kernel_rfl) (fun _ _ _ h => h) rfl ?_ ?_
        rotate_left
        · (intro w hSw; (try dsimp only at hSw); go_simp; try with_reducible rfl)
        try simp only [Act.put, List.setIfInBounds_toArray, List.set_cons_zero, List.set_cons_succ]
        refine wpT_take 5 102 (v := ?_) hHeld.1 hHeld.2 rfl rfl (by kernel_rfl) (fun _ _ _ h => h) rfl ?_ ?_
        rotate_left
        · (intro w hSw; (try dsimp only at hSw); go_simp; try with_reducible rfl)
        try simp only [Act.put, List.setIfInBounds_toArray, List.set_cons_zero, List.set_cons_succ]
        refine wpT_take 6 103 (v := ?_) hHeld.1 hHeld.2 rfl rfl (by kernel_rfl) (fun _ _ _ h => h) rfl ?_ ?_
        rotate_left
        · (intro w hSw; (try dsimp only at hSw); go_simp; try with_reducible rfl)
        try simp only [Act.put, List.setIfInBounds_toArray, List.set_cons_zero, List.set_cons_succ]
        refine wpT_take 7 104 (v := ?_) hHeld.1 hHeld.2 rfl rfl (by kernel_rfl) (fun _ _ _ h => h) rfl ?_ ?_
        rotate_left
        · (intro w hSw; (try dsimp only at hSw); go_simp; try with_reducible rfl)
        try simp only [Act.put, List.setIfInBounds_toArray, List.set_cons_zero, List.set_cons_succ]
        refine wpT_takeP 8 105 (v := ?_) ⟨fun _ => hHeld.1, fun _ => hHeld.2⟩ rfl rfl (by kernel_rfl) (fun _ _ _ h => h) rfl ?_ ?_
        rotate_left
        · (intro w; go_simp; try with_reducible rfl)
        try simp only [Act.put, List.setIfInBounds_toArray, List.set_cons_zero, List.set_cons_succ]
        refine wpT_takeP 9 106 (v := ?_) ⟨fun _ => hHeld.1, fun _ => hHeld.2⟩ rfl rfl (by kernel_rfl) (fun _ _ _ h => h) rfl ?_ ?_
        rotate_left
        · (intro w; go_simp; try with_reducible rfl)
        try simp only [Act.put, List.setIfInBounds_toArray, List.set_cons_zero, List.set_cons_succ]
        refine wpT_take 10 107 (v := ?_) hHeld.1 hHeld.2 rfl rfl (by kernel_rfl) (fun _ _ _ h => h) rfl ?_ ?_
        rotate_left
        · (intro w hSw; (try dsimp only at hSw); go_simp; try with_reducible rfl)
        try simp only [Act.put, List.setIfInBounds_toArray, List.set_cons_zero, List.set_cons_succ]
        have HJD := Lib.hid HT1.out.drew
        generalize wc.drew = wd at HJD hHeld ⊢
        have f5 := HJD.out.st.froz (6 + sm)
        have q5 := HJD.out.st.sem_at HSL.out hs16
        have HPU := Lib.hid (HJD.out.sem HSL.out hs16 (u + 1))
        refine wpT_tail [_] 11 [] rfl (by kernel_rfl) ?_
        clear hHeld wu n0 n1 z
        go_wp2_with fail
        go_end0
        exact ⟨rfl, by rw [HDO.out, HDL.out]; exact HPU.out.st⟩
      · simp only at hd
        subst hd
        obtain ⟨sm, hs, hs16⟩ := AdjC.sem_range HWX.out (.inr rfl)
        simp only at hs
        subst hs
        have HDL := Lib.hid (show AdjC.doI ⟨4, (sm : Int), b2, c', n, v⟩ s1 = { s1 with sems := AdjC.put s1.sems (sm : Int) (AdjC.at_ s1.sems (sm : Int) - 1) } from rfl)
        have n0 := HT1.out.ins.cell 0
        have n1 := HT1.out.ins.cell 1
        have z := HT1.out.st.sem_at HSL.out hs16
        have hv := HRG.out _ (AdjC.at_mem (l := s1.sems) (k := (sm : Int)) (by rw [HSL.out]; omega))
        obtain ⟨u, hu⟩ : ∃ u, AdjC.at_ s1.sems (sm : Int) = u := ⟨_, rfl⟩
        rw [hu] at z hv HDL
        clear hu
        go_wp2_with fail
        have wu : IntKind.i64.wrap (u - 1) = u - 1 := IntWalk.i64_in _ (by omega)
        have i1 : (sm : Int) < 16 := by omega
        refine wp_region_T (fun w' => w'.cell? ⟨ib, 1, none⟩ = some (.int .i64 (sm : Int)) ∧ w'.cell? ⟨k.g, 6 + sm, none⟩ = some (.int .i64 u)) 11 (fun _ => True) 11 12 rfl (by kernel_rfl) ⟨⟨n1, z⟩, trivial⟩ (fun hHeld => ?_)
        simp only [List.replicate_succ, List.replicate_zero]
        refine wpT_take 0 110 (v := ?_) hHeld.1 hHeld.2 rfl rfl (by kernel_rfl) (fun _ _ _ h => h) rfl ?_ ?_
        rotate_left
        · (intro w hSw; (try dsimp only at hSw); go_simp; try with_reducible rfl)
        try simp only [Act.put, List.setIfInBounds_toArray, List.set_cons_zero, List.set_cons_succ]
        refine wpT_take 1 111 (v := ?_) hHeld.1 hHeld.2 rfl rfl (by kernel_rfl) (fun _ _ _ h => h) rfl ?_ ?_
        rotate_left
        · (intro w hSw; (try dsimp only at hSw); go_simp; try with_reducible rfl)
        try simp only [Act.put, List.setIfInBounds_toArray, List.set_cons_zero, List.set_cons_succ]
        refine wpT_take 2 112 (v := ?_) hHeld.1 hHeld.2 rfl rfl (by kernel_rfl) (fun _ _ _ h => h) rfl ?_ ?_
        rotate_left
        · (intro w hSw; (try dsimp only at hSw); go_simp; try with_reducible rfl)
        try simp only [Act.put, List.setIfInBounds_toArray, List.set_cons_zero, List.set_cons_succ]
        refine wpT_take 3 113 (v := ?_) hHeld.1 hHeld.2 rfl rfl (by kernel_rfl) (fun _ _ _ h => h) rfl ?_ ?_
        rotate_left
        · (intro w hSw; (try dsimp only at hSw); go_simp; try with_reducible rfl)
        try simp only [Act.put, List.setIfInBounds_toArray, List.set_cons_zero, List.set_cons_succ]
        refine wpT_take 4 114 (v := ?_) hHeld.1 hHeld.2 rfl rfl (by kernel_rfl) (fun _ _ _ h => h) rfl ?_ ?_
        rotate_left
        · (intro w hSw; (try dsimp only at hSw); go_simp; try with_reducible rfl)
        try simp only [Act.put, List.setIfInBounds_toArray, List.set_cons_zero, List.set_cons_succ]
        refine wpT_take 5 115 (v := ?_) hHeld.1 hHeld.2 rfl rfl (by kernel_rfl) (fun _ _ _ h => h) rfl ?_ ?_
        rotate_left
        · (intro w hSw; (try dsimp only at hSw); go_simp; try with_reducible rfl)
        try simp only [Act.put, List.setIfInBounds_toArray, List.set_cons_zero, List.set_cons_succ]
        refine wpT_take 6 116 (v := ?_) hHeld.1 hHeld.2 rfl rfl (by kernel_rfl) (fun _ _ _ h => h) rfl ?_ ?_
        rotate_left
        · (intro w hSw; (try dsimp only at hSw); go_simp; try with_reducible rfl)
        try simp only [Act.put, List.setIfInBounds_toArray, List.set_cons_zero, List.set_cons_succ]
        refine wpT_take 7 117 (v := ?_) hHeld.1 hHeld.2 rfl rfl (by kernel_rfl) (fun _ _ _ h => h) rfl ?_ ?_
        rotate_left
        · (intro w hSw; (try dsimp only at hSw); go_simp; try with_reducible rfl)
        try simp only [Act.put, List.setIfInBounds_toArray, List.set_cons_zero, List.set_cons_succ]
        refine wpT_takeP 8 118 (v := ?_) ⟨fun _ => hHeld.1, fun _ => hHeld.2⟩ rfl rfl (by kernel_rfl) (fun _ _ _ h => h) rfl ?_ ?_
        rotate_left
        · (intro w; go_simp; try with_reducible rfl)
        try simp only [Act.put, List.setIfInBounds_toArray, List.set_cons_zero, List.set_cons_succ]
        refine wpT_takeP 9 119 (v := ?_) ⟨fun _ => hHeld.1, fun _ => hHeld.2⟩ rfl rfl (by kernel_rfl) (fun _ _ _ h => h) rfl ?_ ?_
        rotate_left
        · (intro w; go_simp; try with_reducible rfl)
        try simp only [Act.put, List.setIfInBounds_toArray, List.set_cons_zero, List.set_cons_succ]
        refine wpT_take 10 120 (v := ?_) hHeld.1 hHeld.2 rfl rfl (by kernel_rfl) (fun _ _ _ h => h) rfl ?_ ?_
        rotate_left
        · (intro w hSw; (try dsimp only at hSw); go_simp; try with_reducible rfl)
        try simp only [Act.put, List.setIfInBounds_toArray, List.set_cons_zero, List.set_cons_succ]
        have HJD := Lib.hid HT1.out.drew
        generalize wc.drew = wd at HJD hHeld ⊢
        have f5 := HJD.out.st.froz (6 + sm)
        have q5 := HJD.out.st.sem_at HSL.out hs16
        have HPU := Lib.hid (HJD.out.sem HSL.out hs16 (u - 1))
        refine wpT_tail [_] 11 [] rfl (by kernel_rfl) ?_
        clear hHeld wu n0 n1 z
        go_wp2_with fail
        go_end0
        exact ⟨rfl, by rw [HDO.out, HDL.out]; exact HPU.out.st⟩
      · by_cases h13 : d = 13
        · subst h13
          obtain ⟨mn, ma, mb, mc⟩ := AdjC.right_inner HWX.out rfl
          simp only at mn ma mb mc
          obtain ⟨n, rfl⟩ : ∃ m : Nat, n = (m : Int) := ⟨n.toNat, by omega⟩
          obtain ⟨p, rfl⟩ : ∃ p : Nat, a = (p : Int) := ⟨a.toNat, by omega⟩
          have HMB := Lib.hid mb
          have HMC := Lib.hid mc
          have hpp : p < s1.pad.length := by have := HPL.out; omega
          have hpp4 : s1.pad.length ≤ 4096 := by have := HPL.out; omega
          have HDL := Lib.hid (show AdjC.doI ⟨13, (p : Int), b2, c', (n : Int), v⟩ s1 = { s1 with pad := AdjC.put s1.pad (p : Int) (AdjC.sumK ⟨13, (p : Int), b2, c', (n : Int), v⟩ s1.pad n) } from rfl)
          have HAE := Lib.hid (HT1.out.st.pad.some_ (by omega))
          clear mb mc ma
          have n0 := HT1.out.ins.cell 0
          have n1 := HT1.out.ins.cell 1
          have n4 := HT1.out.ins.cell 4
          have b4 := HT1.out.st.pad_at
          rw [HAE.out] at b4
          have b6 := HT1.out.st.pad.cell (k := p) hpp
          have i1 : (p : Int) < (s1.pad.length : Int) := by omega
          go_upto_region 21 with (fail)
          go_cut [7] (fun s7 wx => s7 = .int .i64 (AdjC.at_ s1.pad (p : Int)) ∧ Cr.Tx w k c s1 ⟨13, (p : Int), b2, c', (n : Int), v⟩ ib wx)
          case first =>
            go_quiet (fail)
            go_wp2_with fail
            go_meet
            case rel => exact ⟨rfl, HT1.out.drewN _⟩
          case rest =>
            obtain ⟨rfl, ht2⟩ := hcut
            have HT2 := Lib.hid ht2
            clear ht2 n0 n1 n4 b4 b6 i1
            have n4 := HT2.out.ins.cell 4
            go_wp2_with fail
            clear n4
            go_loopw [7, 133] (fun sm i wr => ∃ j : Nat, j ≤ n ∧ i = .int .i64 (j : Int) ∧ sm = .int .i64 (AdjC.sumK ⟨13, (p : Int), b2, c', (n : Int), v⟩ s1.pad j) ∧ Cr.Tx w k c s1 ⟨13, (p : Int), b2, c', (n : Int), v⟩ ib wr) (fun _ i _ => n - (intOf i).toNat)
            case atStart => exact ⟨0, by omega, rfl, rfl, HT2.out⟩
            case round =>
              obtain ⟨j, hj, rfl, rfl, he⟩ := hrel
              have HJ := Lib.hid he
              clear he
              have n4 := HJ.out.ins.cell 4
              have b4 := HJ.out.st.pad_at
              rw [HAE.out] at b4
              by_cases hlt : j < n
              · obtain ⟨q, rfl⟩ : ∃ q : Nat, b2 = (q : Int) := ⟨b2.toNat, by have := HMB.out (by omega); omega⟩
                obtain ⟨r, rfl⟩ : ∃ r : Nat, c' = (r : Int) := ⟨c'.toNat, by have := HMC.out (by omega); omega⟩
                have hqn : q + n ≤ s1.pad.length := by have := HMB.out (by omega); have := HPL.out; omega
                have hrn : r + n ≤ s1.pad.length := by have := HMC.out (by omega); have := HPL.out; omega
                have n2 := HJ.out.ins.cell 2
                have n3 := HJ.out.ins.cell 3
                have b6 := HJ.out.st.pad.cell (k := q + j) (by omega)
                have b7 := HJ.out.st.pad.cell (k := r + j) (by omega)
                have wq : IntKind.i64.wrap ((q : Int) + (j : Int)) = (q : Int) + (j : Int) := IntWalk.i64_in _ (by omega)
                have i1 : (0 : Int) ≤ (q : Int) + (j : Int) := by omega
                have i2 : (q : Int) + (j : Int) < (s1.pad.length : Int) := by omega
                have i3 : ((q : Int) + (j : Int)).toNat = q + j := by omega
                have wr2 : IntKind.i64.wrap ((r : Int) + (j : Int)) = (r : Int) + (j : Int) := IntWalk.i64_in _ (by omega)
                have i4 : (0 : Int) ≤ (r : Int) + (j : Int) := by omega
                have i5 : (r : Int) + (j : Int) < (s1.pad.length : Int) := by omega
                have i6 : ((r : Int) + (j : Int)).toNat = r + j := by omega
                have HSK := Lib.hid (Cr.sumK_next ⟨13, (p : Int), (q : Int), (r : Int), (n : Int), v⟩ s1.pad j q r rfl rfl)
                obtain ⟨u1, hu1⟩ : ∃ u, AdjC.at_ s1.pad ((q + j : Nat) : Int) = u := ⟨_, rfl⟩
                obtain ⟨u2, hu2⟩ : ∃ u, AdjC.at_ s1.pad ((r + j : Nat) : Int) = u := ⟨_, rfl⟩
                obtain ⟨u3, hu3⟩ : ∃ u, AdjC.sumK ⟨13, (p : Int), (q : Int), (r : Int), (n : Int), v⟩ s1.pad j = u := ⟨_, rfl⟩
                rw [hu1] at b6 HSK
                rw [hu2] at b7 HSK
                rw [hu3] at HSK
                simp only [hu3]
                clear hu1 hu2
                have HU3 := Lib.hid hu3
                clear hu3
                go_wp2_with fail
                go_quiet (fail)
                clear wq i1 i2 i3 wr2 i4 i5 i6 n2 n3 n4 b4 b6 b7
                go_wp2_with fail
                go_roundw
                case rel => exact ⟨j + 1, by omega, by go_num, by rw [HSK.out], HJ.out.drewN _⟩
                case measure => simp [intOf]; omega
              · obtain rfl : j = n := by omega
                have n1 := HJ.out.ins.cell 1
                go_wp2_with fail
                refine wp_region_T (fun w' => w'.cell? ⟨k.g, 4, none⟩ = some (.slice (some ⟨k.gp, 0, none⟩) s1.pad.length k.cp) ∧ w'.cell? ⟨ib, 1, none⟩ = some (.int .i64 (p : Int))) 7 (fun _ => True) 7 9 rfl (by kernel_rfl) ⟨⟨b4, n1⟩, trivial⟩ (fun hHeld => ?_)
                simp only [List.replicate_succ, List.replicate_zero]
                refine wpT_take 0 160 (v := ?_) hHeld.1 hHeld.2 rfl rfl (by kernel_rfl) (fun _ _ _ h => h) rfl ?_ ?_
                rotate_left
                · (intro w hSw; (try dsimp only at hSw); go_simp; try with_reducible rfl)
                try simp only [Act.put, List.setIfInBounds_toArray, List.set_cons_zero, List.set_cons_succ]
                refine wpT_take 1 161 (v := ?_) hHeld.1 hHeld.2 rfl rfl (by kernel_rfl) (fun _ _ _ h => h) rfl ?_ ?_
                rotate_left
                · (intro w hSw; (try dsimp only at hSw); go_simp; try with_reducible rfl)
                try simp only [Act.put, List.setIfInBounds_toArray, List.set_cons_zero, List.set_cons_succ]
                refine wpT_take 2 162 (v := ?_) hHeld.1 hHeld.2 rfl rfl (by kernel_rfl) (fun _ _ _ h => h) rfl ?_ ?_
                rotate_left
                · (intro w hSw; (try dsimp only at hSw); go_simp; try with_reducible rfl)
                try simp only [Act.put, List.setIfInBounds_toArray, List.set_cons_zero, List.set_cons_succ]
                refine wpT_take 3 163 (v := ?_) hHeld.1 hHeld.2 rfl rfl (by kernel_rfl) (fun _ _ _ h => h) rfl ?_ ?_
                rotate_left
                · (intro w hSw; (try dsimp only at hSw); go_simp; try with_reducible rfl)
                try simp only [Act.put, List.setIfInBounds_toArray, List.set_cons_zero, List.set_cons_succ]
                refine wpT_take 4 164 (v := ?_) hHeld.1 hHeld.2 rfl rfl (by kernel_rfl) (fun _ _ _ h => h) rfl ?_ ?_
                rotate_left
                · (intro w hSw; (try dsimp only at hSw); go_simp; try with_reducible rfl)
                try simp only [Act.put, List.setIfInBounds_toArray, List.set_cons_zero, List.set_cons_succ]
                refine wpT_take 5 165 (v := ?_) hHeld.1 hHeld.2 rfl rfl (by kernel_rfl) (fun _ _ _ h => h) rfl ?_ ?_
                rotate_left
                · (intro w hSw; (try dsimp only at hSw); go_simp; try with_reducible rfl)
                try simp only [Act.put, List.setIfInBounds_toArray, List.set_cons_zero, List.set_cons_succ]
                refine wpT_take 6 166 (v := ?_) hHeld.1 hHeld.2 rfl rfl (by kernel_rfl) (fun _ _ _ h => h) rfl ?_ ?_
                rotate_left
                · (intro w hSw; (try dsimp only at hSw); go_simp; try with_reducible rfl)
                try simp only [Act.put, List.setIfInBounds_toArray, List.set_cons_zero, List.set_cons_succ]
                have HJD := Lib.hid HJ.out.drew
                generalize wr.drew = wd at HJD hHeld ⊢
                have f5 := HJD.out.st.pad.frozen hpp
                have q5 := HJD.out.st.pad.cell hpp
                have HPU := Lib.hid (HJD.out.put hpp (AdjC.sumK ⟨13, (p : Int), b2, c', (j : Int), v⟩ s1.pad j))
                refine wpT_tail [_, _] 7 [8] rfl (by kernel_rfl) ?_
                clear hHeld n1 n4 b4
                go_wp2_with fail
                go_end0
                exact ⟨rfl, by rw [HDO.out, HDL.out]; exact HPU.out.st⟩
        · have hfit := AdjC.right_each HWX.out ⟨hd.1, hd.2, h13⟩
          simp only at hfit hd
          have HE := Lib.hid (each_any w wc k c s1 ⟨d, a, b2, c', n, v⟩ HT1.out.st ⟨⟨hd.1, hd.2, h13⟩, hfit.1, hfit.2.1, fun hn => by have := hfit.2.2.1 hn; have := HPL.out; simp only at *; omega, fun h5 hn => by have := hfit.2.2.2.1 h5 hn; have := HPL.out; simp only at *; omega, fun h5 hn => by have := hfit.2.2.2.2 h5 hn; have := HPL.out; simp only at *; omega⟩ (by have := HPL.out; omega))
          simp only [Cr.insV] at HE
          have HDL := Lib.hid (Cr.doI_rest ⟨d, a, b2, c', n, v⟩ s1 (by simp only; omega))
          obtain ⟨t1, t2, t3, t4, t5⟩ := Cr.tests_rest (d := d) (by omega)
          have n0 := HT1.out.ins.cell 0
          have n1 := HT1.out.ins.cell 1
          have n2 := HT1.out.ins.cell 2
          have n3 := HT1.out.ins.cell 3
          have n4 := HT1.out.ins.cell 4
          have n5 := HT1.out.ins.cell 5
          clear hfit hd h13
          go_wp2_with fail
          ((with_reducible refine HE.out.mono ?_); rintro e w5 ⟨rfl, hst⟩)
          have HF := Lib.hid hst
          clear hst n0 n1 n2 n3 n4 n5
          go_wp2_with fail
          go_end0
          exact ⟨rfl, by rw [HDO.out, HDL.out]; exact HF.out⟩
end Go.Proofs.Ytlnfmipcbhhkhaa
