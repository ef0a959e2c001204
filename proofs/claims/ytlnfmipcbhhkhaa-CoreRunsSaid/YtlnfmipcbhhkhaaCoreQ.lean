/-
  The machine at work as it lies in memory; the walks of of and can. Conditions: the machine's state lies there.
-/
import Derived.Test.YtlnfmipcbhhkhaaCoreP
import Derived.Test.YtlnfmipcbhhkhaaCorePlain7
import Derived.Deep.QuietTactic
import Derived.BigQuiet
namespace Go.Proofs.Ytlnfmipcbhhkhaa
set_option linter.unusedVariables false
open Go.RowKit Adj

namespace Cr
/-- A block of words that a slice begins. -/
def Mm (w : World) (A : Option Addr) (g : Nat) (l : List Int) : Prop :=
  0 < l.length → A = some ⟨g, 0, none⟩ ∧ ∃ cur, Blk w g 2 cur ∧ ∀ (j : Nat) (x : Int), l[j]? = some x → cur[j]? = some (.int .i64 x)
section
variable {w w' : World} {A : Option Addr} {g : Nat} {l : List Int}
theorem Mm.keep (h : Mm w A g l) (hk : g < w.heap.size → w'.heap[g]? = w.heap[g]?) : Mm w' A g l := fun hp => by
  obtain ⟨e, cur, h1, h2⟩ := h hp
  exact ⟨e, cur, (hk h1.lt).trans h1, h2⟩
theorem Mm.alloc (h : Mm w A g l) (o : Obj) : Mm (w.alloc o) A g l := h.keep fun hl => Below.heap_alloc w o g hl
theorem Mm.drew (h : Mm w A g l) : Mm w.drew A g l := h
theorem Mm.below (h : Mm w A g l) (hb : Below w.heap.size w w') : Mm w' A g l := h.keep fun hl => hb.block g hl
theorem Mm.far (h : Mm w A g l) {p : Addr} (hp : g ≠ p.block) (u : Value) : Mm (w.setCell p u) A g l := h.keep fun _ => Below.heap_setCell w p u g hp
theorem Mm.put (h : Mm w A g l) {k : Nat} (hk : k < l.length) (v : Int) : Mm (w.setCell ⟨g, k, none⟩ (.int .i64 v)) A g (AdjC.put l (k : Int) v) := fun hp => by
  obtain ⟨e, cur, h1, h2⟩ := h (by omega)
  refine ⟨e, _, h1.set_ k _, fun j x hx => ?_⟩
  unfold AdjC.put at hx
  rw [Int.toNat_natCast, List.getElem?_set] at hx
  have hkc : k < cur.size := by
    have := h2 k _ (List.getElem?_eq_getElem hk)
    exact (Array.getElem?_eq_some_iff.1 this).1
  rw [Array.getElem?_setIfInBounds]
  by_cases hj : k = j
  · rw [if_pos hj] at hx ⊢
    rw [if_pos (by omega)] at hx
    rw [if_pos (by omega)]
    simp at hx; rw [hx]
  · rw [if_neg hj] at hx ⊢
    exact h2 j x hx
theorem Mm.cell (h : Mm w A g l) {k : Nat} (hk : k < l.length) : w.cell? ⟨g, k, none⟩ = some (.int .i64 (AdjC.at_ l (k : Int))) := by
  obtain ⟨e, cur, h1, h2⟩ := h (by omega)
  have := h2 k _ (List.getElem?_eq_getElem hk)
  rw [h1.cell, this]
  unfold AdjC.at_
  rw [Int.toNat_natCast, List.getD_eq_getElem?_getD, List.getElem?_eq_getElem hk]; rfl
theorem Mm.frozen (h : Mm w A g l) {k : Nat} (hk : k < l.length) : w.frozen? ⟨g, k, none⟩ = false := by
  obtain ⟨e, cur, h1, h2⟩ := h (by omega)
  exact h1.frozen k
theorem Mm.lt (h : Mm w A g l) (hp : 0 < l.length) : g < w.heap.size := by
  obtain ⟨e, cur, h1, h2⟩ := h hp
  exact h1.lt
theorem Mm.some_ (h : Mm w A g l) (hp : 0 < l.length) : A = some ⟨g, 0, none⟩ := (h hp).1
end
/-- Where the parts of a state lie. -/
structure Sk where
  g : Nat
  gp : Nat
  gm : Nat
  A : Option Addr
  A' : Option Addr
  Ap : Option Addr
  Am : Option Addr
  n : Nat
  n' : Nat
  cp : Nat
  cm : Nat
def stL (k : Sk) (c : AdjC.Code) (s : AdjC.St) : List Value :=
  [.int .i64 c.pad, .int .i64 c.mem, .slice k.A c.mover.length k.n, .slice k.A' c.maker.length k.n', .slice k.Ap s.pad.length k.cp, .slice k.Am s.mem.length k.cm] ++ (ints s.sems ++ [.int .i64 (s.i : Int), .int .i64 (s.j : Int)])
/-- The state s lies in world wr; below w nothing has changed. -/
structure Sb (w : World) (k : Sk) (c : AdjC.Code) (s : AdjC.St) (wr : World) : Prop where
  bel : Below w.heap.size w wr
  apart : w.heap.size ≤ k.g ∧ w.heap.size ≤ k.gp ∧ w.heap.size ≤ k.gm ∧ k.g ≠ k.gp ∧ k.g ≠ k.gm ∧ k.gp ≠ k.gm
  blk : Blk wr k.g 50 (stL k c s).toArray
  pad : Mm wr k.Ap k.gp s.pad
  mem : Mm wr k.Am k.gm s.mem
  mov : IntsAt w w.heap.size k.A (AdjC.flat c.mover)
  mak : IntsAt w w.heap.size k.A' (AdjC.flat c.maker)
  caps : s.pad.length ≤ k.cp ∧ k.cp ≤ 9223372036854775807
section
variable {w wr wr' : World} {k : Sk} {c : AdjC.Code} {s : AdjC.St}
theorem Sb.lt (h : Sb w k c s wr) : k.g < wr.heap.size := h.blk.lt
theorem Sb.alloc (h : Sb w k c s wr) (o : Obj) : Sb w k c s (wr.alloc o) := ⟨h.bel.alloc h.bel.size o, h.apart, h.blk.alloc o, h.pad.alloc o, h.mem.alloc o, h.mov, h.mak, h.caps⟩
theorem Sb.drew (h : Sb w k c s wr) : Sb w k c s wr.drew := ⟨h.bel.drew, h.apart, h.blk, h.pad, h.mem, h.mov, h.mak, h.caps⟩
theorem Sb.drewN (h : Sb w k c s wr) (m : Nat) : Sb w k c s (wr.drewN m) := ⟨below_drewN h.bel m, h.apart, h.blk, h.pad, h.mem, h.mov, h.mak, h.caps⟩
theorem Sb.below (h : Sb w k c s wr) (hb : Below wr.heap.size wr wr') : Sb w k c s wr' := ⟨h.bel.trans (hb.mono h.bel.size), h.apart, h.blk.below hb h.blk.lt, h.pad.below hb, h.mem.below hb, h.mov, h.mak, h.caps⟩
theorem Sb.at_ (h : Sb w k c s wr) {j : Nat} {v : Value} (hv : (stL k c s)[j]? = some v) : wr.cell? ⟨k.g, j, none⟩ = some v := by
  rw [h.blk.cell]; simpa using hv
theorem Sb.froz (h : Sb w k c s wr) (j : Nat) : wr.frozen? ⟨k.g, j, none⟩ = false := h.blk.frozen j
theorem Sb.mover_at (h : Sb w k c s wr) : wr.cell? ⟨k.g, 2, none⟩ = some (.slice k.A c.mover.length k.n) := h.at_ rfl
theorem Sb.maker_at (h : Sb w k c s wr) : wr.cell? ⟨k.g, 3, none⟩ = some (.slice k.A' c.maker.length k.n') := h.at_ rfl
theorem Sb.pad_at (h : Sb w k c s wr) : wr.cell? ⟨k.g, 4, none⟩ = some (.slice k.Ap s.pad.length k.cp) := h.at_ rfl
theorem Sb.mem_at (h : Sb w k c s wr) : wr.cell? ⟨k.g, 5, none⟩ = some (.slice k.Am s.mem.length k.cm) := h.at_ rfl
theorem stL_sem {j : Nat} (hl : s.sems.length = 16) (hj : j < 16) : (stL k c s)[6 + j]? = some (.int .i64 (AdjC.at_ s.sems (j : Int))) := by
  unfold stL
  rw [List.getElem?_append_right (by simp), List.getElem?_append_left (by rw [ints_length]; simp; omega)]
  simp only [List.length_cons, List.length_nil]
  rw [show 6 + j - (0 + 1 + 1 + 1 + 1 + 1 + 1) = j by omega, ints_at _ _ (by omega)]
  unfold AdjC.at_; rw [Int.toNat_natCast, List.getD_eq_getElem?_getD, List.getElem?_eq_getElem (by omega)]; rfl
theorem stL_i (hl : s.sems.length = 16) : (stL k c s)[22]? = some (.int .i64 (s.i : Int)) := by
  unfold stL
  rw [List.getElem?_append_right (by simp), List.getElem?_append_right (by rw [ints_length]; simp; omega)]
  simp [ints_length, hl]
theorem stL_j (hl : s.sems.length = 16) : (stL k c s)[23]? = some (.int .i64 (s.j : Int)) := by
  unfold stL
  rw [List.getElem?_append_right (by simp), List.getElem?_append_right (by rw [ints_length]; simp; omega)]
  simp [ints_length, hl]
theorem Sb.sem_at (h : Sb w k c s wr) {j : Nat} (hl : s.sems.length = 16) (hj : j < 16) : wr.cell? ⟨k.g, 6 + j, none⟩ = some (.int .i64 (AdjC.at_ s.sems (j : Int))) := h.at_ (stL_sem hl hj)
theorem Sb.i_at (h : Sb w k c s wr) (hl : s.sems.length = 16) : wr.cell? ⟨k.g, 22, none⟩ = some (.int .i64 (s.i : Int)) := h.at_ (stL_i hl)
theorem Sb.j_at (h : Sb w k c s wr) (hl : s.sems.length = 16) : wr.cell? ⟨k.g, 23, none⟩ = some (.int .i64 (s.j : Int)) := h.at_ (stL_j hl)
theorem stL_set_i (hl : s.sems.length = 16) (m : Nat) : (stL k c s).toArray.setIfInBounds 22 (.int .i64 (m : Int)) = (stL k c { s with i := m }).toArray := by
  rw [List.setIfInBounds_toArray]
  congr 1
  unfold stL
  rw [List.set_append_right _ _ (by simp), List.set_append_right _ _ (by rw [ints_length]; simp; omega)]
  simp [ints_length, hl]
theorem stL_set_j (hl : s.sems.length = 16) (m : Nat) : (stL k c s).toArray.setIfInBounds 23 (.int .i64 (m : Int)) = (stL k c { s with j := m }).toArray := by
  rw [List.setIfInBounds_toArray]
  congr 1
  unfold stL
  rw [List.set_append_right _ _ (by simp), List.set_append_right _ _ (by rw [ints_length]; simp; omega)]
  simp [ints_length, hl]
theorem stL_set_sem (hl : s.sems.length = 16) {j : Nat} (hj : j < 16) (v : Int) : (stL k c s).toArray.setIfInBounds (6 + j) (.int .i64 v) = (stL k c { s with sems := AdjC.put s.sems (j : Int) v }).toArray := by
  rw [List.setIfInBounds_toArray]
  congr 1
  unfold stL
  rw [List.set_append_right _ _ (by simp), List.set_append_left _ _ (by rw [ints_length]; simp; omega)]
  simp only [List.length_cons, List.length_nil]
  rw [show 6 + j - (0 + 1 + 1 + 1 + 1 + 1 + 1) = j by omega]
  congr 2
  unfold ints AdjC.put
  rw [Int.toNat_natCast, List.map_set]
theorem Sb.set_i (h : Sb w k c s wr) (hl : s.sems.length = 16) (m : Nat) : Sb w k c { s with i := m } (wr.setCell ⟨k.g, 22, none⟩ (.int .i64 (m : Int))) :=
  ⟨h.bel.setCell (p := ⟨k.g, 22, none⟩) h.apart.1 _, h.apart, by rw [← stL_set_i hl]; exact h.blk.set_ 22 _, h.pad.far (p := ⟨k.g, 22, none⟩) (Ne.symm h.apart.2.2.2.1) _, h.mem.far (p := ⟨k.g, 22, none⟩) (Ne.symm h.apart.2.2.2.2.1) _, h.mov, h.mak, h.caps⟩
theorem Sb.set_j (h : Sb w k c s wr) (hl : s.sems.length = 16) (m : Nat) : Sb w k c { s with j := m } (wr.setCell ⟨k.g, 23, none⟩ (.int .i64 (m : Int))) :=
  ⟨h.bel.setCell (p := ⟨k.g, 23, none⟩) h.apart.1 _, h.apart, by rw [← stL_set_j hl]; exact h.blk.set_ 23 _, h.pad.far (p := ⟨k.g, 23, none⟩) (Ne.symm h.apart.2.2.2.1) _, h.mem.far (p := ⟨k.g, 23, none⟩) (Ne.symm h.apart.2.2.2.2.1) _, h.mov, h.mak, h.caps⟩
theorem Sb.set_sem (h : Sb w k c s wr) (hl : s.sems.length = 16) {j : Nat} (hj : j < 16) (v : Int) : Sb w k c { s with sems := AdjC.put s.sems (j : Int) v } (wr.setCell ⟨k.g, 6 + j, none⟩ (.int .i64 v)) :=
  ⟨h.bel.setCell (p := ⟨k.g, 6 + j, none⟩) h.apart.1 _, h.apart, by rw [← stL_set_sem hl hj]; exact h.blk.set_ (6 + j) _, h.pad.far (p := ⟨k.g, 6 + j, none⟩) (Ne.symm h.apart.2.2.2.1) _, h.mem.far (p := ⟨k.g, 6 + j, none⟩) (Ne.symm h.apart.2.2.2.2.1) _, h.mov, h.mak, h.caps⟩
theorem stL_pad (l : List Int) (hl : l.length = s.pad.length) : stL k c { s with pad := l } = stL k c s := by unfold stL; simp only; rw [hl]
theorem stL_mem (l : List Int) (hl : l.length = s.mem.length) : stL k c { s with mem := l } = stL k c s := by unfold stL; simp only; rw [hl]
theorem Sb.set_pad (h : Sb w k c s wr) {j : Nat} (hj : j < s.pad.length) (v : Int) : Sb w k c { s with pad := AdjC.put s.pad (j : Int) v } (wr.setCell ⟨k.gp, j, none⟩ (.int .i64 v)) :=
  ⟨h.bel.setCell (p := ⟨k.gp, j, none⟩) h.apart.2.1 _, h.apart, by rw [stL_pad _ (AdjC.put_length _ _ _)]; exact h.blk.far (p := ⟨k.gp, j, none⟩) h.apart.2.2.2.1 _, h.pad.put hj v, h.mem.far (p := ⟨k.gp, j, none⟩) (Ne.symm h.apart.2.2.2.2.2) _, h.mov, h.mak, by simp only [AdjC.put_length]; exact h.caps⟩
theorem Sb.set_mem (h : Sb w k c s wr) {j : Nat} (hj : j < s.mem.length) (v : Int) : Sb w k c { s with mem := AdjC.put s.mem (j : Int) v } (wr.setCell ⟨k.gm, j, none⟩ (.int .i64 v)) :=
  ⟨h.bel.setCell (p := ⟨k.gm, j, none⟩) h.apart.2.2.1 _, h.apart, by rw [stL_mem _ (AdjC.put_length _ _ _)]; exact h.blk.far (p := ⟨k.gm, j, none⟩) h.apart.2.2.2.2.1 _, h.pad.far (p := ⟨k.gm, j, none⟩) h.apart.2.2.2.2.2 _, h.mem.put hj v, h.mov, h.mak, h.caps⟩
end
end Cr

set_option maxHeartbeats 1000000 in
theorem of_mover (w wr : World) (k : Cr.Sk) (c : AdjC.Code) (s : AdjC.St) (h : Cr.Sb w k c s wr) :
    Calls Try.prog 34 #[.pointer (some ⟨k.g, 0, none⟩), .int .i64 0] wr fun e w' => e = .returned (.slice k.A c.mover.length k.n) ∧ wr = w' := by
  have a2 := h.mover_at
  clear h
  go_enter Try.func34, Try.ntmps34
  go_wp2_with fail
  go_ret
  exact ⟨rfl, rfl⟩
set_option maxHeartbeats 1000000 in
theorem of_maker (w wr : World) (k : Cr.Sk) (c : AdjC.Code) (s : AdjC.St) (h : Cr.Sb w k c s wr) :
    Calls Try.prog 34 #[.pointer (some ⟨k.g, 0, none⟩), .int .i64 1] wr fun e w' => e = .returned (.slice k.A' c.maker.length k.n') ∧ wr = w' := by
  have a2 := h.maker_at
  clear h
  go_enter Try.func34, Try.ntmps34
  go_wp2_with fail
  go_ret
  exact ⟨rfl, rfl⟩

set_option maxRecDepth 100000 in
set_option maxHeartbeats 4000000 in
theorem can_mover (w wr : World) (k : Cr.Sk) (c : AdjC.Code) (s : AdjC.St) (h : Cr.Sb w k c s wr) (ho : AdjC.Ok c s) (hw : AdjC.wrong c = 0) :
    Calls Try.prog 19 #[.pointer (some ⟨k.g, 0, none⟩), .int .i64 0] wr fun e w' => e = .returned (.bool (AdjC.canA c s)) ∧ Below wr.heap.size wr w' := by
  have HO := Lib.hid (fun W (hb : Cr.Sb w k c s W) => of_mover w W k c s hb)
  have HS := Lib.hid h
  have hsem := ho.sems
  have a1 := h.i_at hsem
  have hlen := (AdjC.wrong_zero hw).2.1
  have hij := ho.i
  have HW := Lib.hid (AdjC.wrong_zero hw).2.2.1
  have HSE := Lib.hid hsem
  clear h ho hw hsem
  by_cases hlt : s.i < c.mover.length
  · obtain ⟨b, off, hA, hbl⟩ := HS.out.mov.spot (by rw [AdjC.flat_length]; omega)
    obtain ⟨x, hx⟩ : ∃ x, c.mover[s.i] = x := ⟨_, rfl⟩
    have hm := HS.out.mov.below HS.out.bel
    rw [hA] at hm
    obtain ⟨x0, x1, x2, x3, x4, x5⟩ := Cr.six_cells hm hlt hx
    have HX := Lib.hid (HW.out x (by rw [← hx]; exact List.getElem_mem hlt))
    have HC := Lib.hid (show AdjC.canA c s = AdjC.ready x s by unfold AdjC.canA; rw [List.getElem?_eq_getElem hlt, hx])
    have HB := Lib.hid (fun o => (Below.refl wr.heap.size wr).alloc (Nat.le_refl _) o)
    have hzr := HS.out.lt
    have hne1 : (s.i == c.mover.length) = false := by simp; omega
    have hne2 : (((s.i : Nat) : Int) == (c.mover.length : Int)) = false := by simp; omega
    have HA := Lib.hid hA
    clear hx hm hA
    go_enter Try.func19, Try.ntmps19
    by_cases h4 : x.d = 4
    · obtain ⟨sm, hs, hs16⟩ := AdjC.sem_range HX.out (.inr h4)
      have z := fun o => (HS.out.alloc o).sem_at HSE.out hs16
      have HR := Lib.hid (show AdjC.ready x s = decide (0 < AdjC.at_ s.sems (sm : Int)) by unfold AdjC.ready; rw [hs, h4]; simp)
      rw [h4] at x0
      rw [hs] at x1
      obtain ⟨v, hv⟩ : ∃ v, AdjC.at_ s.sems (sm : Int) = v := ⟨_, rfl⟩
      have HV := Lib.hid hv
      rw [hv] at z
      clear h4 hs hv
      go_wp2_with fail
      ((with_reducible refine (HO.out _ HS.out).mono ?_); rintro e w' ⟨rfl, rfl⟩)
      rw [HA.out]
      go_wp2_with fail
      go_quiet (fail)
      go_wp2_with fail
      go_ret
      exact ⟨by rw [HC.out, HR.out, HV.out]; first | rfl | simp, below_drewN (HB.out _) _⟩
    · have z := fun o => (HS.out.alloc o).sem_at HSE.out (j := 0) (by omega)
      have HR := Lib.hid (show AdjC.ready x s = true by unfold AdjC.ready; simp [h4])
      have q4 : (x.d != 4) = true := by simpa using h4
      clear h4
      go_wp2_with fail
      ((with_reducible refine (HO.out _ HS.out).mono ?_); rintro e w' ⟨rfl, rfl⟩)
      rw [HA.out]
      go_wp2_with fail
      go_quiet (fail)
      go_wp2_with fail
      go_ret
      exact ⟨by rw [HC.out, HR.out]; rfl, below_drewN (HB.out _) _⟩
  · have HC := Lib.hid (show AdjC.canA c s = false by unfold AdjC.canA; rw [List.getElem?_eq_none (by omega)])
    have he : s.i = c.mover.length := by omega
    rw [he] at a1
    clear he
    go_enter Try.func19, Try.ntmps19
    go_wp2_with fail
    ((with_reducible refine (HO.out _ HS.out).mono ?_); rintro e w' ⟨rfl, rfl⟩)
    go_wp2_with fail
    go_ret
    exact ⟨by rw [HC.out]; rfl, Below.refl _ _⟩

set_option maxRecDepth 100000 in
set_option maxHeartbeats 4000000 in
theorem can_maker (w wr : World) (k : Cr.Sk) (c : AdjC.Code) (s : AdjC.St) (h : Cr.Sb w k c s wr) (ho : AdjC.Ok c s) (hw : AdjC.wrong c = 0) :
    Calls Try.prog 19 #[.pointer (some ⟨k.g, 0, none⟩), .int .i64 1] wr fun e w' => e = .returned (.bool (AdjC.canB c s)) ∧ Below wr.heap.size wr w' := by
  have HO := Lib.hid (fun W (hb : Cr.Sb w k c s W) => of_maker w W k c s hb)
  have HS := Lib.hid h
  have hsem := ho.sems
  have a1 := h.j_at hsem
  have hlen := (AdjC.wrong_zero hw).2.1
  have hij := ho.j
  have HW := Lib.hid (AdjC.wrong_zero hw).2.2.2.1
  have HSE := Lib.hid hsem
  clear h ho hw hsem
  by_cases hlt : s.j < c.maker.length
  · obtain ⟨b, off, hA, hbl⟩ := HS.out.mak.spot (by rw [AdjC.flat_length]; omega)
    obtain ⟨x, hx⟩ : ∃ x, c.maker[s.j] = x := ⟨_, rfl⟩
    have hm := HS.out.mak.below HS.out.bel
    rw [hA] at hm
    obtain ⟨x0, x1, x2, x3, x4, x5⟩ := Cr.six_cells hm hlt hx
    have HX := Lib.hid (HW.out x (by rw [← hx]; exact List.getElem_mem hlt))
    have HC := Lib.hid (show AdjC.canB c s = AdjC.ready x s by unfold AdjC.canB; rw [List.getElem?_eq_getElem hlt, hx])
    have HB := Lib.hid (fun o => (Below.refl wr.heap.size wr).alloc (Nat.le_refl _) o)
    have hzr := HS.out.lt
    have hne1 : (s.j == c.maker.length) = false := by simp; omega
    have hne2 : (((s.j : Nat) : Int) == (c.maker.length : Int)) = false := by simp; omega
    have HA := Lib.hid hA
    clear hx hm hA
    go_enter Try.func19, Try.ntmps19
    by_cases h4 : x.d = 4
    · obtain ⟨sm, hs, hs16⟩ := AdjC.sem_range HX.out (.inr h4)
      have z := fun o => (HS.out.alloc o).sem_at HSE.out hs16
      have HR := Lib.hid (show AdjC.ready x s = decide (0 < AdjC.at_ s.sems (sm : Int)) by unfold AdjC.ready; rw [hs, h4]; simp)
      rw [h4] at x0
      rw [hs] at x1
      obtain ⟨v, hv⟩ : ∃ v, AdjC.at_ s.sems (sm : Int) = v := ⟨_, rfl⟩
      have HV := Lib.hid hv
      rw [hv] at z
      clear h4 hs hv
      go_wp2_with fail
      ((with_reducible refine (HO.out _ HS.out).mono ?_); rintro e w' ⟨rfl, rfl⟩)
      rw [HA.out]
      go_wp2_with fail
      go_quiet (fail)
      go_wp2_with fail
      go_ret
      exact ⟨by rw [HC.out, HR.out, HV.out]; first | rfl | simp, below_drewN (HB.out _) _⟩
    · have z := fun o => (HS.out.alloc o).sem_at HSE.out (j := 0) (by omega)
      have HR := Lib.hid (show AdjC.ready x s = true by unfold AdjC.ready; simp [h4])
      have q4 : (x.d != 4) = true := by simpa using h4
      clear h4
      go_wp2_with fail
      ((with_reducible refine (HO.out _ HS.out).mono ?_); rintro e w' ⟨rfl, rfl⟩)
      rw [HA.out]
      go_wp2_with fail
      go_quiet (fail)
      go_wp2_with fail
      go_ret
      exact ⟨by rw [HC.out, HR.out]; rfl, below_drewN (HB.out _) _⟩
  · have HC := Lib.hid (show AdjC.canB c s = false by unfold AdjC.canB; rw [List.getElem?_eq_none (by omega)])
    have he : s.j = c.maker.length := by omega
    rw [he] at a1
    clear he
    go_enter Try.func19, Try.ntmps19
    go_wp2_with fail
    ((with_reducible refine (HO.out _ HS.out).mono ?_); rintro e w' ⟨rfl, rfl⟩)
    go_wp2_with fail
    go_ret
    exact ⟨by rw [HC.out]; rfl, Below.refl _ _⟩
end Go.Proofs.Ytlnfmipcbhhkhaa
