/-
  The walk of the reference's Reads. Conditions: the view is right, and has entries.
-/
import Derived.Test.YtkbmnefjnfihbaaViewU
namespace Go.Proofs.Ytkbmnefjnfihbaa
set_option linter.unusedVariables false
open Go.RowKit Adj

namespace Vw
theorem own_same {w w' : World} {base base' : Nat} {e : TypeId} {v : Value} {n : Nat} {xs : List Value} (h : w.ownsRow base e 1 v n xs) (hb : base' ≤ base) (hs : ∀ b, base ≤ b → b < w.heap.size → w'.heap[b]? = w.heap[b]?) : w'.ownsRow base' e 1 v n xs := by
  refine ⟨h.1, ?_⟩
  rcases h.2 with h2 | ⟨g, cap, cur, h1, h2, hg, h3⟩
  · exact .inl h2
  · exact .inr ⟨g, cap, cur, h1, by omega, (hs g h2 (Array.getElem?_eq_some_iff.1 hg).1).trans hg, h3⟩
/-- Where all entries lie, in order. -/
def readL (v : AdjV.V) : List Int := (List.range (AdjV.prod v.dims).toNat).map fun p : Nat => AdjV.at_ v p
theorem readL_length (v : AdjV.V) : (readL v).length = (AdjV.prod v.dims).toNat := by simp [readL]
theorem readL_next (v : AdjV.V) (k : Nat) (h : (k : Int) < AdjV.prod v.dims) : (readL v).take (k + 1) = (readL v).take k ++ [AdjV.at_ v k] := by
  rw [AdjV.take_next _ k (by rw [readL_length]; omega)]
  simp [readL]
/-- What Reads has laid. -/
structure ReadsI (N : Nat) (W0 w2 : World) (S : Nat) (v : AdjV.V) (o : Value) (k : Nat) (W : World) : Prop where
  own : W.ownsRow N 3 1 o k (ints ((readL v).take k))
  place : ∀ b, o.ownBlock = some b → b < S ∨ w2.heap.size ≤ b
  same : ∀ b, S ≤ b → b < w2.heap.size → W.heap[b]? = w2.heap[b]?
  below : Below N W0 W
  size : w2.heap.size ≤ W.heap.size
theorem ReadsI.later {N S k : Nat} {W0 w2 W W' : World} {v : AdjV.V} {o : Value} (h : ReadsI N W0 w2 S v o k W) (hN : N ≤ w2.heap.size) (hb : Below W.heap.size W W') : ReadsI N W0 w2 S v o k W' :=
  ⟨own_kept h.own hb, h.place, fun b h1 h2 => (hb.block b (by have := h.size; omega)).trans (h.same b h1 h2), h.below.trans (hb.mono (Nat.le_trans hN h.size)), Nat.le_trans h.size hb.size⟩
theorem ReadsI.more {N S k : Nat} {W0 w2 W W' : World} {v : AdjV.V} {o o' : Value} {x : Int} (h : ReadsI N W0 w2 S v o k W) (hN : N ≤ w2.heap.size) (hx : x = AdjV.at_ v k) (hk : (k : Int) < AdjV.prod v.dims)
    (ho : W'.ownsRow N 3 1 o' (k + 1) (ints ((readL v).take k) ++ [.int .i64 x])) (hg : (W.alloc (.cells #[.int .i64 x] 3)).grownBy W' o.ownBlock) (hat : o'.ownBlock = o.ownBlock ∨ o'.ownBlock = some (W.heap.size + 1)) :
    ReadsI N W0 w2 S v o' (k + 1) W' := by
  subst hx
  refine ⟨by rw [readL_next v k hk, ints_snoc]; exact ho, fun b hb => ?_, fun b h1 h2 => ?_, ?_, ?_⟩
  · rcases hat with e | e
    · exact h.place b (e ▸ hb)
    · rw [e] at hb
      simp only [Option.some.injEq] at hb
      have := h.size
      omega
  · refine (hg.block b (by have := h.size; simp; omega) (fun e => ?_)).trans (((Below.heap_alloc W _ b (by have := h.size; omega))).trans (h.same b h1 h2))
    have := h.place b e.symm
    omega
  · exact (h.below.alloc (Nat.le_trans hN h.size) _).grown hg (by have := h.size; simp; omega) (fun q hq => (h.own.lt q hq).1)
  · have := hg.size; have := h.size; simp at *; omega
theorem ReadsI.start {N : Nat} {W1 w2 : World} {v : AdjV.V} (hN : W1.heap.size ≤ N) (hb : Below (N + 1) (W1.alloc (.cells #[] 3)) w2) (hN2 : N ≤ W1.heap.size := by exact Nat.le_refl _) : ReadsI N W1 w2 (N + 1) v (.slice (some ⟨N, 0, none⟩) 0 0) 0 w2 := by
  obtain rfl : N = W1.heap.size := by omega
  have h0 := own_nothing W1 3
  refine ⟨?_, fun b hb => .inl ?_, fun b _ _ => rfl, ?_, Nat.le_refl _⟩
  · simpa [ints] using own_kept h0 (by simpa using hb)
  · simp [Value.ownBlock] at hb; omega
  · exact ((Below.refl _ _).alloc (Nat.le_refl _) _).trans (hb.mono (by omega))
def ReadsOut (w : World) (v : AdjV.V) (e : Ending) (w' : World) : Prop := ∃ o, e = .returned (.tuple #[o, .int .i64 0]) ∧ w'.ownsRow w.heap.size 3 1 o (readL v).length (ints (readL v)) ∧ Below w.heap.size w w'
end Vw

set_option maxHeartbeats 2000000 in
theorem refReads_any (val : Value) (v : AdjV.V) (B : Nat) (w : World) (hB : B ≤ w.heap.size) (h : Vw.ViewAt w B val v) (h0 : AdjV.wrong v = 0) (hp : 0 < AdjV.prod v.dims) :
    Calls Try.prog 25 #[val] w (Vw.ReadsOut w v) := by
  obtain ⟨i0, hi, hz0, hz1, hz2⟩ := info_parts Try.infoOf3
  have HW := Lib.hid (fun (W : World) (hb : Below w.heap.size w W) => refWrong_any val v B W (Nat.le_trans hB hb.size) (h.below (hb.mono hB)))
  obtain ⟨A, c, A', c', rfl, hd, hs, c1, c2, c3, c4⟩ := h
  obtain ⟨z1, z2, z3, z4⟩ := AdjV.wrong_fine h0
  obtain ⟨s1, s2, s3, s4, s5⟩ := AdjV.size_fine z1
  have HPOS := Lib.hid (AdjV.no_zero_of_pos z1 hp)
  have HZ1 := Lib.hid z1
  have HZ2 := Lib.hid z2
  have HD := Lib.hid hd
  have HS := Lib.hid hs
  have H0 := Lib.hid h0
  have HB0 := Lib.hid ((Below.refl w.heap.size w).alloc (Nat.le_refl _) (.cells #[.int .i64 v.st, .slice A v.dims.length c, .slice A' v.steps.length c'] 34))
  clear hd hs z1 z2 z4 s2 s3 h0
  go_enter Try.func25, Try.ntmps25
  go_wp2_with fail
  refine (HW.out _ HB0.out).mono ?_
  rintro e w1 ⟨rfl, hb1⟩
  rw [H0.out]
  have HX := Lib.hid ((Blk.new w 34 #[.int .i64 v.st, .slice A v.dims.length c, .slice A' v.steps.length c']).below hb1 (by simp))
  have HB1 := Lib.hid (HB0.out.trans (hb1.mono HB0.out.size))
  have x1 : w1.cell? ⟨w.heap.size, 1, none⟩ = some (.slice A v.dims.length c) := HX.out.cell 1
  have hz : w.heap.size < w1.heap.size := HX.out.lt
  have HB2 := Lib.hid (HB1.out.alloc (Nat.le_of_lt hz) (.cells #[] 3))
  have HAL := Lib.hid (All_any A c v.dims B (w1.alloc (.cells #[] 3)) c1 c2 HZ1.out hp (by simp; omega) (HD.out.below (HB2.out.mono hB)))
  clear hb1
  go_wp2_with fail
  refine HAL.out.mono ?_
  rintro e w2 ⟨va, n, vals, rfl, hn, hvl, hown, hrows, hb2⟩
  obtain ⟨AO, co, rfl, _⟩ := Vw.own_any hown
  have hsz0 : (w1.alloc (.cells #[] 3)).heap.size = w1.heap.size + 1 := by simp
  rw [hsz0] at hown hrows hb2
  have HN := Lib.hid hn
  have HVL := Lib.hid hvl
  have HOW := Lib.hid hown
  have HRW := Lib.hid hrows
  have hsz2 : w1.heap.size + 1 ≤ w2.heap.size := (by have := hb2.size; simpa using this)
  have HI0 := Lib.hid (Vw.ReadsI.start (N := w1.heap.size) (W1 := w1) (v := v) (Nat.le_refl _) hb2)
  have hn16 : n ≤ 65536 := by omega
  clear hn hvl hown hrows hb2
  go_wp2_with fail
  go_loopw [5, 7, 18] (fun o _ i wr => ∃ k : Nat, k ≤ n ∧ i = .int .i64 (k : Int) ∧ Vw.ReadsI w1.heap.size w1 w2 (w1.heap.size + 1) v o k wr) (fun _ _ i _ => n + 1 - (intOf i).toNat)
  case atStart => exact ⟨0, by omega, rfl, HI0.out⟩
  case round =>
    obtain ⟨k, hk, rfl, hI⟩ := hrel
    obtain ⟨wo, rfl⟩ : ∃ wo : World, wo = wr := ⟨_, rfl⟩
    obtain ⟨AR, cr, rfl, _⟩ := Vw.own_any hI.own
    have HI := Lib.hid hI
    by_cases hlt : k < n
    · have hrow := Vw.own_same (base' := w1.heap.size + 1) HOW.out (Nat.le_refl _) (fun b h1 h2 => hI.same b h1 h2)
      obtain ⟨g, c9, hg9, _, _⟩ := hrow.form (by omega)
      simp only [Value.slice.injEq, true_and] at hg9
      obtain ⟨rfl, rfl⟩ := hg9
      have hir := Vw.own_same (base' := w1.heap.size + 1) (HRW.out k (by have := HVL.out; omega)) (Nat.le_refl _) (fun b h1 h2 => hI.same b h1 h2)
      obtain ⟨AI, ci, hvi, _⟩ := Vw.own_any hir
      have hck := hrow.cellAt k (by omega)
      rw [List.getElem?_eq_getElem (by have := HVL.out; omega), hvi] at hck
      rw [hvi] at hir
      have hbx := HX.out.below hI.below hz
      have hLI := Lies_any v.st (.slice A v.dims.length c) A' AI c' ci v.steps (AdjV.idx v.dims k) wo.heap.size wo (Nat.le_refl _) (by rw [AdjV.idx_length, HZ2.out]; exact Nat.le_refl _) (by rw [HZ2.out]; exact s1)
        ((HS.out.below ((HB1.out.trans (hI.below.mono (Nat.le_of_lt hz))).mono hB)).up (Nat.le_trans hB (HB1.out.trans (hI.below.mono (Nat.le_of_lt hz))).size)) (Vw.IntsAt.of_own hir).2 (by omega)
        (fun i h1 h2 => by have := AdjV.dot_small H0.out k HPOS.out i h1 h2; omega)
      rw [AdjV.idx_length] at hLI
      have HLI := Lib.hid hLI
      have hkp : (k : Int) < AdjV.prod v.dims := by have := HN.out; omega
      have b0 : wo.cell? ⟨w.heap.size, 0, none⟩ = some (.int .i64 v.st) := hbx.cell 0
      have b1 : wo.cell? ⟨w.heap.size, 1, none⟩ = some (.slice A v.dims.length c) := hbx.cell 1
      have b2 : wo.cell? ⟨w.heap.size, 2, none⟩ = some (.slice A' v.steps.length c') := hbx.cell 2
      have hi1 : (0 : Int) ≤ (k : Int) := by omega
      have hi2 : (k : Int) < (n : Int) := by omega
      clear hI hrow hir hvi hbx hLI
      go_wp2_with fail
      refine HLI.out.mono ?_
      rintro e w3 ⟨rfl, hb3⟩
      have HI3 := Lib.hid (HI.out.later (by omega) hb3)
      have hi3 := HI3.out.size
      have hkl : k + 1 ≤ 65536 := by omega
      have HBK := Lib.hid (show w1.heap.size ≤ (w3.alloc (.cells #[.int .i64 (v.st + AdjV.dot (AdjV.idx v.dims k) v.steps)] 3)).heap.size by simp; omega)
      clear hb3
      go_wp2_with (at_builtin; refine wpList_append_own_at _ rfl _ _ 22 rfl w1.heap.size 3 i0 (.int .i64 0) 1 8 Try.underlying22 hi hz0 hz1 hz2 rfl (by decide) _ _ _ rfl (HI3.out.own.alloc _) ⟨w3.heap.size, 0, none⟩ 1 1 [.int .i64 (v.st + AdjV.dot (AdjV.idx v.dims k) v.steps)] rfl rfl (cell_one_new _ _ _) (one_one _ _) (by unfold maxLen; omega) (by omega) HBK.out ?_)
      intro v' w4 hown' hgrow _ hat
      have HF := Lib.hid (HI3.out.more (by omega) rfl hkp hown' hgrow (by simpa using hat))
      clear hown' hgrow hat
      go_wp2_with fail
      first
        | exact ⟨⟨k + 1, by omega, by go_num, HF.out⟩, by simp [intOf]; omega⟩
        | (go_roundw
           case rel => exact ⟨k + 1, by omega, by go_num, HF.out⟩
           case measure => (simp [intOf] <;> omega))
    · obtain rfl : k = n := by omega
      go_wp2_with fail
      go_ret2
      have e0 : (Vw.readL v).length = k := by rw [Vw.readL_length]; have := HN.out; omega
      have ho := HI.out.own
      rw [List.take_of_length_le (by omega)] at ho
      exact ⟨_, rfl, by rw [e0]; exact Vw.own_base ho (Nat.le_of_lt hz), HB1.out.trans (HI.out.below.mono (Nat.le_of_lt hz))⟩
end Go.Proofs.Ytkbmnefjnfihbaa
