/-
  The walks of Run at numbers, of its closure, and of plain.Replay with its two closures: what a run tells and how often it goes ahead. Conditions: the first state is at most 2^40 either way.
-/
import Derived.Test.YtebekdnihncenaaReplayH
import Derived.Test.YtebekdnihncenaaRepeat
import Derived.Deep.AppendLies
namespace Go.Proofs.Ytebekdnihncenaa
set_option linter.unusedVariables false
open Go.RowKit Adj Adj8

namespace Rp
/-- What has been told when l steps are left: n - 1, n - 2, .., l. -/
def told (n l : Int) : List Int := (List.range (n - l).toNat).map fun (i : Nat) => n - 1 - (i : Int)
theorem told_length (n l : Int) : (told n l).length = (n - l).toNat := by simp [told]
theorem told_next (n l : Int) (h : l ≤ n) : told n (l - 1) = told n l ++ [l - 1] := by
  unfold told
  rw [show (n - (l - 1)).toNat = (n - l).toNat + 1 from by omega, List.range_succ, List.map_append]
  congr 1
  simp; omega
def fa (B : Nat) : Value := .func (.func 21) #[] #[.pointer (some ⟨B + 3, 0, none⟩), .pointer (some ⟨B + 1, 0, none⟩), .pointer (some ⟨B, 0, none⟩)]
def fb (B : Nat) : Value := .func (.func 22) #[] #[.pointer (some ⟨B + 3, 0, none⟩), .pointer (some ⟨B + 1, 0, none⟩)]
/-- A run in memory: B is the first block of plain.Replay's own. -/
def RunM (B : Nat) (n : Int) (s : Nat) (st : Int) (x : St) (W : World) : Prop := ∃ (K : List Int) (v : Value),
  Blk W B 3 #[.int .i64 n] ∧ Blk W (B + 1) 3 #[.int .i64 st] ∧ Blk W (B + 2) 30 #[.int .i64 0, .slice none 0 0, .bool false] ∧
  Blk W (B + 3) 30 #[.int .i64 x.cost, v, .bool false] ∧ W.ownsRow (B + 9) 3 1 v (n - x.left).toNat (ints (told n x.left)) ∧
  Blk W (B + 4) 41 #[fa B] ∧ Blk W (B + 5) 42 #[fb B] ∧ Blk W (B + 6) 3 #[.int .i64 (st + x.at_)] ∧
  Blk W (B + 7) 3 (ints K).toArray ∧ Blk W (B + 8) 28 #[.slice (some ⟨B + 7, 0, none⟩) s s] ∧ K.length = s ∧
  ∀ i, i < s → 0 ≤ x.kept.getD i 0 → K.getD i 0 = st + x.kept.getD i 0
end Rp

set_option maxHeartbeats 1000000 in
theorem ahead_calls (B : Nat) (v n st a : Int) (t : Value) (w : World) (h0 : Blk w B 3 #[.int .i64 n]) (h1 : Blk w (B + 1) 3 #[.int .i64 st]) (h3 : Blk w (B + 3) 30 #[.int .i64 a, t, .bool false])
    (ha : 0 ≤ a) (ha2 : a ≤ 1048576) (hn : 0 ≤ n) (hn2 : n ≤ 256) (hs : -1099511627776 ≤ st) (hs2 : st ≤ 1099511627776) (hv : st ≤ v) (hv2 : v < st + n) :
    Calls Try.prog 21 #[.int .i64 v, .pointer (some ⟨B + 3, 0, none⟩), .pointer (some ⟨B + 1, 0, none⟩), .pointer (some ⟨B, 0, none⟩)] w fun e w' =>
      e = .returned (.int .i64 (v + 1)) ∧ (w.setCell ⟨B + 3, 0, none⟩ (.int .i64 (a + 1))).setCell ⟨B + 3, 2, none⟩ (.bool false) = w' := by
  have c0 := h0.at (i := 0) rfl
  have c1 := h1.at (i := 0) rfl
  have c3 := h3.at (i := 0) rfl
  have c32 := h3.at (i := 2) rfl
  have f3 := h3.frozen 0
  have f32 := h3.frozen 2
  have d1 : decide (v < st) = false := by simp; omega
  have d2 : decide (st + n ≤ v) = false := by simp; omega
  clear h0 h1 h3
  go_enter Try.func21, Try.ntmps21
  go_wp2
  go_ret
  exact ⟨rfl, rfl⟩

set_option maxHeartbeats 1000000 in
theorem back_calls (B : Nat) (n st l a : Int) (t : Value) (w : World) (h1 : Blk w (B + 1) 3 #[.int .i64 st]) (h3 : Blk w (B + 3) 30 #[.int .i64 a, t, .bool false])
    (ht : w.ownsRow (B + 9) 3 1 t (n - l).toNat (ints (Rp.told n l))) (hB : B + 9 ≤ w.heap.size) (hl : 1 ≤ l) (hln : l ≤ n) (hn2 : n ≤ 256) (hs : -1099511627776 ≤ st) (hs2 : st ≤ 1099511627776) :
    Calls Try.prog 22 #[.int .i64 (st + (l - 1)), .pointer (some ⟨B + 3, 0, none⟩), .pointer (some ⟨B + 1, 0, none⟩)] w fun e w' =>
      e = .returned (.tuple #[]) ∧ ∃ t', Blk w' (B + 3) 30 #[.int .i64 a, t', .bool false] ∧ w'.ownsRow (B + 9) 3 1 t' (n - (l - 1)).toNat (ints (Rp.told n (l - 1))) ∧ (∀ k, k < B + 9 → k ≠ B + 3 → w'.heap[k]? = w.heap[k]?) ∧ Below B w w' := by
  obtain ⟨i0, hi, hz0, hz1, hz2⟩ := info_parts Try.infoOf3
  have c1 := h1.at (i := 0) rfl
  have c3 := h3.at (i := 1) rfl
  have hs1 : st + (l - 1) - st = l - 1 := by omega
  have H1 := Lib.hid h1
  have H3 := Lib.hid h3
  have HT := Lib.hid ht
  clear h1 h3 ht
  go_enter Try.func22, Try.ntmps22
  go_wp2_with (at_builtin; refine wpList_append_own _ rfl _ _ 28 rfl (B + 9) 3 i0 (.int .i64 0) 1 8 Try.underlying28 hi hz0 hz1 hz2 rfl (by decide) _ _ _ rfl (HT.out.alloc _) ⟨w.heap.size, 0, none⟩ 1 1 [.int .i64 (l - 1)] rfl rfl (cell_one_new _ _ _) (one_one _ _) (by unfold maxLen; omega) (by omega) (by simp; omega) ?_)
  intro v' w1 hown hgrow _
  have hne : ∀ k, k < B + 9 → some k ≠ t.ownBlock := fun k hk h => by have := (HT.out.lt k h.symm).1; omega
  have hb1 : Blk w1 (B + 3) 30 #[.int .i64 a, t, .bool false] := (H3.out.alloc _).grown hgrow (hne _ (by omega))
  have hsz1 := hb1.lt
  have hc1 := hb1.at (i := 1) (v := t) rfl
  have hf1 := hb1.frozen 1
  have hbel : Below B w w1 := ((Below.refl _ _).alloc (by omega) _).grown hgrow (by simp; omega) (fun q hq => by have := (HT.out.lt q hq).1; omega)
  have hsame : ∀ k, k < B + 9 → w1.heap[k]? = w.heap[k]? := fun k hk => (hgrow.block k (by simp; omega) (hne k hk)).trans (Below.heap_alloc _ _ _ (by omega))
  have HO := Lib.hid hown
  have HB := Lib.hid hb1
  have HS := Lib.hid hsame
  obtain ⟨gv, cv, hv, _⟩ := hown.form (by omega)
  clear hown hgrow hb1 hsame hne
  rw [hv]
  have HV := Lib.hid hv
  clear hv
  go_wp2
  go_end0
  rw [← HV.out]
  refine ⟨rfl, v', HB.out.set_ 1 v', ?_, fun k hk hk3 => (Below.heap_setCell _ _ _ _ hk3).trans (HS.out k hk), hbel.setCell (p := ⟨B + 3, 1, none⟩) (by show B ≤ B + 3; omega) _⟩
  have h := ownsRow_setCell_below HO.out (a := ⟨B + 3, 1, none⟩) (by show B + 3 < B + 9; omega) v'
  rw [Rp.told_next n l hln, show (n - (l - 1)).toNat = (n - l).toNat + 1 from by omega]
  unfold ints at h ⊢
  rw [List.map_append]
  exact h

set_option maxHeartbeats 2000000 in
theorem run_put (B : Nat) (n : Int) (s : Nat) (st : Int) (x : St) (d k : Int) (w : World) (hM : Rp.RunM B n s st x w) (hf : x.fine n s) (hn2 : n ≤ 256) (hs16 : s ≤ 16) (hs : -1099511627776 ≤ st) (hs2 : st ≤ 1099511627776) (hc0 : 0 ≤ x.cost) (hc1 : x.cost ≤ 1048576)
    (he : moveErr n x d k = 0) :
    Calls Try.prog 28 #[.int .i64 d, .int .i64 k, .pointer (some ⟨B + 4, 0, none⟩), .pointer (some ⟨B + 6, 0, none⟩), .pointer (some ⟨B + 8, 0, none⟩), .pointer (some ⟨B + 5, 0, none⟩)] w fun e w' =>
      e = .returned (.tuple #[]) ∧ Rp.RunM B n s st (moveDo x d k) w' ∧ Below B w w' := by
  obtain ⟨K, v, b0, b1, b2, b3, own, b4, b5, b6, b7, b8, hK, hkept⟩ := hM
  obtain ⟨f1, f2, f3, f4, f5, f6⟩ := hf
  have hcases : d = 1 ∨ d = 2 ∨ d = 3 ∨ d = 4 := by
    by_cases h1 : d = 1
    · exact .inl h1
    by_cases h2 : d = 2
    · exact .inr (.inl h2)
    by_cases h3 : d = 3
    · exact .inr (.inr (.inl h3))
    by_cases h4 : d = 4
    · exact .inr (.inr (.inr h4))
    · rw [err_other h1 h2 h3 h4] at he; omega
  rcases hcases with rfl | rfl | rfl | rfl
  · have hne : ¬ x.at_ = n := fun h => by rw [err_ahead' h] at he; omega
    have c4 := b4.at (i := 0) rfl
    have c6 := b6.at (i := 0) rfl
    have hfa : Rp.fa B = .func (.func 21) #[] #[.pointer (some ⟨B + 3, 0, none⟩), .pointer (some ⟨B + 1, 0, none⟩), .pointer (some ⟨B, 0, none⟩)] := rfl
    rw [hfa] at c4
    have HCALL := Lib.hid (ahead_calls B (st + x.at_) n st x.cost v w b0 b1 b3 hc0 hc1 (by omega) hn2 hs hs2 (by omega) (by omega))
    clear hfa
    go_enter Try.func28, Try.ntmps28
    go_wp2_with fail
    refine HCALL.out.mono ?_
    rintro e w1 ⟨rfl, hw1⟩
    have g6 : Blk w1 (B + 6) 3 #[.int .i64 (st + x.at_)] := hw1 ▸ ((b6.far (p := ⟨B + 3, 0, none⟩) (by show B + 6 ≠ B + 3; omega) _).far (p := ⟨B + 3, 2, none⟩) (by show B + 6 ≠ B + 3; omega) _)
    have c6' := g6.at (i := 0) rfl
    have f6' := g6.frozen 0
    have HW := Lib.hid hw1
    have G6 := Lib.hid g6
    clear hw1 g6
    go_wp2
    go_end0
    have hadd : st + x.at_ + 1 = st + (x.at_ + 1) := by omega
    rw [hadd, ← HW.out]
    have step : ∀ {t : TypeId} {cs : Array Value} (g : Nat), g ≠ B + 3 → g ≠ B + 6 → Blk w g t cs → Blk (((w.setCell ⟨B + 3, 0, none⟩ (.int .i64 (x.cost + 1))).setCell ⟨B + 3, 2, none⟩ (.bool false)).setCell ⟨B + 6, 0, none⟩ (.int .i64 (st + (x.at_ + 1)))) g t cs :=
      fun g h3 h6 h => ((h.far (p := ⟨B + 3, 0, none⟩) h3 _).far (p := ⟨B + 3, 2, none⟩) h3 _).far (p := ⟨B + 6, 0, none⟩) h6 _
    refine ⟨rfl, ⟨K, v, step _ (by omega) (by omega) b0, step _ (by omega) (by omega) b1, step _ (by omega) (by omega) b2, ((b3.set_ 0 _).set_ 2 _).far (p := ⟨B + 6, 0, none⟩) (by show B + 3 ≠ B + 6; omega) _,
      ownsRow_setCell_below (ownsRow_setCell_below (ownsRow_setCell_below own (by show B + 3 < B + 9; omega) _) (by show B + 3 < B + 9; omega) _) (by show B + 6 < B + 9; omega) _,
      step _ (by omega) (by omega) b4, step _ (by omega) (by omega) b5,
      ((b6.far (p := ⟨B + 3, 0, none⟩) (by show B + 6 ≠ B + 3; omega) _).far (p := ⟨B + 3, 2, none⟩) (by show B + 6 ≠ B + 3; omega) _).set_ 0 _, step _ (by omega) (by omega) b7, step _ (by omega) (by omega) b8, hK, hkept⟩, ?_⟩
    exact (((Below.refl _ _).setCell (p := ⟨B + 3, 0, none⟩) (by show B ≤ B + 3; omega) _).setCell (p := ⟨B + 3, 2, none⟩) (by show B ≤ B + 3; omega) _).setCell (p := ⟨B + 6, 0, none⟩) (by show B ≤ B + 6; omega) _
  · have hk : ¬ (k < 0 ∨ (x.kept.length : Int) ≤ k) := fun h => by rw [err_keep' h] at he; omega
    obtain ⟨q, rfl⟩ := Int.eq_ofNat_of_zero_le (show 0 ≤ k by omega)
    have hq : q < s := by omega
    have hq2 : (q : Int) < (s : Int) := by omega
    have hq0 : (0 : Int) ≤ (q : Int) := by omega
    have c6 := b6.at (i := 0) rfl
    have c8 := b8.at (i := 0) rfl
    obtain ⟨u7, c7⟩ : ∃ u, w.cell? ⟨B + 7, q, none⟩ = some u := ⟨_, b7.at (i := q) (by simpa using ints_at K q (by rw [hK]; exact hq))⟩
    have f7 := b7.frozen q
    clear hk
    have HB : Hid (_ ∧ _) := ⟨b7.set_ q (.int .i64 (st + x.at_)), hK⟩
    have B0 := Lib.hid b0
    have B7 := Lib.hid b7
    have HK := Lib.hid hK
    have HKE := Lib.hid hkept
    have F5 := Lib.hid f5
    clear hK hkept f5
    go_enter Try.func28, Try.ntmps28
    go_wp2
    go_end0
    have far : ∀ {t : TypeId} {cs : Array Value} (g : Nat), g ≠ B + 7 → Blk w g t cs → Blk (w.setCell ⟨B + 7, q, none⟩ (.int .i64 (st + x.at_))) g t cs :=
      fun g h7 h => h.far (p := ⟨B + 7, q, none⟩) h7 _
    refine ⟨rfl, ⟨K.set q (st + x.at_), v, far _ (by omega) b0, far _ (by omega) b1, far _ (by omega) b2, far _ (by omega) b3, ownsRow_setCell_below own (by show B + 7 < B + 9; omega) _, far _ (by omega) b4, far _ (by omega) b5, far _ (by omega) b6,
      by rw [← ints_set]; exact HB.out.1, far _ (by omega) b8, by rw [List.length_set]; exact HK.out, fun i hi h0 => ?_⟩, (Below.refl _ _).setCell (p := ⟨B + 7, q, none⟩) (by show B ≤ B + 7; omega) _⟩
    have h0' : 0 ≤ (x.kept.set (q : Int).toNat x.at_).getD i 0 := h0
    show (K.set q (st + x.at_)).getD i 0 = st + (x.kept.set (q : Int).toNat x.at_).getD i 0
    rw [Int.toNat_natCast] at h0' ⊢
    have e1 : q < K.length := by rw [HK.out]; exact hq
    have e2 : q < x.kept.length := by rw [F5.out]; exact hq
    rw [List.getD_eq_getElem?_getD, List.getD_eq_getElem?_getD] at *
    by_cases hiq : q = i
    · subst hiq
      simp [e1, e2]
    · rw [List.getElem?_set_ne hiq, List.getElem?_set_ne hiq] at *
      have := HKE.out i hi (by rw [List.getD_eq_getElem?_getD]; exact h0')
      rw [List.getD_eq_getElem?_getD, List.getD_eq_getElem?_getD] at this
      exact this
  · have hk : ¬ (k < 0 ∨ (x.kept.length : Int) ≤ k) := fun h => by rw [err_load' h] at he; omega
    have hneg : ¬ x.kept.getD k.toNat 0 < 0 := fun h => by rw [err_load9 hk h] at he; omega
    obtain ⟨q, rfl⟩ := Int.eq_ofNat_of_zero_le (show 0 ≤ k by omega)
    have hq : q < s := by omega
    have hq2 : (q : Int) < (s : Int) := by omega
    have hq0 : (0 : Int) ≤ (q : Int) := by omega
    have c6 := b6.at (i := 0) rfl
    have f6' := b6.frozen 0
    have c8 := b8.at (i := 0) rfl
    have hkq : K[q]? = some (st + x.kept.getD q 0) := by
      have h := hkept q hq (by rw [Int.toNat_natCast] at hneg; omega)
      rw [List.getD_eq_getElem?_getD, List.getElem?_eq_getElem (by rw [hK]; exact hq)] at h
      rw [List.getElem?_eq_getElem (by rw [hK]; exact hq)]
      simpa using h
    have c7 := b7.at (i := q) (v := .int .i64 (st + x.kept.getD q 0)) (by simp [ints, hkq])
    clear hk hneg hkq
    have HK := Lib.hid hK
    have HKE := Lib.hid hkept
    have F5 := Lib.hid f5
    clear hK hkept f5
    go_enter Try.func28, Try.ntmps28
    go_wp2
    go_end0
    have far : ∀ {t : TypeId} {cs : Array Value} (g : Nat), g ≠ B + 6 → Blk w g t cs → Blk (w.setCell ⟨B + 6, 0, none⟩ (.int .i64 (st + x.kept.getD q 0))) g t cs :=
      fun g h6 h => h.far (p := ⟨B + 6, 0, none⟩) h6 _
    rw [← List.getD_eq_getElem?_getD]
    refine ⟨rfl, ⟨K, v, far _ (by omega) b0, far _ (by omega) b1, far _ (by omega) b2, far _ (by omega) b3, ownsRow_setCell_below own (by show B + 6 < B + 9; omega) _, far _ (by omega) b4, far _ (by omega) b5, b6.set_ 0 _,
      far _ (by omega) b7, far _ (by omega) b8, HK.out, HKE.out⟩, (Below.refl _ _).setCell (p := ⟨B + 6, 0, none⟩) (by show B ≤ B + 6; omega) _⟩
  · have hat : x.at_ = x.left - 1 := by
      by_cases h : x.at_ = x.left - 1
      · exact h
      · rw [err_back' h] at he; omega
    have c5 := b5.at (i := 0) rfl
    have c6 := b6.at (i := 0) rfl
    have hsz := b8.lt
    have hfb : Rp.fb B = .func (.func 22) #[] #[.pointer (some ⟨B + 3, 0, none⟩), .pointer (some ⟨B + 1, 0, none⟩)] := rfl
    rw [hfb] at c5
    rw [hat] at c6
    have HCALL := Lib.hid (back_calls B n st x.left x.cost v w b1 b3 own (by omega) (by omega) f4 hn2 hs hs2)
    have HAT := Lib.hid hat
    clear hfb hat
    go_enter Try.func28, Try.ntmps28
    go_wp2_with fail
    refine HCALL.out.mono ?_
    rintro e w1 ⟨rfl, t', ht1, ht2, hsame, hbel⟩
    have H1 := Lib.hid ht1
    have H2 := Lib.hid ht2
    have HS := Lib.hid hsame
    clear ht1 ht2 hsame
    go_wp2
    go_end0
    have far : ∀ {t : TypeId} {cs : Array Value} (g : Nat), g < B + 9 → g ≠ B + 3 → Blk w g t cs → Blk w1 g t cs := fun g h9 h3 h => (HS.out g h9 h3).trans h
    exact ⟨rfl, ⟨K, t', far _ (by omega) (by omega) b0, far _ (by omega) (by omega) b1, far _ (by omega) (by omega) b2, H1.out, H2.out, far _ (by omega) (by omega) b4, far _ (by omega) (by omega) b5, far _ (by omega) (by omega) b6,
      far _ (by omega) (by omega) b7, far _ (by omega) (by omega) b8, hK, hkept⟩, hbel⟩

end Go.Proofs.Ytebekdnihncenaa
