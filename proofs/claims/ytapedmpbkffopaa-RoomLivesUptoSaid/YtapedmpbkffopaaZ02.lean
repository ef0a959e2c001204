/-
  The walks of near, far, Wrong, done, made, sameView; The walks of the reference's Wrong and made, of done, of sameView; Turn, in plain Lean: an order of dimensions: each once; A region that draws its order, whose stores may turn what its loads read: the loads are taken first under two conditions on the world: S, that need hold only till number t0 has come, and R, that need hold only till number t1 has come; A region that draws its order: three operations may come next. Conditions: where the theorems name them.
-/
import Derived.Test.YtapedmpbkffopaaZ01
import Derived.OrdersHeld
import Derived.StillTail
import Derived.Deep.RegionHeld
section
namespace Go.Proofs.Ytapedmpbkffopaa
set_option linter.unusedVariables false
open Go.RowKit Adj
namespace Vw
def ViewAt (w : World) (B : Nat) (val : Value) (v : AdjV.V) : Prop :=
 ∃ A c A' c', val = .agg #[.int .i64 v.st, .slice A v.dims.length c, .slice A' v.steps.length c'] ∧ IntsAt w B A v.dims ∧ IntsAt w B A' v.steps ∧ v.dims.length ≤ c ∧ c ≤ 9223372036854775807 ∧ v.steps.length ≤ c' ∧ c' ≤ 9223372036854775807
theorem ViewAt.below {w w' : World} {B : Nat} {val : Value} {v : AdjV.V} (h : ViewAt w B val v) (hb : Below B w w') : ViewAt w' B val v := by
 obtain ⟨A, c, A', c', hv, h1, h2, h3⟩ := h
 exact ⟨A, c, A', c', hv, h1.below hb, h2.below hb, h3⟩
theorem ViewAt.up {w : World} {B B' : Nat} {val : Value} {v : AdjV.V} (h : ViewAt w B val v) (hb : B ≤ B') : ViewAt w B' val v := by
 obtain ⟨A, c, A', c', hv, h1, h2, h3⟩ := h
 exact ⟨A, c, A', c', hv, h1.up hb, h2.up hb, h3⟩
def Away (lo hi : Nat) (val : Value) (v : AdjV.V) : Prop :=
 ∀ st A n c A' n' c', val = .agg #[.int .i64 st, .slice A n c, .slice A' n' c'] → (∀ b off, A = some ⟨b, off, none⟩ → 0 < v.dims.length → b < lo ∨ hi ≤ b) ∧ ∀ b off, A' = some ⟨b, off, none⟩ → 0 < v.steps.length → b < lo ∨ hi ≤ b
def ViewOut (B : Nat) (w w' : World) (r : AdjV.V × Int) (e : Ending) : Prop := ∃ val, e = .returned (.tuple #[val, .int .i64 r.2]) ∧ ViewAt w' w'.heap.size val r.1 ∧ Away B w.heap.size val r.1
theorem ViewAt.none (w : World) (B : Nat) : ViewAt w B (.agg #[.int .i64 0, .slice none 0 0, .slice none 0 0]) AdjV.none_ :=
 ⟨_, _, _, _, rfl, fun h => by simp [AdjV.none_] at h, fun h => by simp [AdjV.none_] at h, Nat.le_refl _, by omega, Nat.le_refl _, by omega⟩
theorem out_none (B : Nat) (w w' : World) (e : Int) : ViewOut B w w' (AdjV.none_, e) (.returned (.tuple #[.agg #[.int .i64 0, .slice none 0 0, .slice none 0 0], .int .i64 e])) :=
 ⟨_, rfl, ViewAt.none _ _, fun st A n c A' n' c' _ => ⟨fun b off _ h => by simp [AdjV.none_] at h, fun b off _ h => by simp [AdjV.none_] at h⟩⟩
theorem out_mk {B : Nat} {w w' : World} {v : AdjV.V} {st : Int} {A A' : Option Addr} {n n' c c' : Nat} {e : Int} (h : ViewAt w' w'.heap.size (.agg #[.int .i64 st, .slice A n c, .slice A' n' c']) v)
    (g1 : ∀ b off, A = some ⟨b, off, none⟩ → 0 < v.dims.length → b < B ∨ w.heap.size ≤ b) (g2 : ∀ b off, A' = some ⟨b, off, none⟩ → 0 < v.steps.length → b < B ∨ w.heap.size ≤ b) :
    ViewOut B w w' (v, e) (.returned (.tuple #[.agg #[.int .i64 st, .slice A n c, .slice A' n' c'], .int .i64 e])) :=
 ⟨_, rfl, h, fun st2 A2 n2 c2 A2' n2' c2' hv => by
  simp only [Value.agg.injEq, Array.mk.injEq, List.cons.injEq, Value.slice.injEq, and_true] at hv
  obtain ⟨_, ⟨rfl, _, _⟩, rfl, _, _⟩ := hv
  exact ⟨g1, g2⟩⟩
end Vw
theorem Vw.three {N b : Nat} {w w1 : World} (h : Below N w w1) (hb : N ≤ b) (x y z : Value) : Below N w (((w1.setCell ⟨b, 0, none⟩ x).setCell ⟨b, 1, none⟩ y).setCell ⟨b, 2, none⟩ z) :=
 ((h.setCell (p := ⟨b, 0, none⟩) hb x).setCell (p := ⟨b, 1, none⟩) hb y).setCell (p := ⟨b, 2, none⟩) hb z
theorem bcell {W w1 : World} (hb : Below W.heap.size W w1) : (∀ b o, b < W.heap.size → w1.cell? ⟨b, o, none⟩ = W.cell? ⟨b, o, none⟩) ∧ (∀ b o, b < W.heap.size → w1.frozen? ⟨b, o, none⟩ = W.frozen? ⟨b, o, none⟩) :=
 ⟨fun b o h => hb.cell (p := ⟨b, o, none⟩) h, fun b o h => hb.frozen (p := ⟨b, o, none⟩) h⟩
set_option maxHeartbeats 1000000 in
theorem near_any (n : Int) (w : World) : Calls Try.prog 77 #[.int .i64 n] w fun e w' => e = .returned (.bool (AdjV.near n)) ∧ w = w' := by
 by_cases h1 : -1099511627776 ≤ n
 ·by_cases h2 : n ≤ 1099511627776
  ·have H := Lib.hid (AdjV.near_true.2 ⟨h1, h2⟩)
   go_enter Try.func77, Try.ntmps77
   go_wp2
   go_ret
   exact ⟨by rw [H.out]; rfl, rfl⟩
  ·have H := Lib.hid (show AdjV.near n = false from AdjV.near_false.2 (by omega))
   go_enter Try.func77, Try.ntmps77
   go_wp2
   go_ret
   exact ⟨by rw [H.out]; rfl, rfl⟩
 ·have H := Lib.hid (show AdjV.near n = false from AdjV.near_false.2 (by omega))
  go_enter Try.func77, Try.ntmps77
  go_wp2
  go_ret
  exact ⟨by rw [H.out]; rfl, rfl⟩
set_option maxHeartbeats 1000000 in
theorem far_any (n : Int) (w : World) : Calls Try.prog 75 #[.int .i64 n] w fun e w' => e = .returned (.bool (!AdjV.near n)) ∧ w = w' := by
 by_cases h1 : -1099511627776 ≤ n
 ·by_cases h2 : n ≤ 1099511627776
  ·have H := Lib.hid (AdjV.near_true.2 ⟨h1, h2⟩)
   go_enter Try.func75, Try.ntmps75
   go_wp2
   go_ret
   exact ⟨ret_bool (by rw [H.out]; first | rfl | (simp <;> omega)), rfl⟩
  ·have H := Lib.hid (show AdjV.near n = false from AdjV.near_false.2 (by omega))
   go_enter Try.func75, Try.ntmps75
   go_wp2
   go_ret
   exact ⟨ret_bool (by rw [H.out]; first | rfl | (simp <;> omega)), rfl⟩
 ·have H := Lib.hid (show AdjV.near n = false from AdjV.near_false.2 (by omega))
  go_enter Try.func75, Try.ntmps75
  go_wp2
  go_ret
  exact ⟨ret_bool (by rw [H.out]; first | rfl | (simp <;> omega)), rfl⟩
theorem Wrong1_any : Vw.Asks 78 (fun s => !AdjV.near s) := by
 obtain ⟨c, hc⟩ : ∃ c, Try.f78.body = some c := ⟨_, rfl⟩
 refine ⟨call_enters Try.func78 (by kernel_rfl) hc, fun x w => ?_⟩
 clear hc c
 go_enter Try.func78, Try.ntmps78
 go_wp2_with fail
 refine (near_any _ _).mono ?_
 rintro e w1 ⟨rfl, rfl⟩
 go_wp2_with fail
 go_ret
 exact ⟨rfl, rfl⟩
set_option maxHeartbeats 2000000 in
theorem Wrong_any (val : Value) (v : AdjV.V) (B : Nat) (w : World) (hB : B ≤ w.heap.size) (h : Vw.ViewAt w B val v) :
    Calls Try.prog 70 #[val] w fun e w' => e = .returned (.int .i64 (AdjV.wrong v)) ∧ Below w.heap.size w w' := by
 obtain ⟨A, c, A', c', rfl, hd, hs, c1, c2, c3, c4⟩ := h
 have hbel : Below w.heap.size w (w.alloc (.cells #[.int .i64 v.st, .slice A v.dims.length c, .slice A' v.steps.length c'] 68)) := (Below.refl _ _).alloc (Nat.le_refl _) _
 have HB := Lib.hid hbel
 have HSZ := Lib.hid (Size_any A c v.dims B _ (by omega) (hd.below (hbel.mono hB)))
 have HCF := Lib.hid (ContainsFunc_any _ _ Wrong1_any A' c' v.steps B _ (by omega) (hs.below (hbel.mono hB)))
 clear hd hs hbel
 by_cases h0 : (AdjV.size v.dims).2 = 0
 ·have hR : Vw.sizeR v.dims = .tuple #[.int .i64 (AdjV.size v.dims).1, .int .i64 0] := by unfold Vw.sizeR; rw [h0]
  have HR := Lib.hid hR
  have H0 := Lib.hid h0
  clear hR h0
  by_cases hlen : v.steps.length = v.dims.length
  ·have hq : ((v.steps.length : Int) != (v.dims.length : Int)) = false := by simp; omega
   have HLEN := Lib.hid hlen
   clear hlen
   by_cases hst : AdjV.near v.st = true
   ·by_cases hall : v.steps.all AdjV.near = true
    ·have HW := Lib.hid (AdjV.wrong_no H0.out HLEN.out (by rw [hst, hall]; rfl))
     have HA := Lib.hid (show v.steps.any (fun s => !AdjV.near s) = false by rw [AdjV.any_all, hall]; rfl)
     have HST := Lib.hid hst
     clear hst hall
     go_enter Try.func70, Try.ntmps70
     go_wp2_with fail
     refine HSZ.out.mono ?_
     rintro e w1 ⟨rfl, rfl⟩
     rw [HR.out]
     go_wp2_with fail
     refine (near_any _ _).mono ?_
     rintro e w1 ⟨rfl, rfl⟩
     rw [HST.out]
     go_wp2_with fail
     refine HCF.out.mono ?_
     rintro e w1 ⟨rfl, rfl⟩
     rw [HA.out]
     go_wp2_with fail
     go_ret
     exact ⟨by rw [HW.out]; rfl, HB.out⟩
    ·have hall' : v.steps.all AdjV.near = false := by simpa using hall
     have HW := Lib.hid (AdjV.wrong_far H0.out HLEN.out (by rw [hall', Bool.and_false]))
     have HA := Lib.hid (show v.steps.any (fun s => !AdjV.near s) = true by rw [AdjV.any_all, hall']; rfl)
     have HST := Lib.hid hst
     clear hst hall hall'
     go_enter Try.func70, Try.ntmps70
     go_wp2_with fail
     refine HSZ.out.mono ?_
     rintro e w1 ⟨rfl, rfl⟩
     rw [HR.out]
     go_wp2_with fail
     refine (near_any _ _).mono ?_
     rintro e w1 ⟨rfl, rfl⟩
     rw [HST.out]
     go_wp2_with fail
     refine HCF.out.mono ?_
     rintro e w1 ⟨rfl, rfl⟩
     rw [HA.out]
     go_wp2_with fail
     go_ret
     exact ⟨by rw [HW.out]; rfl, HB.out⟩
   ·have hst' : AdjV.near v.st = false := by simpa using hst
    have HW := Lib.hid (AdjV.wrong_far H0.out HLEN.out (by rw [hst', Bool.false_and]))
    have HST := Lib.hid hst'
    clear hst hst'
    go_enter Try.func70, Try.ntmps70
    go_wp2_with fail
    refine HSZ.out.mono ?_
    rintro e w1 ⟨rfl, rfl⟩
    rw [HR.out]
    go_wp2_with fail
    refine (near_any _ _).mono ?_
    rintro e w1 ⟨rfl, rfl⟩
    rw [HST.out]
    go_wp2_with fail
    go_ret
    exact ⟨by rw [HW.out]; rfl, HB.out⟩
  ·have hq : ((v.steps.length : Int) != (v.dims.length : Int)) = true := by simp; omega
   have HW := Lib.hid (AdjV.wrong_shape H0.out hlen)
   clear hlen
   go_enter Try.func70, Try.ntmps70
   go_wp2_with fail
   refine HSZ.out.mono ?_
   rintro e w1 ⟨rfl, rfl⟩
   rw [HR.out]
   go_wp2_with fail
   go_ret
   exact ⟨by rw [HW.out]; rfl, HB.out⟩
 ·have HW := Lib.hid (AdjV.wrong_size h0)
  have hq : ((AdjV.size v.dims).2 != 0) = true := by simpa using h0
  clear h0
  go_enter Try.func70, Try.ntmps70
  go_wp2_with fail
  refine HSZ.out.mono ?_
  rintro e w1 ⟨rfl, rfl⟩
  unfold Vw.sizeR
  go_wp2_with fail
  go_ret
  exact ⟨by rw [HW.out]; rfl, HB.out⟩
end Go.Proofs.Ytapedmpbkffopaa
end
section
namespace Go.Proofs.Ytapedmpbkffopaa
set_option linter.unusedVariables false
open Go.RowKit Adj
set_option maxHeartbeats 2000000 in
theorem refWrong_any (val : Value) (v : AdjV.V) (B : Nat) (w : World) (hB : B ≤ w.heap.size) (h : Vw.ViewAt w B val v) :
    Calls Try.prog 64 #[val] w fun e w' => e = .returned (.int .i64 (AdjV.wrong v)) ∧ Below w.heap.size w w' := by
 obtain ⟨A, c, A', c', rfl, hd, hs, c1, c2, c3, c4⟩ := h
 have hbel : Below w.heap.size w (w.alloc (.cells #[.int .i64 v.st, .slice A v.dims.length c, .slice A' v.steps.length c'] 68)) := (Below.refl _ _).alloc (Nat.le_refl _) _
 have HB := Lib.hid hbel
 have HSZ := Lib.hid (refSize_any A c v.dims B _ (by omega) (hd.below (hbel.mono hB)))
 have HS := Lib.hid (hs.below (hbel.mono hB))
 clear hd hs hbel
 by_cases h0 : (AdjV.size v.dims).2 = 0
 ·have hR : Vw.sizeR v.dims = .tuple #[.int .i64 (AdjV.size v.dims).1, .int .i64 0] := by unfold Vw.sizeR; rw [h0]
  have HR := Lib.hid hR
  have H0 := Lib.hid h0
  clear hR h0
  by_cases hlen : v.steps.length = v.dims.length
  ·have hq : ((v.steps.length : Int) != (v.dims.length : Int)) = false := by simp; omega
   have HLEN := Lib.hid hlen
   clear hlen
   by_cases hst : AdjV.near v.st = true
   ·have HST := Lib.hid (show (!AdjV.near v.st) = false by rw [hst]; rfl)
    have HN := Lib.hid hst
    clear hst
    go_enter Try.func64, Try.ntmps64
    go_wp2_with fail
    refine HSZ.out.mono ?_
    rintro e w1 ⟨rfl, rfl⟩
    rw [HR.out]
    go_wp2_with fail
    refine (far_any _ _).mono ?_
    rintro e w1 ⟨rfl, rfl⟩
    rw [HST.out]
    go_wp2_with fail
    go_loop [6, 29] (fun _ i => ∃ k : Nat, k ≤ v.steps.length ∧ i = .int .i64 (k : Int) ∧ (v.steps.take k).any (fun s => !AdjV.near s) = false) (fun _ i => v.steps.length + 1 - (intOf i).toNat)
    case atStart => exact ⟨0, by omega, rfl, by simp⟩
    case round =>
     obtain ⟨k, hk, rfl, hno⟩ := hrel
     have HNO := Lib.hid hno
     clear hno
     by_cases hlt : k < v.steps.length
     ·obtain ⟨b, off, rfl, hb, hc⟩ := HS.out (by omega)
      have hck := hc k hlt
      have hi1 : (0 : Int) ≤ (k : Int) := by omega
      have hi2 : (k : Int) < (v.steps.length : Int) := by omega
      clear hc
      have HL := Lib.hid (AdjV.any_take_next v.steps (fun s => !AdjV.near s) k hlt)
      have HG := Lib.hid (fun h => AdjV.any_of_take (p := fun s => !AdjV.near s) hlt h)
      generalize v.steps[k] = x at hck HL HG
      by_cases hx : (!AdjV.near x) = true
      ·have HX := Lib.hid hx
       have HW := Lib.hid (AdjV.wrong_far H0.out HLEN.out (by
        have := HG.out hx
        rw [AdjV.any_all] at this
        rw [HN.out, Bool.true_and]
        simpa using this))
       clear hx
       go_wp2_with fail
       refine (far_any _ _).mono ?_
       rintro e w1 ⟨rfl, rfl⟩
       rw [HX.out]
       go_wp2_with fail
       go_ret
       exact ⟨by rw [HW.out]; rfl, HB.out⟩
      ·have HX := Lib.hid (show (!AdjV.near x) = false by simpa using hx)
       clear hx
       go_wp2_with fail
       refine (far_any _ _).mono ?_
       rintro e w1 ⟨rfl, rfl⟩
       rw [HX.out]
       go_wp2_with fail
       go_round
       case rel => exact ⟨k + 1, by omega, by go_num, by rw [HL.out, HNO.out, HX.out]; rfl⟩
       case measure => simp [intOf]; omega
     ·obtain rfl : k = v.steps.length := by omega
      have HW := Lib.hid (AdjV.wrong_no H0.out HLEN.out (by
       have := HNO.out
       rw [List.take_length, AdjV.any_all] at this
       rw [HN.out, Bool.true_and]
       simpa using this))
      go_wp2_with fail
      go_ret
      exact ⟨by rw [HW.out]; rfl, HB.out⟩
   ·have hst' : AdjV.near v.st = false := by simpa using hst
    have HW := Lib.hid (AdjV.wrong_far H0.out HLEN.out (by rw [hst', Bool.false_and]))
    have HST := Lib.hid (show (!AdjV.near v.st) = true by rw [hst']; rfl)
    clear hst hst'
    go_enter Try.func64, Try.ntmps64
    go_wp2_with fail
    refine HSZ.out.mono ?_
    rintro e w1 ⟨rfl, rfl⟩
    rw [HR.out]
    go_wp2_with fail
    refine (far_any _ _).mono ?_
    rintro e w1 ⟨rfl, rfl⟩
    rw [HST.out]
    go_wp2_with fail
    go_ret
    exact ⟨by rw [HW.out]; rfl, HB.out⟩
  ·have hq : ((v.steps.length : Int) != (v.dims.length : Int)) = true := by simp; omega
   have HW := Lib.hid (AdjV.wrong_shape H0.out hlen)
   clear hlen
   go_enter Try.func64, Try.ntmps64
   go_wp2_with fail
   refine HSZ.out.mono ?_
   rintro e w1 ⟨rfl, rfl⟩
   rw [HR.out]
   go_wp2_with fail
   go_ret
   exact ⟨by rw [HW.out]; rfl, HB.out⟩
 ·have HW := Lib.hid (AdjV.wrong_size h0)
  have hq : ((AdjV.size v.dims).2 != 0) = true := by simpa using h0
  clear h0
  go_enter Try.func64, Try.ntmps64
  go_wp2_with fail
  refine HSZ.out.mono ?_
  rintro e w1 ⟨rfl, rfl⟩
  unfold Vw.sizeR
  go_wp2_with fail
  go_ret
  exact ⟨by rw [HW.out]; rfl, HB.out⟩
def Vw.madeR (val : Value) (v : AdjV.V) : Value := if AdjV.wrong v = 4 then .tuple #[.agg #[.int .i64 0, .slice none 0 0, .slice none 0 0], .int .i64 5] else .tuple #[val, .int .i64 0]
set_option maxHeartbeats 2000000 in
theorem done_any (val : Value) (v : AdjV.V) (B : Nat) (w : World) (hB : B ≤ w.heap.size) (h : Vw.ViewAt w B val v) :
    Calls Try.prog 74 #[val] w fun e w' => e = .returned (Vw.madeR val v) ∧ Below w.heap.size w w' := by
 have HW := Lib.hid (fun (W : World) (hb : Below w.heap.size w W) => Wrong_any val v B W (Nat.le_trans hB hb.size) (h.below (hb.mono hB)))
 have HV := Lib.hid h
 obtain ⟨A, c, A', c', rfl, hd, hs, c1, c2, c3, c4⟩ := h
 have HB := Lib.hid ((((Below.refl w.heap.size w).alloc (Nat.le_refl _) (.cells #[.int .i64 v.st, .slice A v.dims.length c, .slice A' v.steps.length c'] 68))).alloc (by simp) (.cells #[.int .i64 0, .slice none 0 0, .slice none 0 0] 68))
 clear hd hs
 by_cases h4 : AdjV.wrong v = 4
 ·have H4 := Lib.hid h4
  clear h4
  go_enter Try.func74, Try.ntmps74
  go_wp2_with fail
  refine (HW.out _ HB.out).mono ?_
  rintro e w1 ⟨rfl, hb1⟩
  rw [H4.out]
  obtain ⟨hc, hf⟩ := bcell hb1
  have hz : w.heap.size + 1 < w1.heap.size := by have := hb1.size; simp at this; omega
  go_wp2_with fail
  refine bodyPost_ret (v := .tuple #[.agg #[.int .i64 0, .slice none 0 0, .slice none 0 0], .int .i64 5]) (by simp [results, Try.results74, go_sem, hc]) rfl ⟨?_, ?_⟩
  ·unfold Vw.madeR; rw [if_pos H4.out]
  ·exact Vw.three (HB.out.trans (hb1.mono (HB.out.size))) (by omega) _ _ _
 ·have hq : (AdjV.wrong v == 4) = false := by simpa using h4
  have HM := Lib.hid h4
  clear h4
  go_enter Try.func74, Try.ntmps74
  go_wp2_with fail
  refine (HW.out _ HB.out).mono ?_
  rintro e w1 ⟨rfl, hb1⟩
  obtain ⟨hc, hf⟩ := bcell hb1
  have hz : w.heap.size + 1 < w1.heap.size := by have := hb1.size; simp at this; omega
  go_wp2_with fail
  have HBB := Lib.hid (Vw.three (HB.out.trans (hb1.mono (HB.out.size))) (Nat.le_succ _) (.int .i64 v.st) (.slice A v.dims.length c) (.slice A' v.steps.length c'))
  refine bodyPost_ret (v := .tuple #[.agg #[.int .i64 v.st, .slice A v.dims.length c, .slice A' v.steps.length c'], .int .i64 0]) (by simp [results, Try.results74, go_sem, hc]) rfl ⟨?_, ?_⟩
  ·unfold Vw.madeR; rw [if_neg HM.out]
  ·exact HBB.out
set_option maxHeartbeats 2000000 in
theorem made_any (val : Value) (v : AdjV.V) (B : Nat) (w : World) (hB : B ≤ w.heap.size) (h : Vw.ViewAt w B val v) (h2 : AdjV.wrong v = 0 ∨ AdjV.wrong v = 4) :
    Calls Try.prog 67 #[val] w fun e w' => e = .returned (Vw.madeR val v) ∧ Below w.heap.size w w' := by
 have HW := Lib.hid (fun (W : World) (hb : Below w.heap.size w W) => refWrong_any val v B W (Nat.le_trans hB hb.size) (h.below (hb.mono hB)))
 have HV := Lib.hid h
 obtain ⟨A, c, A', c', rfl, hd, hs, c1, c2, c3, c4⟩ := h
 have HB := Lib.hid ((((Below.refl w.heap.size w).alloc (Nat.le_refl _) (.cells #[.int .i64 v.st, .slice A v.dims.length c, .slice A' v.steps.length c'] 68))).alloc (by simp) (.cells #[.int .i64 0, .slice none 0 0, .slice none 0 0] 68))
 clear hd hs
 by_cases h4 : AdjV.wrong v = 4
 ·have H4 := Lib.hid h4
  clear h2
  clear h4
  go_enter Try.func67, Try.ntmps67
  go_wp2_with fail
  refine (HW.out _ HB.out).mono ?_
  rintro e w1 ⟨rfl, hb1⟩
  rw [H4.out]
  obtain ⟨hc, hf⟩ := bcell hb1
  have hz : w.heap.size + 1 < w1.heap.size := by have := hb1.size; simp at this; omega
  go_wp2_with fail
  refine bodyPost_ret (v := .tuple #[.agg #[.int .i64 0, .slice none 0 0, .slice none 0 0], .int .i64 5]) (by simp [results, Try.results67, go_sem, hc]) rfl ⟨?_, ?_⟩
  ·unfold Vw.madeR; rw [if_pos H4.out]
  ·exact Vw.three (HB.out.trans (hb1.mono (HB.out.size))) (by omega) _ _ _
 ·have H0 := Lib.hid (h2.resolve_right h4)
  clear h2
  have HM := Lib.hid h4
  clear h4
  go_enter Try.func67, Try.ntmps67
  go_wp2_with fail
  refine (HW.out _ HB.out).mono ?_
  rintro e w1 ⟨rfl, hb1⟩
  rw [H0.out]
  obtain ⟨hc, hf⟩ := bcell hb1
  have hz : w.heap.size + 1 < w1.heap.size := by have := hb1.size; simp at this; omega
  go_wp2_with fail
  have HBB := Lib.hid (Vw.three (HB.out.trans (hb1.mono (HB.out.size))) (Nat.le_succ _) (.int .i64 v.st) (.slice A v.dims.length c) (.slice A' v.steps.length c'))
  refine bodyPost_ret (v := .tuple #[.agg #[.int .i64 v.st, .slice A v.dims.length c, .slice A' v.steps.length c'], .int .i64 0]) (by simp [results, Try.results67, go_sem, hc]) rfl ⟨?_, ?_⟩
  ·unfold Vw.madeR; rw [if_neg HM.out]
  ·exact HBB.out
end Go.Proofs.Ytapedmpbkffopaa
end
section
namespace AdjV
set_option linter.unusedVariables false
theorem nodup_le {α : Type} [DecidableEq α] : ∀ {l m : List α}, l.Nodup → (∀ x ∈ l, x ∈ m) → l.length ≤ m.length
 | [], _, _, _ => Nat.zero_le _
 | a :: l, m, hn, hs => by
  rw [List.nodup_cons] at hn
  have ha : a ∈ m := hs a (by simp)
  have ih := nodup_le (m := m.erase a) hn.2 (fun x hx => by
   have hne : x ≠ a := fun e => hn.1 (e ▸ hx)
   exact (List.mem_erase_of_ne hne).2 (hs x (by simp [hx])))
  have := List.length_erase_of_mem ha
  have := List.length_pos_of_mem ha
  simp; omega
theorem nodup_all {α : Type} [DecidableEq α] {l m : List α} (hn : l.Nodup) (hs : ∀ x ∈ l, x ∈ m) (hl : m.length ≤ l.length) : ∀ x ∈ m, x ∈ l := by
 intro x hx
 apply Classical.byContradiction
 intro hxl
 have := nodup_le (l := x :: l) (m := m) (List.nodup_cons.2 ⟨hxl, hn⟩) (fun y hy => by
  rcases List.mem_cons.1 hy with rfl | hy
  ·exact hx
  ·exact hs y hy)
 simp at this
 omega
theorem cover_nodup {α : Type} [DecidableEq α] : ∀ {r p : List α}, r.Nodup → (∀ x ∈ r, x ∈ p) → p.length ≤ r.length → p.Nodup ∧ ∀ x ∈ p, x ∈ r
 | [], p, _, _, hl => by
  obtain rfl : p = [] := by simpa using hl
  simp
 | a :: r, p, hn, hs, hl => by
  rw [List.nodup_cons] at hn
  have ha : a ∈ p := hs a (by simp)
  have h1 := List.length_erase_of_mem ha
  have h2 := List.length_pos_of_mem ha
  obtain ⟨i1, i2⟩ := cover_nodup (r := r) (p := p.erase a) hn.2 (fun x hx => by
   have hne : x ≠ a := fun e => hn.1 (e ▸ hx)
   exact (List.mem_erase_of_ne hne).2 (hs x (by simp [hx]))) (by simp at hl; omega)
  have hp : p.Perm (a :: p.erase a) := List.perm_cons_erase ha
  have hna : a ∉ p.erase a := fun h => hn.1 (i2 a h)
  refine ⟨hp.nodup_iff.2 (List.nodup_cons.2 ⟨hna, i1⟩), fun x hx => ?_⟩
  rcases List.mem_cons.1 (hp.mem_iff.1 hx) with rfl | h
  ·simp
  ·simp [i2 x h]
def rangeZ (n : Nat) : List Int := (List.range n).map fun k : Nat => (k : Int)
theorem rangeZ_length (n : Nat) : (rangeZ n).length = n := by simp [rangeZ]
theorem rangeZ_mem {n : Nat} {x : Int} : x ∈ rangeZ n ↔ 0 ≤ x ∧ x < n := by
 unfold rangeZ
 rw [List.mem_map]
 constructor
 ·rintro ⟨k, hk, rfl⟩; have := List.mem_range.1 hk; omega
 ·intro h; exact ⟨x.toNat, List.mem_range.2 (by omega), by omega⟩
theorem rangeZ_nodup (n : Nat) : (rangeZ n).Nodup := by
 unfold rangeZ
 unfold List.Nodup
 rw [List.pairwise_map]
 exact (List.nodup_range (n := n)).imp fun {a b} h e => h (by omega)
def permOK (n : Nat) (p : List Int) : Bool := decide (p.length = n) && (rangeZ n).all (fun k => decide (k ∈ p))
theorem permOK_len {n : Nat} {p : List Int} (h : p.length ≠ n) : permOK n p = false := by unfold permOK; simp [h]
theorem permOK_lacks {n : Nat} {p : List Int} {k : Int} (h1 : 0 ≤ k) (h2 : k < n) (h : k ∉ p) : permOK n p = false := by
 unfold permOK
 rw [Bool.and_eq_false_iff]
 right
 rw [List.all_eq_false]
 exact ⟨k, rangeZ_mem.2 ⟨h1, h2⟩, by simpa using h⟩
theorem permOK_has {n : Nat} {p : List Int} (h1 : p.length = n) (h : ∀ k : Nat, k < n → (k : Int) ∈ p) : permOK n p = true := by
 unfold permOK
 rw [Bool.and_eq_true, decide_eq_true_iff, List.all_eq_true]
 refine ⟨h1, fun x hx => ?_⟩
 obtain ⟨a, b⟩ := rangeZ_mem.1 hx
 have := h x.toNat (by omega)
 rw [show ((x.toNat : Nat) : Int) = x by omega] at this
 simpa using this
theorem permOK_true {n : Nat} {p : List Int} (h : permOK n p = true) : p.length = n ∧ p.Nodup ∧ (∀ x ∈ p, 0 ≤ x ∧ x < n) ∧ ∀ x : Int, 0 ≤ x → x < n → x ∈ p := by
 unfold permOK at h
 rw [Bool.and_eq_true, decide_eq_true_iff, List.all_eq_true] at h
 have hc : ∀ x ∈ rangeZ n, x ∈ p := fun x hx => by simpa using h.2 x hx
 obtain ⟨h1, h2⟩ := cover_nodup (rangeZ_nodup n) hc (by rw [rangeZ_length]; omega)
 exact ⟨h.1, h1, fun x hx => rangeZ_mem.1 (h2 x hx), fun x a b => hc x (rangeZ_mem.2 ⟨a, b⟩)⟩
theorem permOK_of {n : Nat} {p : List Int} (h1 : p.length = n) (h2 : p.Nodup) (h3 : ∀ x ∈ p, 0 ≤ x ∧ x < n) : permOK n p = true := by
 have := nodup_all h2 (fun x hx => rangeZ_mem.2 (h3 x hx)) (by rw [rangeZ_length]; omega)
 exact permOK_has h1 fun k hk => this k (rangeZ_mem.2 (by omega))
theorem permOK_twice {n : Nat} {p : List Int} {k : Nat} (hk : k < p.length) (h : p[k] ∈ p.take k) : permOK n p = false := by
 cases hb : permOK n p with
 | false => rfl
 | true =>
  exfalso
  have hn := (permOK_true hb).2.1
  rw [← List.take_append_drop k p, List.nodup_append] at hn
  exact hn.2.2 _ h p[k] (List.mem_iff_getElem.2 ⟨0, by simp; omega, by simp⟩) rfl
theorem permOK_out {n : Nat} {p : List Int} {k : Nat} (hk : k < p.length) (h : p[k] < 0 ∨ (n : Int) ≤ p[k]) : permOK n p = false := by
 cases hb : permOK n p with
 | false => rfl
 | true =>
  exfalso
  have := (permOK_true hb).2.2.1 p[k] (List.getElem_mem hk)
  omega
def pick (l : List Int) (k : Int) : Int := l.getD k.toNat 0
theorem pick_nat (l : List Int) (q : Nat) (h : q < l.length) : pick l (q : Int) = l[q] := by simp [pick, List.getD_eq_getElem?_getD, h]
def turn (v : V) (p : List Int) : V × Int :=
 if wrong v ≠ 0 then (none_, wrong v) else if permOK v.dims.length p then (⟨v.st, p.map (pick v.dims), p.map (pick v.steps)⟩, 0) else (none_, 6)
theorem turn_wrong {v : V} {p : List Int} (h : wrong v ≠ 0) : turn v p = (none_, wrong v) := if_pos h
theorem turn_bad {v : V} {p : List Int} (h : wrong v = 0) (h2 : permOK v.dims.length p = false) : turn v p = (none_, 6) := by unfold turn; rw [if_neg (by simp [h]), if_neg (by simp [h2])]
theorem turn_ok {v : V} {p : List Int} (h : wrong v = 0) (h2 : permOK v.dims.length p = true) : turn v p = (⟨v.st, p.map (pick v.dims), p.map (pick v.steps)⟩, 0) := by unfold turn; rw [if_neg (by simp [h]), if_pos h2]
theorem map_take_next {α β : Type} (f : α → β) (p : List α) (k : Nat) (h : k < p.length) : (p.take (k + 1)).map f = (p.take k).map f ++ [f p[k]] := by rw [take_next p k h, List.map_append]; rfl
end AdjV
end
section
namespace Adj
open Go
set_option linter.unusedVariables false
variable {P : Program} {ops : Array Oper} {Q : Exit → Act → World → Prop} {md : Region.Mode} {S R : World → Prop} {t0 t1 : Nat}
def Till (S : World → Prop) (t0 : Nat) (R : World → Prop) (t1 : Nat) (l : Array Bool) (w : World) : Prop := (l.getD t0 true = false → S w) ∧ (l.getD t1 true = false → R w)
theorem Till.same {i : Nat} (h0 : i ≠ t0) (h1 : i ≠ t1) {l : Array Bool} {w : World} : Till S t0 R t1 (l.setIfInBounds i true) w ↔ Till S t0 R t1 l w := by
 unfold Till
 rw [getD_set_ne true h0, getD_set_ne true h1]
def wpD (P : Program) (md : Region.Mode) (ops : Array Oper) (Q : Exit → Act → World → Prop) (D : Array Bool → World → Prop) : Nat → Array Bool → Act → World → Prop
 | 0, listed, a, w => Region.ready md ops listed = [] ∧ Q .normal a w
 | fuel + 1, listed, a, w =>
  (Region.ready md ops listed = [] → Q .normal a w) ∧
  ∀ i ∈ Region.ready md ops listed, wpOp P ops Q i (fun a' w' => D (listed.setIfInBounds i true) w' ∧ wpD P md ops Q D fuel (listed.setIfInBounds i true) a' w') a w
def wpT (P : Program) (md : Region.Mode) (ops : Array Oper) (Q : Exit → Act → World → Prop) (S : World → Prop) (t0 : Nat) (R : World → Prop) (t1 : Nat) : Nat → Array Bool → Act → World → Prop :=
 wpD P md ops Q (Till S t0 R t1)
theorem wpAny_of_D {D : Array Bool → World → Prop} : ∀ (fuel : Nat) (listed : Array Bool) (a : Act) (w : World), wpD P md ops Q D fuel listed a w → wpAny P md ops Q fuel listed a w
 | 0, _, _, _, h => h
 | fuel + 1, _, _, _, h => ⟨h.1, fun i hi => wpOp_mono (fun a' w' h' => wpAny_of_D fuel _ a' w' h'.2) (h.2 i hi)⟩
theorem waits_not_ready {t i : Nat} {listed : Array Bool} (hw : Region.waitsFor md ops t i = true) (hi : listed.getD i true = false) (hr : t ∈ Region.ready md ops listed) : False := by
 obtain ⟨ot, hot, e, he, hb, hon⟩ := Region.waitsFor_spec hw
 obtain ⟨_, ot', hot', hall⟩ := mem_ready.1 hr
 have : ot' = ot := Option.some.inj (hot'.symm.trans hot)
 subst this
 have h1 := hall e he hb
 rw [hon, getD_both hi] at h1
 cases h1
theorem wpD_first {D : Array Bool → World → Prop} {X : World → Prop} {G : Array Bool → Prop} {i : Nat} {oi : Oper} {v : Value} (hi : ops[i]? = some oi) (hsel : ∀ (j : Nat) (o : Oper) cs b, ops[j]? = some o → o.op ≠ .select cs b)
    (hQ : ∀ c a w, Q (.panic c) (a.put oi.dst v) w → Q (.panic c) a w) (hsame : ∀ l w, D (l.setIfInBounds i true) w ↔ D l w)
    (hG : ∀ l j, G l → l.getD i true = false → j ∈ Region.ready md ops l → j ≠ i → G (l.setIfInBounds j true)) (hX : ∀ l w, G l → D l w → X w) :
    ∀ (fuel : Nat) (listed : Array Bool) (a : Act) (w : World),
     (∀ j oj, ops[j]? = some oj → j ≠ i → listed.getD j true = false → (∀ e ∈ oj.after, Region.binds md e = true → e.on ≠ i) → oi.apart ops oj = true) →
     i ∈ Region.ready md ops listed → G listed → YieldsIf P ops X oi v a → D listed w →
     wpD P md ops Q D fuel (listed.setIfInBounds i true) (a.put oi.dst v) w → wpD P md ops Q D (fuel + 1) listed a w := by
 intro fuel
 induction fuel with
 | zero =>
  intro listed a w _ hr hg hy hD H
  refine ⟨fun h => (by rw [h] at hr; cases hr), fun j hj => ?_⟩
  by_cases hji : j = i
  ·subst hji; exact hy.wpOp hi (hX _ _ hg hD) ⟨(hsame _ _).2 hD, H⟩
  ·have := ready_mono hj hji
   rw [H.1] at this
   cases this
 | succ fuel ih =>
  intro listed a w hfree hr hg hy hD H
  refine ⟨fun h => (by rw [h] at hr; cases hr), fun j hj => ?_⟩
  by_cases hji : j = i
  ·subst hji; exact hy.wpOp hi (hX _ _ hg hD) ⟨(hsame _ _).2 hD, H⟩
  ·have h0 := (mem_ready.1 hr).1
   have h1 := H.2 j (ready_mono hj hji)
   obtain ⟨hjun, oj, hoj, hall⟩ := mem_ready.1 hj
   have hnot : ∀ e ∈ oj.after, Region.binds md e = true → e.on ≠ i := fun e he hb heq => by
    have h1 := hall e he hb
    rw [heq, getD_both h0] at h1
    cases h1
   have h2 := wpOp_putIf hoj (hfree j oj hoj hji hjun hnot) (fun cs b => hsel i oi cs b hi) (fun cs b => hsel j oj cs b hoj) hQ hy h1
   have hfree' : ∀ k ok, ops[k]? = some ok → k ≠ i → (listed.setIfInBounds j true).getD k true = false →
       (∀ e ∈ ok.after, Region.binds md e = true → e.on ≠ i) → oi.apart ops ok = true := fun k ok hk hki hun hno => by
    refine hfree k ok hk hki ?_ hno
    by_cases hjk : j = k
    ·subst hjk; exact hjun
    ·rw [getD_set_ne true hjk] at hun; exact hun
   have hg' := hG listed j hg h0 hj hji
   refine wpOp_mono (fun a' w' h3 => ?_) h2
   have hD' : D (listed.setIfInBounds j true) w' := (hsame _ _).1 (by rw [Array.setIfInBounds_comm _ _ hji]; exact h3.2.1)
   refine ⟨hD', ih (listed.setIfInBounds j true) a' w' hfree' (ready_mono hr (Ne.symm hji)) hg' h3.1 hD' ?_⟩
   rw [Array.setIfInBounds_comm _ _ hji]
   exact h3.2.2
def takeB (md : Region.Mode) (ops : Array Oper) (t0 t1 i : Nat) (listed : Array Bool) : Bool :=
 Region.noSelect ops && Region.free md ops listed i && (Region.ready md ops listed).contains i && decide (i ≠ t0) && decide (i ≠ t1)
theorem takeB_spec {i : Nat} {listed : Array Bool} (h : takeB md ops t0 t1 i listed = true) : Region.noSelect ops = true ∧ Region.free md ops listed i = true ∧ (Region.ready md ops listed).contains i = true ∧ i ≠ t0 ∧ i ≠ t1 := by
 simp only [takeB, Bool.and_eq_true, decide_eq_true_iff] at h
 exact ⟨h.1.1.1.1, h.1.1.1.2, h.1.1.2, h.1.2, h.2⟩
theorem unlisted_stays {t i : Nat} (hw : Region.waitsFor md ops t i = true) (l : Array Bool) (j : Nat) (hg : l.getD t true = false) (h0 : l.getD i true = false) (hj : j ∈ Region.ready md ops l) (_ : j ≠ i) : (l.setIfInBounds j true).getD t true = false := by
 have hjt : j ≠ t := fun e => by subst e; exact waits_not_ready hw h0 hj
 rw [getD_set_ne true hjt]; exact hg
theorem wpT_take (i d : Nat) {oi : Oper} {v : Value} {fuel : Nat} {listed : Array Bool} {a : Act} {w : World} (hS : S w) (hR : R w) (hi : ops[i]? = some oi) (hd : oi.dst = some d)
    (hs : (takeB md ops t0 t1 i listed && Region.waitsFor md ops t0 i && !listed.getD t0 true) = true)
    (hQ : ∀ c a w, Q (.panic c) (a.put (some d) v) w → Q (.panic c) a w) (hg : oi.guard = none) (hy : ∀ w, S w → (execOp a.eval oi).run P w = .ok (.value v) w)
    (h : wpT P md ops Q S t0 R t1 fuel (listed.setIfInBounds i true) (a.put (some d) v) w) : wpT P md ops Q S t0 R t1 (fuel + 1) listed a w := by
 rw [← hd] at hQ h
 simp only [Bool.and_eq_true, Bool.not_eq_true'] at hs
 obtain ⟨⟨h1, h4⟩, h6⟩ := hs
 obtain ⟨b1, b2, b3, b4, b5⟩ := takeB_spec h1
 exact wpD_first (X := S) (G := fun l => l.getD t0 true = false) hi (Region.noSelect_spec b1) hQ (fun l w => Till.same b4 b5) (unlisted_stays h4) (fun l w hl hD => hD.1 hl) fuel listed a w (Region.free_spec hi b2) (by simpa using b3) h6 (.inl ⟨by simp [Region.wanted, hg], hy⟩) ⟨fun _ => hS, fun _ => hR⟩ h
theorem wpT_takeR (i d : Nat) {oi : Oper} {v : Value} {fuel : Nat} {listed : Array Bool} {a : Act} {w : World} (hD : Till S t0 R t1 listed w) (hi : ops[i]? = some oi) (hd : oi.dst = some d)
    (hs : (takeB md ops t0 t1 i listed && Region.waitsFor md ops t1 i && !listed.getD t1 true) = true)
    (hQ : ∀ c a w, Q (.panic c) (a.put (some d) v) w → Q (.panic c) a w) (hg : oi.guard = none) (hy : ∀ w, R w → (execOp a.eval oi).run P w = .ok (.value v) w)
    (h : wpT P md ops Q S t0 R t1 fuel (listed.setIfInBounds i true) (a.put (some d) v) w) : wpT P md ops Q S t0 R t1 (fuel + 1) listed a w := by
 rw [← hd] at hQ h
 simp only [Bool.and_eq_true, Bool.not_eq_true'] at hs
 obtain ⟨⟨h1, h4⟩, h6⟩ := hs
 obtain ⟨b1, b2, b3, b4, b5⟩ := takeB_spec h1
 exact wpD_first (X := R) (G := fun l => l.getD t1 true = false) hi (Region.noSelect_spec b1) hQ (fun l w => Till.same b4 b5) (unlisted_stays h4) (fun l w hl hD => hD.2 hl) fuel listed a w (Region.free_spec hi b2) (by simpa using b3) h6 (.inl ⟨by simp [Region.wanted, hg], hy⟩) hD h
theorem wpT_takeP (i d : Nat) {oi : Oper} {v : Value} {fuel : Nat} {listed : Array Bool} {a : Act} {w : World} (hD : Till S t0 R t1 listed w) (hi : ops[i]? = some oi) (hd : oi.dst = some d)
    (hs : takeB md ops t0 t1 i listed = true)
    (hQ : ∀ c a w, Q (.panic c) (a.put (some d) v) w → Q (.panic c) a w) (hg : oi.guard = none) (hy : ∀ w, (execOp a.eval oi).run P w = .ok (.value v) w)
    (h : wpT P md ops Q S t0 R t1 fuel (listed.setIfInBounds i true) (a.put (some d) v) w) : wpT P md ops Q S t0 R t1 (fuel + 1) listed a w := by
 rw [← hd] at hQ h
 obtain ⟨b1, b2, b3, b4, b5⟩ := takeB_spec hs
 exact wpD_first (X := fun _ => True) (G := fun _ => True) hi (Region.noSelect_spec b1) hQ (fun l w => Till.same b4 b5) (fun _ _ _ _ _ _ => trivial) (fun _ _ _ _ => trivial) fuel listed a w (Region.free_spec hi b2) (by simpa using b3) trivial (.inl ⟨by simp [Region.wanted, hg], fun w _ => hy w⟩) hD h
def StepT (P : Program) (md : Region.Mode) (ops : Array Oper) (Q : Exit → Act → World → Prop) (S : World → Prop) (t0 : Nat) (R : World → Prop) (t1 fuel : Nat) (listed : Array Bool) (a : Act) (w : World) (i : Nat) : Prop :=
 wpOp P ops Q i (fun a' w' => Till S t0 R t1 (listed.setIfInBounds i true) w' ∧ wpT P md ops Q S t0 R t1 fuel (listed.setIfInBounds i true) a' w') a w
theorem stepT {fuel : Nat} {listed : Array Bool} {a : Act} {w : World} {i : Nat} {o : Oper} (ho : ops[i]? = some o) (hg : o.guard = none)
    (h : ∀ K : Act → World → Prop, Shut (∀ a w, Till S t0 R t1 (listed.setIfInBounds i true) w → wpT P md ops Q S t0 R t1 fuel (listed.setIfInBounds i true) a w → K a w) → Oper.wp P o a w K Q) : StepT P md ops Q S t0 R t1 fuel listed a w i := by
 unfold StepT wpOp
 rw [ho]
 have hw : Region.wanted o (yielded ops a.tmps) = true := by simp [Region.wanted, hg]
 simp only [hw, if_true]
 exact .inl (h _ (fun a w hD hW => ⟨hD, hW⟩))
theorem stepT_early {fuel : Nat} {listed : Array Bool} {a : Act} {w : World} {i : Nat} {o : Oper} (ho : ops[i]? = some o) (hg : o.guard = none)
    (h : ∀ K : Act → World → Prop, Shut (∀ a w, S w ∧ R w → (S w ∧ R w → wpT P md ops Q S t0 R t1 fuel (listed.setIfInBounds i true) a w) → K a w) → Oper.wp P o a w K Q) : StepT P md ops Q S t0 R t1 fuel listed a w i :=
 stepT ho hg fun K hK => h K fun a w hSR hW => hK a w ⟨fun _ => hSR.1, fun _ => hSR.2⟩ (hW hSR)
theorem stepT_late {fuel : Nat} {listed : Array Bool} {a : Act} {w : World} {i : Nat} {o : Oper} (ho : ops[i]? = some o) (hg : o.guard = none) (hl : (listed.setIfInBounds i true).getD t0 true = true)
    (h : ∀ K : Act → World → Prop, Shut (∀ a w, R w → (R w → wpT P md ops Q S t0 R t1 fuel (listed.setIfInBounds i true) a w) → K a w) → Oper.wp P o a w K Q) : StepT P md ops Q S t0 R t1 fuel listed a w i :=
 stepT ho hg fun K hK => h K fun a w hR hW => hK a w ⟨fun h => (by rw [hl] at h; cases h), fun _ => hR⟩ (hW hR)
theorem Till.late {listed : Array Bool} {w : World} (hl : listed.getD t0 true = true) (h : R w) : Till S t0 R t1 listed w := ⟨fun h => (by rw [hl] at h; cases h), fun _ => h⟩
theorem wpT_one (i : Nat) {fuel : Nat} {listed : Array Bool} {a : Act} {w : World} (hr : Region.ready md ops listed = [i]) (h : StepT P md ops Q S t0 R t1 fuel listed a w i) : wpT P md ops Q S t0 R t1 (fuel + 1) listed a w := by
 refine ⟨fun h0 => (by rw [hr] at h0; cases h0), fun j hj => ?_⟩
 rw [hr] at hj
 obtain rfl : j = i := by simpa using hj
 exact h
theorem wpT_two (i j : Nat) {fuel : Nat} {listed : Array Bool} {a : Act} {w : World} (hr : Region.ready md ops listed = [i, j]) (hi : StepT P md ops Q S t0 R t1 fuel listed a w i) (hj : StepT P md ops Q S t0 R t1 fuel listed a w j) :
    wpT P md ops Q S t0 R t1 (fuel + 1) listed a w := by
 refine ⟨fun h0 => (by rw [hr] at h0; cases h0), fun k hk => ?_⟩
 rw [hr] at hk
 have hk' : k = i ∨ k = j := by simpa using hk
 rcases hk' with rfl | rfl
 ·exact hi
 ·exact hj
def seqT (md : Region.Mode) (ops : Array Oper) : List Nat → Array Bool → Bool
 | [], listed => (Region.ready md ops listed).isEmpty
 | t :: ts, listed => decide (Region.ready md ops listed = [t]) && seqT md ops ts (listed.setIfInBounds t true)
theorem set_t0 {t0 : Nat} {listed : Array Bool} (h : listed.getD t0 true = true) (t : Nat) : (listed.setIfInBounds t true).getD t0 true = true := by
 by_cases e : t = t0
 ·subst e
  rcases Nat.lt_or_ge t listed.size with h' | h'
  ·simp [h']
  ·simp
 ·rw [getD_set_ne true e]; exact h
theorem Till.over {listed : Array Bool} {w : World} (h0 : listed.getD t0 true = true) (h1 : listed.getD t1 true = true) : Till S t0 R t1 listed w := ⟨fun h => (by rw [h0] at h; cases h), fun h => (by rw [h1] at h; cases h)⟩
theorem wpT_rest : ∀ (ts : List Nat) (l : List Oper) (fuel : Nat) (listed : Array Bool) (a : Act) (w : World), ts.map (fun t => ops[t]?) = l.map some → ts.length ≤ fuel → seqT md ops ts listed = true →
    (∀ t, ts.head? = some t → (listed.setIfInBounds t true).getD t0 true = true ∧ (listed.setIfInBounds t true).getD t1 true = true) →
    wpList P ops Q l a w → wpT P md ops Q S t0 R t1 fuel listed a w
 | [], l, fuel, listed, a, w, hl, _, hB, _, h => by
  obtain rfl : l = [] := by cases l with | nil => rfl | cons _ _ => simp at hl
  have hr : Region.ready md ops listed = [] := by simpa [seqT] using hB
  cases fuel with
  | zero => exact ⟨hr, h⟩
  | succ f => exact ⟨fun _ => h, by rw [hr]; simp⟩
 | t :: ts, l, fuel, listed, a, w, hl, hf, hB, ht, h => by
  cases l with
  | nil => simp at hl
  | cons o l =>
   simp only [List.map_cons, List.cons.injEq] at hl
   simp only [seqT, Bool.and_eq_true, decide_eq_true_iff] at hB
   cases fuel with
   | zero => simp at hf
   | succ f =>
    refine ⟨fun h0 => (by rw [hB.1] at h0; cases h0), fun j hj => ?_⟩
    rw [hB.1] at hj
    obtain rfl : j = t := by simpa using hj
    obtain ⟨s0, s1⟩ := ht j rfl
    have hw : wpOp P ops Q j (wpList P ops Q l) a w := by unfold wpOp; rw [hl.1]; exact h
    exact wpOp_mono (fun a' w' h' => ⟨Till.over s0 s1, wpT_rest ts l f _ a' w' hl.2 (by simpa using hf) hB.2 (fun u _ => ⟨set_t0 s0 u, set_t0 s1 u⟩) h'⟩) hw
theorem wpT_tail (l : List Oper) (t : Nat) (ts : List Nat) {fuel : Nat} {listed : Array Bool} {a : Act} {w : World} (hl : (t :: ts).map (fun t => ops[t]?) = l.map some)
    (hB : (decide ((t :: ts).length ≤ fuel) && seqT md ops (t :: ts) listed && (listed.setIfInBounds t true).getD t0 true && (listed.setIfInBounds t true).getD t1 true) = true) (h : wpList P ops Q l a w) : wpT P md ops Q S t0 R t1 fuel listed a w := by
 simp only [Bool.and_eq_true, decide_eq_true_iff] at hB
 obtain ⟨⟨⟨hf, hB⟩, h0⟩, h1⟩ := hB
 exact wpT_rest (t :: ts) l fuel listed a w hl hf hB (fun u hu => by cases hu; exact ⟨h0, h1⟩) h
theorem wp_region_T {id : Nat} {a : Act} {w : World} (S : World → Prop) (t0 : Nat) (R : World → Prop) (t1 n : Nat) (hn : ops.size = n) (hm : P.follows .mixedOrders = true) (hS : S w.drew ∧ R w.drew)
    (h : S w.drew ∧ R w.drew → wpT P .any ops Q S t0 R t1 n (List.replicate n false).toArray a w.drew) : (Code.region id ops true).wp P Q a w := by
 subst hn
 refine wp_region_any hm (wpAny_of_D (D := Till S t0 R t1) _ _ _ _ ?_)
 have h2 := h hS
 rw [List.toArray_replicate] at h2
 exact h2
end Adj
end
section
namespace Adj
open Go
variable {P : Program} {ops : Array Oper} {Q : Exit → Act → World → Prop} {md : Region.Mode} {S R : World → Prop} {t0 t1 : Nat}
theorem wpT_three (i j k : Nat) {fuel : Nat} {listed : Array Bool} {a : Act} {w : World} (hr : Region.ready md ops listed = [i, j, k]) (hi : StepT P md ops Q S t0 R t1 fuel listed a w i) (hj : StepT P md ops Q S t0 R t1 fuel listed a w j) (hk : StepT P md ops Q S t0 R t1 fuel listed a w k) :
    wpT P md ops Q S t0 R t1 (fuel + 1) listed a w := by
 refine ⟨fun h0 => (by rw [hr] at h0; cases h0), fun m hm => ?_⟩
 rw [hr] at hm
 have hm' : m = i ∨ m = j ∨ m = k := by simpa using hm
 rcases hm' with rfl | rfl | rfl
 ·exact hi
 ·exact hj
 ·exact hk
def chainB (md : Region.Mode) (ops : Array Oper) (listed : Array Bool) : Nat → List Nat → Bool
 | _, [] => true
 | i, m :: ms => Region.waitsFor md ops m i && !listed.getD m true && chainB md ops listed m ms
theorem chain_stays : ∀ (ms : List Nat) (i : Nat) (l : Array Bool), (∀ k (p m : Nat), (i :: ms)[k]? = some p → (i :: ms)[k + 1]? = some m → Region.waitsFor md ops m p = true) → l.getD i true = false → (∀ m ∈ ms, l.getD m true = false) →
    ∀ j ∈ Region.ready md ops l, j ∉ ms
 | [], _, _, _, _, _, _, _, h => by cases h
 | m :: ms, i, l, hw, hi, hm, j, hj, hin => by
  rcases List.mem_cons.1 hin with rfl | h
  ·exact waits_not_ready (hw 0 i j rfl rfl) hi hj
  ·exact chain_stays ms m l (fun k p q h1 h2 => hw (k + 1) p q h1 h2) (hm m (List.mem_cons_self ..)) (fun q hq => hm q (List.mem_cons_of_mem _ hq)) j hj h
theorem chainB_spec : ∀ (ms : List Nat) (i : Nat) {l : Array Bool}, chainB md ops l i ms = true → (∀ k (p m : Nat), (i :: ms)[k]? = some p → (i :: ms)[k + 1]? = some m → Region.waitsFor md ops m p = true) ∧ ∀ m ∈ ms, l.getD m true = false
 | [], i, l, _ => ⟨fun k p m h1 h2 => by simp at h2, fun m h => by cases h⟩
 | m :: ms, i, l, h => by
  simp only [chainB, Bool.and_eq_true, Bool.not_eq_true'] at h
  obtain ⟨⟨h1, h2⟩, h3⟩ := h
  obtain ⟨g1, g2⟩ := chainB_spec ms m h3
  refine ⟨fun k p q e1 e2 => ?_, fun q hq => ?_⟩
  ·cases k with
   | zero => simp at e1 e2; subst e1 e2; exact h1
   | succ k => exact g1 k p q e1 e2
  ·rcases List.mem_cons.1 hq with rfl | hq
   ·exact h2
   ·exact g2 q hq
theorem wpT_takeC (ms : List Nat) (i d : Nat) {oi : Oper} {v : Value} {fuel : Nat} {listed : Array Bool} {a : Act} {w : World} (hS : S w) (hR : R w) (hi : ops[i]? = some oi) (hd : oi.dst = some d)
    (hs : (takeB md ops t0 t1 i listed && chainB md ops listed i (ms ++ [t0])) = true)
    (hQ : ∀ c a w, Q (.panic c) (a.put (some d) v) w → Q (.panic c) a w) (hy : YieldsIf P ops S oi v a)
    (h : wpT P md ops Q S t0 R t1 fuel (listed.setIfInBounds i true) (a.put (some d) v) w) : wpT P md ops Q S t0 R t1 (fuel + 1) listed a w := by
 rw [← hd] at hQ h
 simp only [Bool.and_eq_true] at hs
 obtain ⟨h1, h2⟩ := hs
 obtain ⟨b1, b2, b3, b4, b5⟩ := takeB_spec h1
 obtain ⟨c1, c2⟩ := chainB_spec _ _ h2
 refine wpD_first (X := S) (G := fun l => ∀ m ∈ ms ++ [t0], l.getD m true = false) hi (Region.noSelect_spec b1) hQ (fun l w => Till.same b4 b5) ?_ (fun l w hl hD => hD.1 (hl t0 (by simp))) fuel listed a w (Region.free_spec hi b2) (by simpa using b3) c2 hy ⟨fun _ => hS, fun _ => hR⟩ h
 intro l j hg h0 hj hji m hm
 have hjm : j ≠ m := fun e => chain_stays _ i l c1 h0 hg j hj (by rw [e]; exact hm)
 rw [getD_set_ne true hjm]
 exact hg m hm
theorem yields_not {o : Oper} {a : Act} (h : Region.wanted o (yielded ops a.tmps) = false) : YieldsIf P ops S o undef a := .inr ⟨h, rfl⟩
theorem yields_yes {o : Oper} {v : Value} {a : Act} (h : Region.wanted o (yielded ops a.tmps) = true) (hy : ∀ w, S w → (execOp a.eval o).run P w = .ok (.value v) w) : YieldsIf P ops S o v a := .inl ⟨h, hy⟩
end Adj
namespace Adj
open Go
variable {P : Program} {ops : Array Oper} {Q : Exit → Act → World → Prop} {md : Region.Mode} {S R : World → Prop} {t0 t1 : Nat}
theorem tk (ms : List Nat) (i d : Nat) {oi : Oper} {v : Value} {fuel : Nat} {listed : Array Bool} {a : Act} {w : World} (hSR : S w ∧ R w) (hy : ∀ w, S w → (execOp a.eval oi).run P w = .ok (.value v) w)
    (h : wpT P md ops Q S t0 R t1 fuel (listed.setIfInBounds i true) (a.put (some d) v) w) (hi : ops[i]? = some oi := by exact rfl) (hd : oi.dst = some d := by exact rfl)
    (hs : (takeB md ops t0 t1 i listed && chainB md ops listed i (ms ++ [t0])) = true := by kernel_rfl)
    (hQ : ∀ c a w, Q (.panic c) (a.put (some d) v) w → Q (.panic c) a w := by exact fun _ _ _ h => h) (hw : Region.wanted oi (yielded ops a.tmps) = true := by exact rfl) : wpT P md ops Q S t0 R t1 (fuel + 1) listed a w :=
  wpT_takeC ms i d hSR.1 hSR.2 hi hd hs hQ (yields_yes hw hy) h
theorem tn (ms : List Nat) (i d : Nat) {oi : Oper} {fuel : Nat} {listed : Array Bool} {a : Act} {w : World} (hSR : S w ∧ R w)
    (h : wpT P md ops Q S t0 R t1 fuel (listed.setIfInBounds i true) (a.put (some d) undef) w) (hi : ops[i]? = some oi := by exact rfl) (hd : oi.dst = some d := by exact rfl)
    (hs : (takeB md ops t0 t1 i listed && chainB md ops listed i (ms ++ [t0])) = true := by kernel_rfl)
    (hQ : ∀ c a w, Q (.panic c) (a.put (some d) undef) w → Q (.panic c) a w := by exact fun _ _ _ h => h) (hw : Region.wanted oi (yielded ops a.tmps) = false := by exact rfl) : wpT P md ops Q S t0 R t1 (fuel + 1) listed a w :=
  wpT_takeC ms i d hSR.1 hSR.2 hi hd hs hQ (yields_not hw) h
theorem tp (i d : Nat) {oi : Oper} {v : Value} {fuel : Nat} {listed : Array Bool} {a : Act} {w : World} (hD : Till S t0 R t1 listed w) (hy : ∀ w, (execOp a.eval oi).run P w = .ok (.value v) w)
    (h : wpT P md ops Q S t0 R t1 fuel (listed.setIfInBounds i true) (a.put (some d) v) w) (hi : ops[i]? = some oi := by exact rfl) (hd : oi.dst = some d := by exact rfl)
    (hs : takeB md ops t0 t1 i listed = true := by kernel_rfl)
    (hQ : ∀ c a w, Q (.panic c) (a.put (some d) v) w → Q (.panic c) a w := by exact fun _ _ _ h => h) (hg : oi.guard = none := by exact rfl) : wpT P md ops Q S t0 R t1 (fuel + 1) listed a w :=
  wpT_takeP i d hD hi hd hs hQ hg hy h
theorem zA {α : Type _} {l : List α} {i : Nat} {a : α} : l.toArray.setIfInBounds i a = (l.set i a).toArray := by simp
theorem zB {α : Type _} {x : α} {l : List α} {a : α} : (x :: l).set 0 a = a :: l := rfl
theorem zC {α : Type _} {x : α} {l : List α} {n : Nat} {a : α} : (x :: l).set (n + 1) a = x :: l.set n a := rfl
end Adj
end
