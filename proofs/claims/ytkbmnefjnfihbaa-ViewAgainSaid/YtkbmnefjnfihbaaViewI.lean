/-
  The walks of near, far, Wrong, done, made, sameView. Conditions: the views can be read.
-/
import Derived.Test.YtkbmnefjnfihbaaViewH
import Derived.Test.YtkbmnefjnfihbaaViewPlain3
namespace Go.Proofs.Ytkbmnefjnfihbaa
set_option linter.unusedVariables false
open Go.RowKit Adj

namespace Vw
/-- A view that a value holds. -/
def ViewAt (w : World) (B : Nat) (val : Value) (v : AdjV.V) : Prop :=
  ∃ A c A' c', val = .agg #[.int .i64 v.st, .slice A v.dims.length c, .slice A' v.steps.length c'] ∧ IntsAt w B A v.dims ∧ IntsAt w B A' v.steps ∧ v.dims.length ≤ c ∧ c ≤ 9223372036854775807 ∧ v.steps.length ≤ c' ∧ c' ≤ 9223372036854775807
theorem ViewAt.below {w w' : World} {B : Nat} {val : Value} {v : AdjV.V} (h : ViewAt w B val v) (hb : Below B w w') : ViewAt w' B val v := by
  obtain ⟨A, c, A', c', hv, h1, h2, h3⟩ := h
  exact ⟨A, c, A', c', hv, h1.below hb, h2.below hb, h3⟩
theorem ViewAt.up {w : World} {B B' : Nat} {val : Value} {v : AdjV.V} (h : ViewAt w B val v) (hb : B ≤ B') : ViewAt w B' val v := by
  obtain ⟨A, c, A', c', hv, h1, h2, h3⟩ := h
  exact ⟨A, c, A', c', hv, h1.up hb, h2.up hb, h3⟩
/-- Where a view's lists may lie: below lo, or from hi on. -/
def Away (lo hi : Nat) (val : Value) (v : AdjV.V) : Prop :=
  ∀ st A n c A' n' c', val = .agg #[.int .i64 st, .slice A n c, .slice A' n' c'] → (∀ b off, A = some ⟨b, off, none⟩ → 0 < v.dims.length → b < lo ∨ hi ≤ b) ∧ ∀ b off, A' = some ⟨b, off, none⟩ → 0 < v.steps.length → b < lo ∨ hi ≤ b
/-- A view and a fault, as they are answered: its lists lie where the arguments do, or in new memory. -/
def ViewOut (B : Nat) (w w' : World) (r : AdjV.V × Int) (e : Ending) : Prop := ∃ val, e = .returned (.tuple #[val, .int .i64 r.2]) ∧ ViewAt w' w'.heap.size val r.1 ∧ Away B w.heap.size val r.1
theorem ViewAt.none (w : World) (B : Nat) : ViewAt w B (.agg #[.int .i64 0, .slice none 0 0, .slice none 0 0]) AdjV.none_ :=
  ⟨_, _, _, _, rfl, fun h => by simp [AdjV.none_] at h, fun h => by simp [AdjV.none_] at h, Nat.le_refl _, by omega, Nat.le_refl _, by omega⟩
theorem out_none (B : Nat) (w w' : World) (e : Int) : ViewOut B w w' (AdjV.none_, e) (.returned (.tuple #[.agg #[.int .i64 0, .slice none 0 0, .slice none 0 0], .int .i64 e])) :=
  ⟨_, rfl, ViewAt.none _ _, fun st A n c A' n' c' _ => ⟨fun b off _ h => by simp [AdjV.none_] at h, fun b off _ h => by simp [AdjV.none_] at h⟩⟩
theorem out_mk {B : Nat} {w w' : World} {v : AdjV.V} {st : Int} {A A' : Option Addr} {n n' c c' : Nat} {e : Int} (h : ViewAt w' w'.heap.size (.agg #[.int .i64 st, .slice A n c, .slice A' n' c']) v)
    (g1 : ∀ b off, A = some ⟨b, off, none⟩ → 0 < v.dims.length → b < B ∨ w.heap.size ≤ b) (g2 : ∀ b off, A' = some ⟨b, off, none⟩ → 0 < v.steps.length → b < B ∨ w.heap.size ≤ b) :
    ViewOut B w w' (v, e) (.returned (.tuple #[.agg #[.int .i64 st, .slice A n c, .slice A' n' c'], .int .i64 e])) :=
  ⟨_, rfl, h, fun st2 A2 n2 c2 A2' n2' c2' hv => by
    simp only [Value.agg.injEq, Array.mk.injEq, List.cons.injEq, Value.slice.injEq, and_true] at hv
    obtain ⟨_, ⟨rfl, _, _⟩, rfl, _, _⟩ := hv
    exact ⟨g1, g2⟩⟩
end Vw
theorem Vw.three {N b : Nat} {w w1 : World} (h : Below N w w1) (hb : N ≤ b) (x y z : Value) : Below N w (((w1.setCell ⟨b, 0, none⟩ x).setCell ⟨b, 1, none⟩ y).setCell ⟨b, 2, none⟩ z) :=
  ((h.setCell (p := ⟨b, 0, none⟩) hb x).setCell (p := ⟨b, 1, none⟩) hb y).setCell (p := ⟨b, 2, none⟩) hb z
theorem bcell {W w1 : World} (hb : Below W.heap.size W w1) : (∀ b o, b < W.heap.size → w1.cell? ⟨b, o, none⟩ = W.cell? ⟨b, o, none⟩) ∧ (∀ b o, b < W.heap.size → w1.frozen? ⟨b, o, none⟩ = W.frozen? ⟨b, o, none⟩) :=
  ⟨fun b o h => hb.cell (p := ⟨b, o, none⟩) h, fun b o h => hb.frozen (p := ⟨b, o, none⟩) h⟩

set_option maxHeartbeats 1000000 in
theorem near_any (n : Int) (w : World) : Calls Try.prog 45 #[.int .i64 n] w fun e w' => e = .returned (.bool (AdjV.near n)) ∧ w = w' := by
  by_cases h1 : -1099511627776 ≤ n
  · by_cases h2 : n ≤ 1099511627776
    · have H := Lib.hid (AdjV.near_true.2 ⟨h1, h2⟩)
      go_enter Try.func45, Try.ntmps45
      go_wp2
      go_ret
      exact ⟨by rw [H.out]; rfl, rfl⟩
    · have H := Lib.hid (show AdjV.near n = false from AdjV.near_false.2 (by omega))
      go_enter Try.func45, Try.ntmps45
      go_wp2
      go_ret
      exact ⟨by rw [H.out]; rfl, rfl⟩
  · have H := Lib.hid (show AdjV.near n = false from AdjV.near_false.2 (by omega))
    go_enter Try.func45, Try.ntmps45
    go_wp2
    go_ret
    exact ⟨by rw [H.out]; rfl, rfl⟩

set_option maxHeartbeats 1000000 in
theorem far_any (n : Int) (w : World) : Calls Try.prog 47 #[.int .i64 n] w fun e w' => e = .returned (.bool (!AdjV.near n)) ∧ w = w' := by
  by_cases h1 : -1099511627776 ≤ n
  · by_cases h2 : n ≤ 1099511627776
    · have H := Lib.hid (AdjV.near_true.2 ⟨h1, h2⟩)
      go_enter Try.func47, Try.ntmps47
      go_wp2
      go_ret
      exact ⟨ret_bool (by rw [H.out]; first | rfl | (simp <;> omega)), rfl⟩
    · have H := Lib.hid (show AdjV.near n = false from AdjV.near_false.2 (by omega))
      go_enter Try.func47, Try.ntmps47
      go_wp2
      go_ret
      exact ⟨ret_bool (by rw [H.out]; first | rfl | (simp <;> omega)), rfl⟩
  · have H := Lib.hid (show AdjV.near n = false from AdjV.near_false.2 (by omega))
    go_enter Try.func47, Try.ntmps47
    go_wp2
    go_ret
    exact ⟨ret_bool (by rw [H.out]; first | rfl | (simp <;> omega)), rfl⟩

theorem Wrong1_any : Vw.Asks 46 (fun s => !AdjV.near s) := by
  obtain ⟨c, hc⟩ : ∃ c, Try.f46.body = some c := ⟨_, rfl⟩
  refine ⟨call_enters Try.func46 (by kernel_rfl) hc, fun x w => ?_⟩
  clear hc c
  go_enter Try.func46, Try.ntmps46
  go_wp2_with fail
  refine (near_any _ _).mono ?_
  rintro e w1 ⟨rfl, rfl⟩
  go_wp2_with fail
  go_ret
  exact ⟨rfl, rfl⟩

set_option maxHeartbeats 2000000 in
theorem Wrong_any (val : Value) (v : AdjV.V) (B : Nat) (w : World) (hB : B ≤ w.heap.size) (h : Vw.ViewAt w B val v) :
    Calls Try.prog 22 #[val] w fun e w' => e = .returned (.int .i64 (AdjV.wrong v)) ∧ Below w.heap.size w w' := by
  obtain ⟨A, c, A', c', rfl, hd, hs, c1, c2, c3, c4⟩ := h
  have hbel : Below w.heap.size w (w.alloc (.cells #[.int .i64 v.st, .slice A v.dims.length c, .slice A' v.steps.length c'] 34)) := (Below.refl _ _).alloc (Nat.le_refl _) _
  have HB := Lib.hid hbel
  have HSZ := Lib.hid (Size_any A c v.dims B _ (by omega) (hd.below (hbel.mono hB)))
  have HCF := Lib.hid (ContainsFunc_any _ _ Wrong1_any A' c' v.steps B _ (by omega) (hs.below (hbel.mono hB)))
  clear hd hs hbel
  by_cases h0 : (AdjV.size v.dims).2 = 0
  · have hR : Vw.sizeR v.dims = .tuple #[.int .i64 (AdjV.size v.dims).1, .int .i64 0] := by unfold Vw.sizeR; rw [h0]
    have HR := Lib.hid hR
    have H0 := Lib.hid h0
    clear hR h0
    by_cases hlen : v.steps.length = v.dims.length
    · have hq : ((v.steps.length : Int) != (v.dims.length : Int)) = false := by simp; omega
      have HLEN := Lib.hid hlen
      clear hlen
      by_cases hst : AdjV.near v.st = true
      · by_cases hall : v.steps.all AdjV.near = true
        · have HW := Lib.hid (AdjV.wrong_no H0.out HLEN.out (by rw [hst, hall]; rfl))
          have HA := Lib.hid (show v.steps.any (fun s => !AdjV.near s) = false by rw [AdjV.any_all, hall]; rfl)
          have HST := Lib.hid hst
          clear hst hall
          go_enter Try.func22, Try.ntmps22
          go_wp2_with fail
          refine HSZ.out.mono ?_
          rintro e w1 ⟨rfl, rfl⟩
          rw [HR.out]
          go_wp2_with fail
          refine (near_any _ _).mono ?_
          rintro e w1 ⟨rfl, rfl⟩
          rw [HST.out]
          go_wp2_with fail
          refine HCF.out.mono ?_
          rintro e w1 ⟨rfl, rfl⟩
          rw [HA.out]
          go_wp2_with fail
          go_ret
          exact ⟨by rw [HW.out]; rfl, HB.out⟩
        · have hall' : v.steps.all AdjV.near = false := by simpa using hall
          have HW := Lib.hid (AdjV.wrong_far H0.out HLEN.out (by rw [hall', Bool.and_false]))
          have HA := Lib.hid (show v.steps.any (fun s => !AdjV.near s) = true by rw [AdjV.any_all, hall']; rfl)
          have HST := Lib.hid hst
          clear hst hall hall'
          go_enter Try.func22, Try.ntmps22
          go_wp2_with fail
          refine HSZ.out.mono ?_
          rintro e w1 ⟨rfl, rfl⟩
          rw [HR.out]
          go_wp2_with fail
          refine (near_any _ _).mono ?_
          rintro e w1 ⟨rfl, rfl⟩
          rw [HST.out]
          go_wp2_with fail
          refine HCF.out.mono ?_
          rintro e w1 ⟨rfl, rfl⟩
          rw [HA.out]
          go_wp2_with fail
          go_ret
          exact ⟨by rw [HW.out]; rfl, HB.out⟩
      · have hst' : AdjV.near v.st = false := by simpa using hst
        have HW := Lib.hid (AdjV.wrong_far H0.out HLEN.out (by rw [hst', Bool.false_and]))
        have HST := Lib.hid hst'
        clear hst hst'
        go_enter Try.func22, Try.ntmps22
        go_wp2_with fail
        refine HSZ.out.mono ?_
        rintro e w1 ⟨rfl, rfl⟩
        rw [HR.out]
        go_wp2_with fail
        refine (near_any _ _).mono ?_
        rintro e w1 ⟨rfl, rfl⟩
        rw [HST.out]
        go_wp2_with fail
        go_ret
        exact ⟨by rw [HW.out]; rfl, HB.out⟩
    · have hq : ((v.steps.length : Int) != (v.dims.length : Int)) = true := by simp; omega
      have HW := Lib.hid (AdjV.wrong_shape H0.out hlen)
      clear hlen
      go_enter Try.func22, Try.ntmps22
      go_wp2_with fail
      refine HSZ.out.mono ?_
      rintro e w1 ⟨rfl, rfl⟩
      rw [HR.out]
      go_wp2_with fail
      go_ret
      exact ⟨by rw [HW.out]; rfl, HB.out⟩
  · have HW := Lib.hid (AdjV.wrong_size h0)
    have hq : ((AdjV.size v.dims).2 != 0) = true := by simpa using h0
    clear h0
    go_enter Try.func22, Try.ntmps22
    go_wp2_with fail
    refine HSZ.out.mono ?_
    rintro e w1 ⟨rfl, rfl⟩
    unfold Vw.sizeR
    go_wp2_with fail
    go_ret
    exact ⟨by rw [HW.out]; rfl, HB.out⟩

end Go.Proofs.Ytkbmnefjnfihbaa
