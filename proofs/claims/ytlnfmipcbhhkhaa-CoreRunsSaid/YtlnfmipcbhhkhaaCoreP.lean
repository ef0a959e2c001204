/-
  The walk of core.word. Conditions: the words that are read lie there.
-/
import Derived.Test.YtlnfmipcbhhkhaaCoreD
import Derived.Test.YtlnfmipcbhhkhaaCorePlain6
import Derived.Deep.QuietTactic
import Derived.BigQuiet
namespace Go.Proofs.Ytlnfmipcbhhkhaa
set_option linter.unusedVariables false
open Go.RowKit Adj

namespace Cr
/-- Word k of a slice of words. -/
def Rd (w : World) (V : Value) (k : Nat) (p : Int) : Prop :=
  ∃ b off len cap : Nat, V = .slice (some ⟨b, off, none⟩) len cap ∧ k < len ∧ len ≤ 1048576 ∧ b < w.heap.size ∧ w.cell? ⟨b, off + k, none⟩ = some (.int .i64 p)
theorem Rd.below {w w' : World} {V : Value} {k : Nat} {p : Int} (h : Rd w V k p) (hb : Below w.heap.size w w') : Rd w' V k p := by
  obtain ⟨b, off, len, cap, rfl, h1, h2, h3, h4⟩ := h
  exact ⟨b, off, len, cap, rfl, h1, h2, Nat.lt_of_lt_of_le h3 hb.size, (hb.cell (p := ⟨b, off + k, none⟩) h3).trans h4⟩
end Cr
set_option maxRecDepth 100000 in
set_option maxHeartbeats 4000000 in
theorem word_set (x : AdjC.I) (A B C : Value) (k : Nat) (w : World) (hd : x.d = 5) :
    Calls Try.prog 42 #[Cr.insV x, A, B, C, .int .i64 (k : Int)] w fun e w' => e = .returned (.int .i64 x.v) ∧ Below w.heap.size w w' := by
  obtain ⟨d, a, b, c, n, v⟩ := x
  simp only [Cr.insV] at *
  subst hd
  have HB := Lib.hid (fun o => (Below.refl w.heap.size w).alloc (Nat.le_refl _) o)
  go_enter Try.func42, Try.ntmps42
  go_wp2_with fail
  go_ret
  exact ⟨rfl, HB.out _⟩
set_option maxRecDepth 100000 in
set_option maxHeartbeats 4000000 in
theorem word_add (x : AdjC.I) (A B C : Value) (k : Nat) (p q r : Int) (w : World) (hd : x.d = 6) (hb : Cr.Rd w B k q) (hc : Cr.Rd w C k r) :
    Calls Try.prog 42 #[Cr.insV x, A, B, C, .int .i64 (k : Int)] w fun e w' => e = .returned (.int .i64 (wrap64 (q + r))) ∧ Below w.heap.size w w' := by
  obtain ⟨d, a, b, c, n, v⟩ := x
  simp only [Cr.insV] at *
  subst hd
  have HB := Lib.hid (fun o => (Below.refl w.heap.size w).alloc (Nat.le_refl _) o)
  replace HB := HB.out
  obtain ⟨bb, bo, bl, bc, rfl, b1, b2, b3, b4⟩ := hb
  obtain ⟨cb, co, cl, cc, rfl, c1, c2, c3, c4⟩ := hc
  have b5 := fun o => (HB o).cell (p := ⟨bb, bo + k, none⟩) b3
  rw [b4] at b5
  have c5 := fun o => (HB o).cell (p := ⟨cb, co + k, none⟩) c3
  rw [c4] at c5
  have HB2 := Lib.hid HB
  clear HB b4 c4
  go_enter Try.func42, Try.ntmps42
  go_wp2_with fail
  go_quiet (fail)
  go_wp2_with fail
  go_ret
  exact ⟨rfl, below_drewN (HB2.out _) _⟩
set_option maxRecDepth 100000 in
set_option maxHeartbeats 4000000 in
theorem word_sub (x : AdjC.I) (A B C : Value) (k : Nat) (p q r : Int) (w : World) (hd : x.d = 7) (hb : Cr.Rd w B k q) (hc : Cr.Rd w C k r) :
    Calls Try.prog 42 #[Cr.insV x, A, B, C, .int .i64 (k : Int)] w fun e w' => e = .returned (.int .i64 (wrap64 (q - r))) ∧ Below w.heap.size w w' := by
  obtain ⟨d, a, b, c, n, v⟩ := x
  simp only [Cr.insV] at *
  subst hd
  have HB := Lib.hid (fun o => (Below.refl w.heap.size w).alloc (Nat.le_refl _) o)
  replace HB := HB.out
  obtain ⟨bb, bo, bl, bc, rfl, b1, b2, b3, b4⟩ := hb
  obtain ⟨cb, co, cl, cc, rfl, c1, c2, c3, c4⟩ := hc
  have b5 := fun o => (HB o).cell (p := ⟨bb, bo + k, none⟩) b3
  rw [b4] at b5
  have c5 := fun o => (HB o).cell (p := ⟨cb, co + k, none⟩) c3
  rw [c4] at c5
  have HB2 := Lib.hid HB
  clear HB b4 c4
  go_enter Try.func42, Try.ntmps42
  go_wp2_with fail
  go_quiet (fail)
  go_wp2_with fail
  go_ret
  exact ⟨rfl, below_drewN (HB2.out _) _⟩
set_option maxRecDepth 100000 in
set_option maxHeartbeats 4000000 in
theorem word_mul (x : AdjC.I) (A B C : Value) (k : Nat) (p q r : Int) (w : World) (hd : x.d = 8) (hb : Cr.Rd w B k q) (hc : Cr.Rd w C k r) :
    Calls Try.prog 42 #[Cr.insV x, A, B, C, .int .i64 (k : Int)] w fun e w' => e = .returned (.int .i64 (wrap64 (q * r))) ∧ Below w.heap.size w w' := by
  obtain ⟨d, a, b, c, n, v⟩ := x
  simp only [Cr.insV] at *
  subst hd
  have HB := Lib.hid (fun o => (Below.refl w.heap.size w).alloc (Nat.le_refl _) o)
  replace HB := HB.out
  obtain ⟨bb, bo, bl, bc, rfl, b1, b2, b3, b4⟩ := hb
  obtain ⟨cb, co, cl, cc, rfl, c1, c2, c3, c4⟩ := hc
  have b5 := fun o => (HB o).cell (p := ⟨bb, bo + k, none⟩) b3
  rw [b4] at b5
  have c5 := fun o => (HB o).cell (p := ⟨cb, co + k, none⟩) c3
  rw [c4] at c5
  have HB2 := Lib.hid HB
  clear HB b4 c4
  go_enter Try.func42, Try.ntmps42
  go_wp2_with fail
  go_quiet (fail)
  go_wp2_with fail
  go_ret
  exact ⟨rfl, below_drewN (HB2.out _) _⟩
set_option maxRecDepth 100000 in
set_option maxHeartbeats 4000000 in
theorem word_max (x : AdjC.I) (A B C : Value) (k : Nat) (p q r : Int) (w : World) (hd : x.d = 9) (hb : Cr.Rd w B k q) (hc : Cr.Rd w C k r) :
    Calls Try.prog 42 #[Cr.insV x, A, B, C, .int .i64 (k : Int)] w fun e w' => e = .returned (.int .i64 (max q r)) ∧ Below w.heap.size w w' := by
  obtain ⟨d, a, b, c, n, v⟩ := x
  simp only [Cr.insV] at *
  subst hd
  have HB := Lib.hid (fun o => (Below.refl w.heap.size w).alloc (Nat.le_refl _) o)
  replace HB := HB.out
  obtain ⟨bb, bo, bl, bc, rfl, b1, b2, b3, b4⟩ := hb
  obtain ⟨cb, co, cl, cc, rfl, c1, c2, c3, c4⟩ := hc
  have b5 := fun o => (HB o).cell (p := ⟨bb, bo + k, none⟩) b3
  rw [b4] at b5
  have c5 := fun o => (HB o).cell (p := ⟨cb, co + k, none⟩) c3
  rw [c4] at c5
  have HB2 := Lib.hid HB
  clear HB b4 c4
  by_cases hqr : q < r
  · rw [show max q r = r by omega]
    go_enter Try.func42, Try.ntmps42
    go_wp2_with fail
    go_quiet (fail)
    go_wp2_with fail
    go_ret
    all_goals first | exact ⟨rfl, below_drewN (HB2.out _) _⟩ | omega
  · rw [show max q r = q by omega]
    go_enter Try.func42, Try.ntmps42
    go_wp2_with fail
    go_quiet (fail)
    go_wp2_with fail
    go_ret
    all_goals first | exact ⟨rfl, below_drewN (HB2.out _) _⟩ | omega
set_option maxRecDepth 100000 in
set_option maxHeartbeats 4000000 in
theorem word_mac (x : AdjC.I) (A B C : Value) (k : Nat) (p q r : Int) (w : World) (hd : x.d = 12) (ha : Cr.Rd w A k p) (hb : Cr.Rd w B k q) (hc : Cr.Rd w C k r) :
    Calls Try.prog 42 #[Cr.insV x, A, B, C, .int .i64 (k : Int)] w fun e w' => e = .returned (.int .i64 (wrap64 (p + wrap64 (q * r)))) ∧ Below w.heap.size w w' := by
  obtain ⟨d, a, b, c, n, v⟩ := x
  simp only [Cr.insV] at *
  subst hd
  have HB := Lib.hid (fun o => (Below.refl w.heap.size w).alloc (Nat.le_refl _) o)
  replace HB := HB.out
  obtain ⟨ab, ao, al, ac, rfl, a1, a2, a3, a4⟩ := ha
  obtain ⟨bb, bo, bl, bc, rfl, b1, b2, b3, b4⟩ := hb
  obtain ⟨cb, co, cl, cc, rfl, c1, c2, c3, c4⟩ := hc
  have a5 := fun o => (HB o).cell (p := ⟨ab, ao + k, none⟩) a3
  rw [a4] at a5
  have b5 := fun o => (HB o).cell (p := ⟨bb, bo + k, none⟩) b3
  rw [b4] at b5
  have c5 := fun o => (HB o).cell (p := ⟨cb, co + k, none⟩) c3
  rw [c4] at c5
  have HB2 := Lib.hid HB
  clear HB a4 b4 c4
  go_enter Try.func42, Try.ntmps42
  go_wp2_with fail
  go_quiet (fail)
  go_wp2_with fail
  go_ret
  exact ⟨rfl, below_drewN (HB2.out _) _⟩
set_option maxRecDepth 100000 in
set_option maxHeartbeats 4000000 in
theorem word_more (x : AdjC.I) (A B C : Value) (k : Nat) (p q r : Int) (w : World) (hd : x.d = 14) (ha : Cr.Rd w A k p) (hb : Cr.Rd w B k q) :
    Calls Try.prog 42 #[Cr.insV x, A, B, C, .int .i64 (k : Int)] w fun e w' => e = .returned (.int .i64 (wrap64 (p + q))) ∧ Below w.heap.size w w' := by
  obtain ⟨d, a, b, c, n, v⟩ := x
  simp only [Cr.insV] at *
  subst hd
  have HB := Lib.hid (fun o => (Below.refl w.heap.size w).alloc (Nat.le_refl _) o)
  replace HB := HB.out
  obtain ⟨ab, ao, al, ac, rfl, a1, a2, a3, a4⟩ := ha
  obtain ⟨bb, bo, bl, bc, rfl, b1, b2, b3, b4⟩ := hb
  have a5 := fun o => (HB o).cell (p := ⟨ab, ao + k, none⟩) a3
  rw [a4] at a5
  have b5 := fun o => (HB o).cell (p := ⟨bb, bo + k, none⟩) b3
  rw [b4] at b5
  have HB2 := Lib.hid HB
  clear HB a4 b4
  go_enter Try.func42, Try.ntmps42
  go_wp2_with fail
  go_quiet (fail)
  go_wp2_with fail
  go_ret
  exact ⟨rfl, below_drewN (HB2.out _) _⟩
set_option maxRecDepth 100000 in
set_option maxHeartbeats 4000000 in
theorem word_less (x : AdjC.I) (A B C : Value) (k : Nat) (p q r : Int) (w : World) (hd : x.d = 10) (hb : Cr.Rd w B k q) (hc : Cr.Rd w C k r) :
    Calls Try.prog 42 #[Cr.insV x, A, B, C, .int .i64 (k : Int)] w fun e w' => e = .returned (.int .i64 (if q < r then 1 else 0)) ∧ Below w.heap.size w w' := by
  obtain ⟨d, a, b, c, n, v⟩ := x
  simp only [Cr.insV] at *
  subst hd
  have HB := Lib.hid (fun o => (Below.refl w.heap.size w).alloc (Nat.le_refl _) o)
  replace HB := HB.out
  obtain ⟨bb, bo, bl, bc, rfl, b1, b2, b3, b4⟩ := hb
  obtain ⟨cb, co, cl, cc, rfl, c1, c2, c3, c4⟩ := hc
  have b5 := fun o => (HB o).cell (p := ⟨bb, bo + k, none⟩) b3
  rw [b4] at b5
  have c5 := fun o => (HB o).cell (p := ⟨cb, co + k, none⟩) c3
  rw [c4] at c5
  have HB2 := Lib.hid HB
  clear HB b4 c4
  by_cases hqr : q < r
  · rw [if_pos hqr]
    go_enter Try.func42, Try.ntmps42
    go_wp2_with fail
    go_quiet (fail)
    go_wp2_with fail
    go_ret
    exact ⟨rfl, below_drewN (HB2.out _) _⟩
  · rw [if_neg hqr]
    go_enter Try.func42, Try.ntmps42
    go_wp2_with fail
    go_quiet (fail)
    go_wp2_with fail
    go_ret
    exact ⟨rfl, below_drewN (HB2.out _) _⟩
set_option maxRecDepth 100000 in
set_option maxHeartbeats 4000000 in
theorem word_pick (x : AdjC.I) (A B C : Value) (k : Nat) (p q r : Int) (w : World) (hd : x.d = 11) (ha : Cr.Rd w A k p) (hb : Cr.Rd w B k q) (hc : Cr.Rd w C k r) :
    Calls Try.prog 42 #[Cr.insV x, A, B, C, .int .i64 (k : Int)] w fun e w' => e = .returned (.int .i64 (if p ≠ 0 then q else r)) ∧ Below w.heap.size w w' := by
  obtain ⟨d, a, b, c, n, v⟩ := x
  simp only [Cr.insV] at *
  subst hd
  have HB := Lib.hid (fun o => (Below.refl w.heap.size w).alloc (Nat.le_refl _) o)
  replace HB := HB.out
  obtain ⟨ab, ao, al, ac, rfl, a1, a2, a3, a4⟩ := ha
  obtain ⟨bb, bo, bl, bc, rfl, b1, b2, b3, b4⟩ := hb
  obtain ⟨cb, co, cl, cc, rfl, c1, c2, c3, c4⟩ := hc
  have a5 := fun o => (HB o).cell (p := ⟨ab, ao + k, none⟩) a3
  rw [a4] at a5
  have b5 := fun o => (HB o).cell (p := ⟨bb, bo + k, none⟩) b3
  rw [b4] at b5
  have c5 := fun o => (HB o).cell (p := ⟨cb, co + k, none⟩) c3
  rw [c4] at c5
  have HB2 := Lib.hid HB
  clear HB a4 b4 c4
  by_cases hp : p = 0
  · rw [if_neg (by simp [hp])]
    subst hp
    go_enter Try.func42, Try.ntmps42
    go_wp2_with fail
    go_ret
    exact ⟨rfl, HB2.out _⟩
  · rw [if_pos hp]
    have hp2 : (p != 0) = true := by simpa using hp
    go_enter Try.func42, Try.ntmps42
    go_wp2_with fail
    go_ret
    exact ⟨rfl, HB2.out _⟩

/-- word, whatever the instruction: three old words. -/
theorem word_any (x : AdjC.I) (A B C : Value) (k : Nat) (p q r : Int) (w : World) (hd : 5 ≤ x.d ∧ x.d ≤ 14 ∧ x.d ≠ 13) (ha : x.d = 11 ∨ x.d = 12 ∨ x.d = 14 → Cr.Rd w A k p) (hb : x.d ≠ 5 → Cr.Rd w B k q) (hc : x.d ≠ 5 ∧ x.d ≠ 14 → Cr.Rd w C k r) :
    Calls Try.prog 42 #[Cr.insV x, A, B, C, .int .i64 (k : Int)] w fun e w' => e = .returned (.int .i64 (AdjC.wordV x.d x.v p q r)) ∧ Below w.heap.size w w' := by
  have hk : x.d = 5 ∨ x.d = 6 ∨ x.d = 7 ∨ x.d = 8 ∨ x.d = 9 ∨ x.d = 10 ∨ x.d = 11 ∨ x.d = 12 ∨ x.d = 14 := by omega
  rcases hk with h | h | h | h | h | h | h | h | h
  · rw [show AdjC.wordV x.d x.v p q r = x.v by rw [h]; rfl]; exact word_set x A B C k w h
  · rw [show AdjC.wordV x.d x.v p q r = wrap64 (q + r) by rw [h]; rfl]; exact word_add x A B C k p q r w h (hb (by omega)) (hc (by omega))
  · rw [show AdjC.wordV x.d x.v p q r = wrap64 (q - r) by rw [h]; rfl]; exact word_sub x A B C k p q r w h (hb (by omega)) (hc (by omega))
  · rw [show AdjC.wordV x.d x.v p q r = wrap64 (q * r) by rw [h]; rfl]; exact word_mul x A B C k p q r w h (hb (by omega)) (hc (by omega))
  · rw [show AdjC.wordV x.d x.v p q r = max q r by rw [h]; rfl]; exact word_max x A B C k p q r w h (hb (by omega)) (hc (by omega))
  · rw [show AdjC.wordV x.d x.v p q r = (if q < r then 1 else 0) by rw [h]; rfl]; exact word_less x A B C k p q r w h (hb (by omega)) (hc (by omega))
  · rw [show AdjC.wordV x.d x.v p q r = (if p ≠ 0 then q else r) by rw [h]; rfl]; exact word_pick x A B C k p q r w h (ha (by omega)) (hb (by omega)) (hc (by omega))
  · rw [show AdjC.wordV x.d x.v p q r = wrap64 (p + wrap64 (q * r)) by rw [h]; rfl]; exact word_mac x A B C k p q r w h (ha (by omega)) (hb (by omega)) (hc (by omega))
  · rw [show AdjC.wordV x.d x.v p q r = wrap64 (p + q) by rw [h]; rfl]; exact word_more x A B C k p q r w h (ha (by omega)) (hb (by omega))
end Go.Proofs.Ytlnfmipcbhhkhaa
