/-
  The walk of sameWords where both lists are one. Conditions: both can be read.
-/
import Derived.Test.YtlnfmipcbhhkhaaCoreU
namespace Go.Proofs.Ytlnfmipcbhhkhaa
set_option linter.unusedVariables false
open Go.RowKit Adj

set_option maxRecDepth 100000 in
set_option maxHeartbeats 4000000 in
theorem SameMemory_any (g1 g2 : Nat) (A A2 : Option Addr) (c1 c2 : Nat) (l : List Int) (w : World) (h1 : Blk w g1 31 #[.slice A l.length c1]) (h2 : Blk w g2 31 #[.slice A2 l.length c2]) (hA : IntsAt w w.heap.size A l) (hA2 : IntsAt w w.heap.size A2 l) (hl : l.length ≤ 9223372036854775807) :
    Calls Try.prog 23 #[.slice (some ⟨g1, 0, none⟩) 1 1, .slice (some ⟨g2, 0, none⟩) 1 1] w fun e w' => e = .returned (.bool true) ∧ Below w.heap.size w w' := by
  have H1 := Lib.hid h1
  have H2 := Lib.hid h2
  have HA := Lib.hid hA
  have HA2 := Lib.hid hA2
  have HL := Lib.hid hl
  clear h1 h2 hA hA2 hl
  go_enter Try.func23, Try.ntmps23
  go_wp2_with fail
  go_loopw [14] (fun i wr => ∃ k : Nat, k ≤ 1 ∧ i = .int .i64 (k : Int) ∧ Below w.heap.size w wr) (fun i _ => 1 - (intOf i).toNat)
  case atStart => exact ⟨0, by omega, rfl, Below.refl _ _⟩
  case round =>
    obtain ⟨k, hk, rfl, hb⟩ := hrel
    have HB := Lib.hid hb
    clear hb
    have hk2 : k = 0 ∨ k = 1 := by omega
    rcases hk2 with rfl | rfl
    · have a0 := (H1.out.below HB.out H1.out.lt).cell 0
      have b0 := (H2.out.below HB.out H2.out.lt).cell 0
      rw [show (((0 : Nat) : Int)) = (0 : Int) from rfl]
      go_wp2_with fail
      go_quiet (fail)
      have HB2 := Lib.hid (below_drewN HB.out nq)
      generalize wr.drewN nq = w2 at HB2 ⊢
      clear a0 b0
      have a0 := (H1.out.below HB2.out H1.out.lt).cell 0
      have b0 := (H2.out.below HB2.out H2.out.lt).cell 0
      go_wp2_with fail
      clear a0 b0
      go_loopw [33] (fun i wr => ∃ j : Nat, j ≤ l.length ∧ i = .int .i64 (j : Int) ∧ Below w.heap.size w wr) (fun i _ => l.length - (intOf i).toNat)
      case atStart => exact ⟨0, by omega, rfl, HB2.out⟩
      case round =>
        obtain ⟨j, hj, rfl, hb⟩ := hrel
        have HB3 := Lib.hid hb
        clear hb
        have hl := HL.out
        by_cases hlt : j < l.length
        · obtain ⟨b, off, hAe, hbl⟩ := HA.out.spot (by omega)
          obtain ⟨b', off', hAe', hbl'⟩ := HA2.out.spot (by omega)
          have HM := HA.out.below HB3.out
          have HM2 := HA2.out.below HB3.out
          rw [hAe] at HM
          rw [hAe'] at HM2
          have y0 := HM.get hlt
          have y1 := HM2.get hlt
          have a0 := (H1.out.below HB3.out H1.out.lt).cell 0
          have b0 := (H2.out.below HB3.out H2.out.lt).cell 0
          rw [hAe] at a0
          rw [hAe'] at b0
          obtain ⟨z, hz⟩ : ∃ z, l[j] = z := ⟨_, rfl⟩
          rw [hz] at y0 y1
          have q0 : (z != z) = false := by simp
          have i1 : (0 : Int) ≤ (j : Int) := by omega
          have i2 : (j : Int) < (l.length : Int) := by omega
          clear HM HM2 hAe hAe' hz
          go_wp2_with fail
          go_quiet (fail)
          have HB4 := Lib.hid (fun m => below_drewN HB3.out m)
          clear a0 b0 y0 y1
          go_wp2_with fail
          go_roundw
          case rel => exact ⟨j + 1, by omega, by go_num, HB4.out _⟩
          case measure => simp [intOf]; omega
        · obtain rfl : j = l.length := by omega
          go_wp2_with fail
          go_roundw
          case rel => exact ⟨1, by omega, by go_num, HB3.out⟩
          case measure => simp [intOf]
    · rw [show (((1 : Nat) : Int)) = (1 : Int) from rfl]
      go_wp2_with fail
      go_ret
      exact ⟨rfl, HB.out⟩
set_option maxHeartbeats 1000000 in
theorem sameWords_any (va vb : Value) (l : List Int) (w : World) (ha : Cr.Words w va l) (hb : Cr.Words w vb l) :
    Calls Try.prog 10 #[va, vb] w fun e w' => e = .returned (.bool true) ∧ Below w.heap.size w w' := by
  obtain ⟨A, c1, rfl, i1, l1, m1⟩ := ha
  obtain ⟨A2, c2, rfl, i2, l2, m2⟩ := hb
  have HB := Lib.hid (fun o o' => ((Below.refl w.heap.size w).alloc (Nat.le_refl _) o).alloc (by simp) o')
  have HS := Lib.hid (SameMemory_any w.heap.size (w.heap.size + 1) A A2 c1 c2 l ((w.alloc (.cells #[.slice A l.length c1] 31)).alloc (.cells #[.slice A2 l.length c2] 31)) ((Blk.new w _ _).alloc _)
    (by have h := Blk.new (w.alloc (.cells #[.slice A l.length c1] 31)) 31 #[.slice A2 l.length c2]; rwa [World.size_alloc] at h) ((i1.below (HB.out _ _)).up (by simp; omega)) ((i2.below (HB.out _ _)).up (by simp; omega)) (by omega))
  clear i1 i2
  go_enter Try.func10, Try.ntmps10
  go_wp2_with fail
  ((with_reducible refine HS.out.mono ?_); rintro e w' ⟨rfl, hb2⟩)
  have HF := Lib.hid ((HB.out (.cells #[.slice A l.length c1] 31) (.cells #[.slice A2 l.length c2] 31)).trans (hb2.mono (by simp; omega)))
  clear hb2
  go_wp2_with fail
  go_ret
  exact ⟨rfl, HF.out⟩
end Go.Proofs.Ytlnfmipcbhhkhaa
