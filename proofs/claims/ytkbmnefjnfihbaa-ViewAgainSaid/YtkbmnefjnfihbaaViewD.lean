/-
  The walks of the reference's Lies, Place, Index. Conditions: the lists can be read; what Lies reckons is small.
-/
import Derived.Test.YtkbmnefjnfihbaaViewC
import Derived.Deep.RegionHeld3
namespace Go.Proofs.Ytkbmnefjnfihbaa
set_option linter.unusedVariables false
open Go.RowKit Adj

set_option maxHeartbeats 2000000 in
theorem Lies_any (st : Int) (dv : Value) (A A' : Option Addr) (cap cap' : Nat) (l m : List Int) (B : Nat) (w : World) (hB : B ≤ w.heap.size) (hlm : m.length ≤ l.length) (hl6 : l.length ≤ 6) (hm : Vw.IntsAt w B A l) (hm' : Vw.IntsAt w B A' m)
    (hs : -144115188075855872 ≤ st ∧ st ≤ 144115188075855872) (hp : ∀ i (h1 : i < m.length) (h2 : i < l.length), -144115188075855872 ≤ m[i] * l[i] ∧ m[i] * l[i] ≤ 144115188075855872) :
    Calls Try.prog 40 #[.agg #[.int .i64 st, dv, .slice A l.length cap], .slice A' m.length cap'] w fun e w' => e = .returned (.int .i64 (st + AdjV.dot m l)) ∧ Below w.heap.size w w' := by
  have HM := Lib.hid (hm.below (((Below.refl _ _).alloc (Nat.le_refl _) (.cells #[.int .i64 st, dv, .slice A l.length cap] 34)).mono hB))
  have HM' := Lib.hid (hm'.below (((Below.refl _ _).alloc (Nat.le_refl _) (.cells #[.int .i64 st, dv, .slice A l.length cap] 34)).mono hB))
  have HPR := Lib.hid hp
  clear hm hm' hp
  go_enter Try.func40, Try.ntmps40
  go_wp2_with fail
  have HB := Lib.hid (Blk.new w 34 #[.int .i64 st, dv, .slice A l.length cap])
  go_loopw [5, 12] (fun n i wr => ∃ k : Nat, k ≤ m.length ∧ i = .int .i64 (k : Int) ∧ n = .int .i64 (st + AdjV.dot (m.take k) (l.take k)) ∧ ∃ q, wr = (w.alloc (.cells #[.int .i64 st, dv, .slice A l.length cap] 34)).drewN q) (fun _ i _ => m.length + 1 - (intOf i).toNat)
  case atStart => exact ⟨0, by omega, rfl, by simp [AdjV.dot], 0, rfl⟩
  case round =>
    obtain ⟨k, hk, rfl, rfl, q, rfl⟩ := hrel
    by_cases hlt : k < m.length
    · obtain ⟨b, off, rfl, hb, hc⟩ := HM.out (by omega)
      obtain ⟨b', off', rfl, hb', hc'⟩ := HM'.out (by omega)
      have hck := hc k (by omega)
      have hck' := hc' k hlt
      have hi1 : (0 : Int) ≤ (k : Int) := by omega
      have hi2 : (k : Int) < (l.length : Int) := by omega
      have hi3 : (k : Int) < (m.length : Int) := by omega
      have hpk := HPR.out k hlt (by omega)
      have hb0 := AdjV.dot_bound (b := 144115188075855872) (by omega) HPR.out k (by omega) (by omega)
      have hk6 : (144115188075855872 : Int) * k ≤ 144115188075855872 * 6 := by omega
      have HT := Lib.hid (AdjV.dot_next (m := m) (l := l) hlt (by omega))
      have hbx := (HB.out.drewN q).cell 2
      clear hc hc'
      generalize l[k] = s at hck hpk HT
      generalize m[k] = a at hck' hpk HT
      generalize AdjV.dot (m.take k) (l.take k) = dd at hb0 HT
      generalize hP : a * s = p at hpk HT
      go_wp2_with fail
      have HX : Value.int .i64 (st + dd + p) = .int .i64 (st + AdjV.dot (m.take (k + 1)) (l.take (k + 1))) := by rw [HT.out, Int.add_assoc]
      first
        | exact ⟨⟨k + 1, by omega, by go_num, by subst hP; exact HX, q, rfl⟩, by simp [intOf]; omega⟩
        | exact ⟨⟨k + 1, by omega, by go_num, by subst hP; exact HX, q + 1, rfl⟩, by simp [intOf]; omega⟩
    · obtain rfl : k = m.length := by omega
      go_wp2_with fail
      go_ret
      refine ⟨?_, below_drewN ((Below.refl _ _).alloc (Nat.le_refl _) _) q⟩
      rw [List.take_length, AdjV.dot_take m l hlm]
      rfl

set_option maxHeartbeats 2000000 in
theorem refPlace_any (A A' : Option Addr) (cap cap' : Nat) (l m : List Int) (B B' : Nat) (w : World) (hl : l.length ≤ cap) (hl' : cap ≤ 9223372036854775807) (hl2 : m.length ≤ 9223372036854775807) (hB : B ≤ w.heap.size) (hB' : B' ≤ w.heap.size) (hm : Vw.IntsAt w B A l) (hm' : Vw.IntsAt w B' A' m) :
    Calls Try.prog 14 #[.slice A l.length cap, .slice A' m.length cap'] w fun e w' => e = .returned (.tuple #[.int .i64 (AdjV.place l m).1, .int .i64 (AdjV.place l m).2]) ∧ Below w.heap.size w w' := by
  have HSZ := Lib.hid (refSize_any A cap l B w (by omega) hm)
  by_cases h0 : (AdjV.size l).2 = 0
  · obtain ⟨z1, z2, z3, z4, z5⟩ := AdjV.size_fine h0
    have hR : Vw.sizeR l = .tuple #[.int .i64 (AdjV.size l).1, .int .i64 0] := by unfold Vw.sizeR; rw [h0]
    have HR := Lib.hid hR
    have H0 := Lib.hid h0
    clear hR h0 z3
    by_cases hlen : m.length = l.length
    · have hq : ((m.length : Int) != (l.length : Int)) = false := by simp; omega
      have HM := Lib.hid hm
      have HM' := Lib.hid hm'
      have HLEN := Lib.hid hlen
      clear hm hm' hlen z2
      go_enter Try.func14, Try.ntmps14
      go_wp2_with fail
      refine HSZ.out.mono ?_
      rintro e w1 ⟨rfl, rfl⟩
      rw [HR.out]
      go_wp2_with fail
      go_loop [8, 9, 25] (fun _ _ i => ∃ (k : Nat), k ≤ l.length ∧ i = .int .i64 (k : Int) ∧ AdjV.inside (l.take k) (m.take k) = true) (fun _ _ i => l.length + 1 - (intOf i).toNat)
      case atStart => exact ⟨0, by omega, rfl, by simp [AdjV.inside]⟩
      case round =>
        obtain ⟨k, hk, rfl, hin⟩ := hrel
        have HIN := Lib.hid hin
        clear hin
        by_cases hlt : k < l.length
        · obtain ⟨b, off, rfl, hb, hc⟩ := HM.out (by omega)
          obtain ⟨b', off', rfl, hb', hc'⟩ := HM'.out (by have := HLEN.out; omega)
          have hlt' : k < m.length := by have := HLEN.out; omega
          have hck := hc k hlt
          have hck' := hc' k hlt'
          have hi1 : (0 : Int) ≤ (k : Int) := by omega
          have hi2 : (k : Int) < (l.length : Int) := by omega
          have hi3 : (k : Int) < (m.length : Int) := by omega
          clear hc hc'
          have HN1 := Lib.hid (AdjV.place_next HLEN.out hlt HIN.out).1
          have HBAD := Lib.hid (fun (h : ¬ (0 ≤ m[k] ∧ m[k] < l[k])) => show AdjV.place l m = (0, 4) by
            unfold AdjV.place
            rw [if_neg (by simp [H0.out]), if_neg (by simp [HLEN.out]), if_neg]
            intro hin
            exact h (AdjV.inside_at hin k hlt hlt'))
          generalize l[k] = d at hck HN1 HBAD
          generalize m[k] = a at hck' HN1 HBAD
          by_cases ha0 : a < 0
          · have HP := Lib.hid (HBAD.out (by omega))
            go_wp2_with fail
            go_ret2
            exact ⟨by rw [HP.out]; rfl, Below.refl _ _⟩
          by_cases had : d ≤ a
          · have HP := Lib.hid (HBAD.out (by omega))
            go_wp2_with fail
            go_ret2
            exact ⟨by rw [HP.out]; rfl, Below.refl _ _⟩
          have hin' : AdjV.inside (l.take (k + 1)) (m.take (k + 1)) = true := by rw [HN1.out]; simp; omega
          have HIN' := Lib.hid hin'
          clear hin'
          go_wp2_with fail
          first
            | exact ⟨⟨k + 1, by omega, by go_num, HIN'.out⟩, by simp [intOf]; omega⟩
            | (go_round
               case rel => exact ⟨k + 1, by omega, by go_num, HIN'.out⟩
               case measure => simp [intOf]; omega)
        · obtain rfl : k = l.length := by omega
          have hin := HIN.out
          rw [List.take_length, ← HLEN.out, List.take_length] at hin
          have HP := Lib.hid (show AdjV.place l m = (AdjV.plc l m, 0) by
            unfold AdjV.place
            rw [if_neg (by simp [H0.out]), if_neg (by simp [HLEN.out]), if_pos hin])
          have HDOT := Lib.hid (AdjV.steps_plc (m := m) (AdjV.inside_no_zero hin) HLEN.out.symm)
          have HPARTS := Lib.hid (AdjV.steps_parts hin z5)
          clear hin
          go_wp2_with fail
          refine (Steps_any A cap l B _ hl hl' H0.out HM.out hB).mono ?_
          rintro e w1 ⟨v, rfl, hown, hbel⟩
          obtain ⟨A2, c2, rfl, hc2⟩ := Vw.own_any hown
          have HI2 := Lib.hid (Vw.IntsAt.of_own hown).2
          have HL2 := Lib.hid (AdjV.steps_length l)
          have HBEL := Lib.hid hbel
          clear hown hbel
          go_wp2_with fail
          rw [← HL2.out]
          refine (Lies_any 0 _ A2 A' c2 cap' (AdjV.steps l) m w1.heap.size w1 (Nat.le_refl _) (by rw [HL2.out, HLEN.out]; exact Nat.le_refl _) (by rw [HL2.out]; exact z1) HI2.out ((HM'.out.below (HBEL.out.mono hB')).up (by have := HBEL.out.size; omega)) (by omega) HPARTS.out).mono ?_
          rintro e w2 ⟨rfl, hbel2⟩
          rw [HDOT.out, Int.zero_add]
          go_wp2_with fail
          go_ret2
          exact ⟨by rw [HP.out]; rfl, HBEL.out.trans (hbel2.mono HBEL.out.size)⟩
    · have hq : ((m.length : Int) != (l.length : Int)) = true := by simp; omega
      have HP := Lib.hid (show AdjV.place l m = (0, 6) by unfold AdjV.place; rw [if_neg (by simp [H0.out]), if_pos hlen])
      clear hm hm'
      go_enter Try.func14, Try.ntmps14
      go_wp2_with fail
      refine HSZ.out.mono ?_
      rintro e w1 ⟨rfl, rfl⟩
      rw [HR.out]
      go_wp2_with fail
      go_ret2
      exact ⟨by rw [HP.out]; rfl, Below.refl _ _⟩
  · have HP := Lib.hid (show AdjV.place l m = (0, (AdjV.size l).2) from if_pos h0)
    have hq : ((AdjV.size l).2 != 0) = true := by simpa using h0
    clear hm hm'
    go_enter Try.func14, Try.ntmps14
    go_wp2_with fail
    refine HSZ.out.mono ?_
    rintro e w1 ⟨rfl, rfl⟩
    unfold Vw.sizeR
    go_wp2_with fail
    go_ret2
    exact ⟨by rw [HP.out]; rfl, Below.refl _ _⟩

end Go.Proofs.Ytkbmnefjnfihbaa
