/-
  The walks of same and of Place, the program's. Conditions: the lists can be read.
-/
import Derived.Test.YtkbmnefjnfihbaaViewA
import Derived.BigQuiet
namespace Go.Proofs.Ytkbmnefjnfihbaa
set_option linter.unusedVariables false
open Go.RowKit Adj

set_option maxHeartbeats 1000000 in
theorem same_any (A A' : Option Addr) (cap cap' : Nat) (l m : List Int) (B B' : Nat) (w : World) (hl : l.length ≤ 9223372036854775807) (hl' : m.length ≤ 9223372036854775807) (hm : Vw.IntsAt w B A l) (hm' : Vw.IntsAt w B' A' m) :
    Calls Try.prog 17 #[.slice A l.length cap, .slice A' m.length cap'] w fun e w' => e = .returned (.bool (decide (l = m))) ∧ Below w.heap.size w w' := by
  by_cases hlen : l.length = m.length
  · have HM := Lib.hid hm
    have HM' := Lib.hid hm'
    have hq : ((l.length : Int) != (m.length : Int)) = false := by simp; omega
    have HLEN := Lib.hid hlen
    clear hm hm' hlen
    go_enter Try.func17, Try.ntmps17
    go_wp2_with fail
    go_loopw [5, 13] (fun _ i wr => ∃ k d : Nat, k ≤ l.length ∧ i = .int .i64 (k : Int) ∧ l.take k = m.take k ∧ wr = w.drewN d) (fun _ i _ => l.length + 1 - (intOf i).toNat)
    case atStart => exact ⟨0, 0, by omega, rfl, by simp, rfl⟩
    case round =>
      obtain ⟨k, d, hk, rfl, hsame, rfl⟩ := hrel
      have HS := Lib.hid hsame
      clear hsame
      by_cases hlt : k < l.length
      · obtain ⟨b, off, rfl, hb, hc⟩ := HM.out (by omega)
        obtain ⟨b', off', rfl, hb', hc'⟩ := HM'.out (by have := HLEN.out; omega)
        have hlt' : k < m.length := by have := HLEN.out; omega
        have hck := hc k hlt
        have hck' := hc' k hlt'
        have hi1 : (0 : Int) ≤ (k : Int) := by omega
        have hi2 : (k : Int) < (l.length : Int) := by omega
        have hi3 : (k : Int) < (m.length : Int) := by omega
        clear hc hc'
        have HT := Lib.hid (AdjV.take_next l k hlt)
        have HT' := Lib.hid (AdjV.take_next m k hlt')
        have HNE := Lib.hid (fun (h : l = m) => show l[k] = m[k] by subst h; rfl)
        generalize l[k] = x at hck HT HNE
        generalize m[k] = y at hck' HT' HNE
        by_cases hxy : x = y
        · have hq2 : (x != y) = false := by simpa using hxy
          have HXY := Lib.hid hxy
          clear hxy
          go_wp2_with fail
          go_quiet (fail)
          go_wp2_with fail
          exact ⟨⟨k + 1, d + nq, by omega, by go_num, by rw [HT.out, HT'.out, HS.out, HXY.out], rfl⟩, by simp [intOf]; omega⟩
        · have hq2 : (x != y) = true := by simpa using hxy
          have HD := Lib.hid (show decide (l = m) = false by simp; intro h; exact hxy (HNE.out h))
          go_wp2_with fail
          go_quiet (fail)
          go_wp2_with fail
          go_ret
          exact ⟨by rw [HD.out]; rfl, by first | exact Below.refl _ _ | exact below_drewN (Below.refl _ _) _ | exact below_drewN (below_drewN (Below.refl _ _) _) _⟩
      · obtain rfl : k = l.length := by omega
        have HD := Lib.hid (show decide (l = m) = true by
          have h := HS.out
          rw [List.take_length, HLEN.out, List.take_length] at h
          simpa using h)
        go_wp2_with fail
        go_ret
        exact ⟨by rw [HD.out]; rfl, by first | exact Below.refl _ _ | exact below_drewN (Below.refl _ _) _ | exact below_drewN (below_drewN (Below.refl _ _) _) _⟩
  · have hq : ((l.length : Int) != (m.length : Int)) = true := by simp; omega
    have HD := Lib.hid (show decide (l = m) = false by simp; intro h; exact hlen (by rw [h]))
    go_enter Try.func17, Try.ntmps17
    go_wp2_with fail
    go_ret
    exact ⟨by rw [HD.out]; rfl, Below.refl _ _⟩

set_option maxHeartbeats 2000000 in
theorem Place_any (A A' : Option Addr) (cap cap' : Nat) (l m : List Int) (B B' : Nat) (w : World) (hl : l.length ≤ 9223372036854775807) (hl' : m.length ≤ 9223372036854775807) (hm : Vw.IntsAt w B A l) (hm' : Vw.IntsAt w B' A' m) :
    Calls Try.prog 13 #[.slice A l.length cap, .slice A' m.length cap'] w fun e w' => e = .returned (.tuple #[.int .i64 (AdjV.place l m).1, .int .i64 (AdjV.place l m).2]) ∧ Below w.heap.size w w' := by
  have HSZ := Lib.hid (Size_any A cap l B w hl hm)
  by_cases h0 : (AdjV.size l).2 = 0
  · obtain ⟨z1, z2, z3, z4, z5⟩ := AdjV.size_fine h0
    have hR : Vw.sizeR l = .tuple #[.int .i64 (AdjV.size l).1, .int .i64 0] := by unfold Vw.sizeR; rw [h0]
    have HR := Lib.hid hR
    have H0 := Lib.hid h0
    clear hR h0 z3
    by_cases hlen : m.length = l.length
    · have hq : ((m.length : Int) != (l.length : Int)) = false := by simp; omega
      have HM := Lib.hid hm
      have HM' := Lib.hid hm'
      have HLEN := Lib.hid hlen
      have HZ := Lib.hid z2
      clear hm hm' hlen z2
      go_enter Try.func13, Try.ntmps13
      go_wp2_with fail
      refine HSZ.out.mono ?_
      rintro e w1 ⟨rfl, rfl⟩
      rw [HR.out]
      go_wp2_with fail
      go_loopw [8, 9, 10, 26] (fun v _ _ i wr => ∃ (k : Nat) (p : Int), k ≤ l.length ∧ i = .int .i64 (k : Int) ∧ v = .int .i64 p ∧ p = AdjV.plc (l.take k) (m.take k) ∧ AdjV.inside (l.take k) (m.take k) = true ∧ wr = w) (fun _ _ _ i _ => l.length + 1 - (intOf i).toNat)
      case atStart => exact ⟨0, 0, by omega, rfl, rfl, by simp [AdjV.plc], by simp [AdjV.inside], rfl⟩
      case round =>
        obtain ⟨k, p, hk, rfl, rfl, hp, hin, rfl⟩ := hrel
        have HPV := Lib.hid hp
        have HIN := Lib.hid hin
        have hpb := AdjV.inside_bound hin
        rw [← hp] at hpb
        clear hp hin
        by_cases hlt : k < l.length
        · obtain ⟨b, off, rfl, hb, hc⟩ := HM.out (by omega)
          obtain ⟨b', off', rfl, hb', hc'⟩ := HM'.out (by have := HLEN.out; omega)
          have hlt' : k < m.length := by have := HLEN.out; omega
          have hck := hc k hlt
          have hck' := hc' k hlt'
          have hi1 : (0 : Int) ≤ (k : Int) := by omega
          have hi2 : (k : Int) < (l.length : Int) := by omega
          have hi3 : (k : Int) < (m.length : Int) := by omega
          clear hc hc'
          obtain ⟨hn1, hn2⟩ := AdjV.place_next HLEN.out hlt HIN.out
          have HN1 := Lib.hid hn1
          have HN2 := Lib.hid hn2
          have HSM := Lib.hid (fun (h : AdjV.inside (l.take (k + 1)) (m.take (k + 1)) = true) => And.intro (AdjV.inside_bound h) (AdjV.prod_take_small H0.out (AdjV.inside_pos h)))
          have HBAD := Lib.hid (fun (h : ¬ (0 ≤ m[k] ∧ m[k] < l[k])) => show AdjV.place l m = (0, 4) by
            unfold AdjV.place
            rw [if_neg (by simp [H0.out]), if_neg (by simp [HLEN.out]), if_neg]
            intro hin
            exact h (AdjV.inside_at hin k hlt hlt'))
          have hdz := HZ.out _ (List.getElem_mem hlt)
          clear hn1 hn2
          generalize l[k] = d at hck HN1 HN2 HBAD hdz
          generalize m[k] = a at hck' HN1 HN2 HBAD
          by_cases ha0 : a < 0
          · have HP := Lib.hid (HBAD.out (by omega))
            go_wp2_with fail
            go_ret2
            exact ⟨by rw [HP.out]; rfl, Below.refl _ _⟩
          by_cases had : d ≤ a
          · have HP := Lib.hid (HBAD.out (by omega))
            go_wp2_with fail
            go_ret2
            exact ⟨by rw [HP.out]; rfl, Below.refl _ _⟩
          have hin' : AdjV.inside (l.take (k + 1)) (m.take (k + 1)) = true := by rw [HN1.out]; simp; omega
          obtain ⟨hb1, hb2⟩ := HSM.out hin'
          rw [HN2.out, ← HPV.out] at hb1
          have hpd : 0 ≤ p * d := Int.mul_nonneg hpb.1 hdz.1
          have hpd2 : p * d ≤ 1152921504606846976 := by omega
          have HIN' := Lib.hid hin'
          clear hin' hpb
          go_wp2_with fail
          exact ⟨⟨k + 1, p * d + a, by omega, by go_num, rfl, by rw [HN2.out, ← HPV.out], HIN'.out, by first | rfl | trivial⟩, by simp [intOf]; omega⟩
        · obtain rfl : k = l.length := by omega
          have hpl := HPV.out
          have hin := HIN.out
          rw [List.take_length, ← HLEN.out, List.take_length] at hpl hin
          have HP := Lib.hid (show AdjV.place l m = (p, 0) by
            unfold AdjV.place
            rw [if_neg (by simp [H0.out]), if_neg (by simp [HLEN.out]), if_pos hin, hpl])
          clear hpl hin
          go_wp2_with fail
          go_ret2
          exact ⟨by rw [HP.out]; rfl, Below.refl _ _⟩
    · have hq : ((m.length : Int) != (l.length : Int)) = true := by simp; omega
      have HP := Lib.hid (show AdjV.place l m = (0, 6) by unfold AdjV.place; rw [if_neg (by simp [H0.out]), if_pos hlen])
      clear hm hm'
      go_enter Try.func13, Try.ntmps13
      go_wp2_with fail
      refine HSZ.out.mono ?_
      rintro e w1 ⟨rfl, rfl⟩
      rw [HR.out]
      go_wp2_with fail
      go_ret2
      exact ⟨by rw [HP.out]; rfl, Below.refl _ _⟩
  · have HP := Lib.hid (show AdjV.place l m = (0, (AdjV.size l).2) from if_pos h0)
    have hq : ((AdjV.size l).2 != 0) = true := by simpa using h0
    clear hm hm'
    go_enter Try.func13, Try.ntmps13
    go_wp2_with fail
    refine HSZ.out.mono ?_
    rintro e w1 ⟨rfl, rfl⟩
    unfold Vw.sizeR
    go_wp2_with fail
    go_ret2
    exact ⟨by rw [HP.out]; rfl, Below.refl _ _⟩

end Go.Proofs.Ytkbmnefjnfihbaa
