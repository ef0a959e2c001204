/-
  The walk of SameList. Conditions: the lists can be read.
-/
import Derived.Test.YtkopkicdmbnpgaaRoomD
import Derived.BigQuiet
namespace Go.Proofs.Ytkopkicdmbnpgaa
set_option linter.unusedVariables false
open Go.RowKit Adj

set_option maxRecDepth 100000 in
set_option maxHeartbeats 2000000 in
theorem sameList_any (A A' : Option Addr) (cap cap' : Nat) (l m : List Int) (B B' : Nat) (w : World) (hl : l.length ≤ 9223372036854775807) (hl' : m.length ≤ 9223372036854775807) (hm : IntsAt w B A l) (hm' : IntsAt w B' A' m) :
    Calls Try.prog 13 #[.slice A l.length cap, .slice A' m.length cap'] w fun e w' => e = .returned (.bool (decide (l = m))) ∧ Below w.heap.size w w' := by
  by_cases hlen : l.length = m.length
  · have HM := Lib.hid hm
    have HM' := Lib.hid hm'
    have hq : ((l.length : Int) != (m.length : Int)) = false := by simp; omega
    have HLEN := Lib.hid hlen
    clear hm hm' hlen
    go_enter Try.func13, Try.ntmps13
    go_wp2_with fail
    go_loopw [5, 13] (fun _ i wr => ∃ k d : Nat, k ≤ l.length ∧ i = .int .i64 (k : Int) ∧ l.take k = m.take k ∧ wr = w.drewN d) (fun _ i _ => l.length + 1 - (intOf i).toNat)
    case atStart => exact ⟨0, 0, by omega, rfl, by simp, rfl⟩
    case round =>
      obtain ⟨k, d, hk, rfl, hsame, rfl⟩ := hrel
      have HS := Lib.hid hsame
      clear hsame
      by_cases hlt : k < l.length
      · obtain ⟨b, off, rfl, hb⟩ := HM.out.spot (by omega)
        have hc := fun (i : Nat) (hi : i < l.length) => HM.out.get hi
        obtain ⟨b', off', rfl, hb'⟩ := HM'.out.spot (by have := HLEN.out; omega)
        have hc' := fun (i : Nat) (hi : i < m.length) => HM'.out.get hi
        have hlt' : k < m.length := by have := HLEN.out; omega
        have hck := hc k hlt
        have hck' := hc' k hlt'
        have hi1 : (0 : Int) ≤ (k : Int) := by omega
        have hi2 : (k : Int) < (l.length : Int) := by omega
        have hi3 : (k : Int) < (m.length : Int) := by omega
        clear hc hc'
        have HT := Lib.hid (List.take_succ_eq_append_getElem hlt)
        have HT' := Lib.hid (List.take_succ_eq_append_getElem hlt')
        have HNE := Lib.hid (fun (h : l = m) => show l[k] = m[k] by subst h; rfl)
        generalize l[k] = x at hck HT HNE
        generalize m[k] = y at hck' HT' HNE
        by_cases hxy : x = y
        · have hq2 : (x != y) = false := by simpa using hxy
          have HXY := Lib.hid hxy
          clear hxy
          go_wp2_with fail
          go_quiet (fail)
          go_wp2_with fail
          exact ⟨⟨k + 1, d + nq, by omega, by go_num, by rw [HT.out, HT'.out, HS.out, HXY.out], rfl⟩, by simp [intOf]; omega⟩
        · have hq2 : (x != y) = true := by simpa using hxy
          have HD := Lib.hid (show decide (l = m) = false by simp; intro h; exact hxy (HNE.out h))
          go_wp2_with fail
          go_quiet (fail)
          go_wp2_with fail
          go_ret
          exact ⟨by rw [HD.out]; rfl, by first | exact Below.refl _ _ | exact below_drewN (Below.refl _ _) _ | exact below_drewN (below_drewN (Below.refl _ _) _) _⟩
      · obtain rfl : k = l.length := by omega
        have HD := Lib.hid (show decide (l = m) = true by
          have h := HS.out
          rw [List.take_length, HLEN.out, List.take_length] at h
          simpa using h)
        go_wp2_with fail
        go_ret
        exact ⟨by rw [HD.out]; rfl, by first | exact Below.refl _ _ | exact below_drewN (Below.refl _ _) _ | exact below_drewN (below_drewN (Below.refl _ _) _) _⟩
  · have hq : ((l.length : Int) != (m.length : Int)) = true := by simp; omega
    have HD := Lib.hid (show decide (l = m) = false by simp; intro h; exact hlen (by rw [h]))
    go_enter Try.func13, Try.ntmps13
    go_wp2_with fail
    go_ret
    exact ⟨by rw [HD.out]; rfl, Below.refl _ _⟩

end Go.Proofs.Ytkopkicdmbnpgaa
