/-
  The walk of the reference's Lies, whatever the steps are: what it reckons goes round at 2 to the 64. Conditions: the lists can be read.
-/
import Derived.Test.YtkbmnefjnfihbaaViewV
namespace Go.Proofs.Ytkbmnefjnfihbaa
set_option linter.unusedVariables false
open Go.RowKit Adj

theorem Vw.liesW_next (x s a y : Int) (h : y = x + a * s) : wrap64 (AdjV.w64 x + wrap64 (a * s)) = AdjV.w64 y := by
  subst h
  generalize a * s = p
  unfold AdjV.w64 wrap64
  omega
theorem Vw.w64_i64 (x : Int) : -9223372036854775808 ≤ AdjV.w64 x ∧ AdjV.w64 x ≤ 9223372036854775807 := by unfold AdjV.w64; omega

set_option maxHeartbeats 2000000 in
theorem LiesW_any (st : Int) (dv : Value) (A A' : Option Addr) (cap cap' : Nat) (l m : List Int) (B : Nat) (w : World) (hB : B ≤ w.heap.size) (hlm : m.length = l.length) (hl6 : l.length ≤ 6) (hm : Vw.IntsAt w B A l) (hm' : Vw.IntsAt w B A' m)
    (hs : -9223372036854775808 ≤ st ∧ st ≤ 9223372036854775807) :
    Calls Try.prog 40 #[.agg #[.int .i64 st, dv, .slice A l.length cap], .slice A' m.length cap'] w fun e w' => e = .returned (.int .i64 (AdjV.w64 (st + AdjV.dot m l))) ∧ Below w.heap.size w w' := by
  have HM := Lib.hid (hm.below (((Below.refl _ _).alloc (Nat.le_refl _) (.cells #[.int .i64 st, dv, .slice A l.length cap] 34)).mono hB))
  have HM' := Lib.hid (hm'.below (((Below.refl _ _).alloc (Nat.le_refl _) (.cells #[.int .i64 st, dv, .slice A l.length cap] 34)).mono hB))
  have H0 := Lib.hid (show AdjV.w64 (st + AdjV.dot (m.take 0) (l.take 0)) = st by simp [AdjV.dot]; exact AdjV.w64_in hs)
  have HLM := Lib.hid hlm
  have hlm' : m.length ≤ l.length := by omega
  have hm6 : m.length ≤ 6 := by omega
  clear hm hm' hlm
  go_enter Try.func40, Try.ntmps40
  go_wp2_with fail
  have HB := Lib.hid (Blk.new w 34 #[.int .i64 st, dv, .slice A l.length cap])
  go_loopw [5, 12] (fun n i wr => ∃ k : Nat, k ≤ m.length ∧ i = .int .i64 (k : Int) ∧ n = .int .i64 (AdjV.w64 (st + AdjV.dot (m.take k) (l.take k))) ∧ ∃ q, wr = (w.alloc (.cells #[.int .i64 st, dv, .slice A l.length cap] 34)).drewN q) (fun _ i _ => m.length + 1 - (intOf i).toNat)
  case atStart => exact ⟨0, by omega, rfl, by rw [H0.out], 0, rfl⟩
  case round =>
    obtain ⟨k, hk, rfl, rfl, q, rfl⟩ := hrel
    by_cases hlt : k < m.length
    · obtain ⟨b, off, rfl, hb, hc⟩ := HM.out (by omega)
      obtain ⟨b', off', rfl, hb', hc'⟩ := HM'.out (by omega)
      have hck := hc k (by omega)
      have hck' := hc' k hlt
      have hi1 : (0 : Int) ≤ (k : Int) := by omega
      have hi2 : (k : Int) < (l.length : Int) := by omega
      have hi3 : (k : Int) < (m.length : Int) := by omega
      have HT := Lib.hid (AdjV.dot_next (m := m) (l := l) hlt (by omega))
      have hbx := (HB.out.drewN q).cell 2
      clear hc hc'
      generalize l[k] = s at hck HT
      generalize m[k] = a at hck' HT
      have HN := Lib.hid (Vw.liesW_next (st + AdjV.dot (m.take k) (l.take k)) s a (st + AdjV.dot (m.take (k + 1)) (l.take (k + 1))) (by rw [HT.out, Int.add_assoc]))
      go_wp2_with fail
      first
        | exact ⟨⟨k + 1, by omega, by go_num, by rw [← HN.out], q, rfl⟩, by simp [intOf]; omega⟩
        | exact ⟨⟨k + 1, by omega, by go_num, by rw [← HN.out], q + 1, rfl⟩, by simp [intOf]; omega⟩
    · obtain rfl : k = m.length := by omega
      go_wp2_with fail
      go_ret
      refine ⟨?_, below_drewN ((Below.refl _ _).alloc (Nat.le_refl _) _) q⟩
      rw [List.take_length, AdjV.dot_take m l hlm']
      rfl
end Go.Proofs.Ytkbmnefjnfihbaa
