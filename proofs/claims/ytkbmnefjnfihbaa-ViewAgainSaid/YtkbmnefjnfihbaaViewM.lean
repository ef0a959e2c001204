/-
  The walks of slices.Clone, rising, Rising. Conditions: the lists can be read.
-/
import Derived.Test.YtkbmnefjnfihbaaViewL
import Derived.Test.YtkbmnefjnfihbaaViewPlain5
namespace Go.Proofs.Ytkbmnefjnfihbaa
set_option linter.unusedVariables false
open Go.RowKit Adj

theorem Vw.own_base {w : World} {base base' : Nat} {v : Value} {n : Nat} {xs : List Value} {e : TypeId} (h : w.ownsRow base e 1 v n xs) (hb : base' ≤ base) : w.ownsRow base' e 1 v n xs := by
  refine ⟨h.1, ?_⟩
  rcases h.2 with h2 | ⟨g, cap, cur, h1, h2, h3⟩
  · exact .inl h2
  · exact .inr ⟨g, cap, cur, h1, by omega, h3⟩

theorem Vw.news {W : World} {B : Nat} {a : Addr} {l : List Int} (h : Vw.IntsAt W B (some a) l) : ∀ j u, (ints l)[j]? = some u → W.cell? (a.add j) = some u := by
  intro j u hu
  have hj : j < l.length := by
    rcases Nat.lt_or_ge j l.length with h2 | h2
    · exact h2
    · rw [List.getElem?_eq_none (by rw [ints_length]; exact h2)] at hu; cases hu
  obtain ⟨b, off, hA, _, hc⟩ := h (by omega)
  cases hA
  rw [Addr.add_lit]
  rw [ints_at l j hj] at hu
  rw [← hu]
  exact hc j hj
theorem Vw.ints_one (l : List Int) : ∀ u ∈ ints l, u.oneCell' = true := by
  intro u hu
  obtain ⟨x, _, rfl⟩ := List.mem_map.1 hu
  rfl
set_option maxHeartbeats 2000000 in
theorem Clone_any (A : Option Addr) (cap : Nat) (l : List Int) (B : Nat) (w : World) (hl : l.length ≤ 1000000) (hm : Vw.IntsAt w B A l) (hB : B ≤ w.heap.size) :
    Calls Try.prog 43 #[.slice A l.length cap] w fun e w' => ∃ v, e = .returned v ∧ w'.ownsRow w.heap.size 3 1 v l.length (ints l) ∧ Below w.heap.size w w' := by
  cases A with
  | none =>
    obtain rfl : l = [] := by
      rcases Nat.eq_zero_or_pos l.length with h | h
      · exact List.length_eq_zero_iff.1 h
      · obtain ⟨b, off, hA, _⟩ := hm h; cases hA
    clear hm
    have hnil := fun W => Lib.run_eql_slice_nil (P := Try.prog) W
    go_enter Try.func43, Try.ntmps43
    go_wp2_with fail
    go_ret
    exact ⟨_, rfl, World.ownsRow_nil _ _ _ _, Below.refl _ _⟩
  | some a =>
    obtain ⟨i0, hi, hz0, hz1, hz2⟩ := info_parts Try.infoOf3
    have HM := Lib.hid hm
    have hnil := fun W => Lib.run_eql_slice_nil (P := Try.prog) W
    clear hm
    go_enter Try.func43, Try.ntmps43
    go_wp2_with (at_builtin; refine wpList_append_own _ rfl _ _ 22 rfl w.heap.size 3 i0 (.int .i64 0) 1 8 Try.underlying22 hi hz0 hz1 hz2 rfl (by decide) _ _ _ rfl (Vw.own_nothing w 3) a l.length cap (ints l) rfl (by rw [ints_length, Nat.mul_one]) (Vw.news (HM.out.below (((Below.refl w.heap.size w).alloc (Nat.le_refl _) _).mono hB))) (Vw.ints_one l) (by unfold maxLen; omega) (by omega) (by simp) ?_)
    intro v' w1 hown' hgrow _
    have HF := Lib.hid (And.intro hown' (((Below.refl w.heap.size w).alloc (Nat.le_refl _) (.cells #[] 3)).grown hgrow (by simp) (fun k hk => by simp [Value.ownBlock] at hk; omega)))
    clear hown' hgrow
    go_wp2_with fail
    go_ret
    exact ⟨_, rfl, HF.out.1, HF.out.2⟩

set_option maxHeartbeats 1000000 in
theorem rising_any (A : Option Addr) (cap : Nat) (l : List Int) (n : Nat) (B : Nat) (w : World) (hl : l.length ≤ 9223372036854775807) (hn : n ≤ 9223372036854775807) (hm : Vw.IntsAt w B A l) :
    Calls Try.prog 50 #[.slice A l.length cap, .int .i64 (n : Int)] w fun e w' => e = .returned (.bool (AdjV.riseB n l)) ∧ w = w' := by
  have HM := Lib.hid hm
  clear hm
  go_enter Try.func50, Try.ntmps50
  go_wp2_with fail
  go_loop [5, 7, 10] (fun last _ i => ∃ k : Nat, k ≤ l.length ∧ i = .int .i64 (k : Int) ∧ last = .int .i64 (AdjV.prev l k) ∧ ∀ i (hi : i < l.length), i < k → AdjV.prev l i < l[i] ∧ l[i] < (n : Int)) (fun _ _ i => l.length + 1 - (intOf i).toNat)
  case atStart => exact ⟨0, by omega, rfl, rfl, fun i hi h => by omega⟩
  case round =>
    obtain ⟨k, hk, rfl, rfl, hin⟩ := hrel
    have HIN := Lib.hid hin
    clear hin
    by_cases hlt : k < l.length
    · obtain ⟨b, off, rfl, hb, hc⟩ := HM.out (by omega)
      have hck := hc k hlt
      have hi1 : (0 : Int) ≤ (k : Int) := by omega
      have hi2 : (k : Int) < (l.length : Int) := by omega
      clear hc
      have HP := Lib.hid (AdjV.prev_next l k hlt)
      have HBAD := Lib.hid (AdjV.riseB_bad (n := n) hlt)
      have HX := Lib.hid (fun (h : AdjV.prev l k < l[k] ∧ l[k] < (n : Int)) => show ∀ i (hi : i < l.length), i < k + 1 → AdjV.prev l i < l[i] ∧ l[i] < (n : Int) from fun i hi h2 => by
        by_cases e : i < k
        · exact HIN.out i hi e
        · obtain rfl : i = k := by omega
          exact h)
      generalize l[k] = x at hck HP HBAD HX
      generalize AdjV.prev l k = pv at HBAD HX
      by_cases hx1 : x ≤ pv
      · have HF := Lib.hid (HBAD.out (by omega))
        go_wp2_with fail
        go_ret
        exact ⟨by rw [HF.out]; rfl, rfl⟩
      by_cases hx2 : (n : Int) ≤ x
      · have HF := Lib.hid (HBAD.out (by omega))
        go_wp2_with fail
        go_ret
        exact ⟨by rw [HF.out]; rfl, rfl⟩
      have HN := Lib.hid (HX.out (by omega))
      go_wp2_with fail
      go_round
      case rel => exact ⟨k + 1, by omega, by go_num, by rw [HP.out], HN.out⟩
      case measure => simp [intOf]; omega
    · obtain rfl : k = l.length := by omega
      have HF := Lib.hid (AdjV.riseB_of (n := n) (fun i hi => HIN.out i hi hi))
      go_wp2_with fail
      go_ret
      exact ⟨by rw [HF.out]; rfl, rfl⟩

set_option maxHeartbeats 1000000 in
theorem Rising_any (A : Option Addr) (cap : Nat) (l : List Int) (n : Nat) (B : Nat) (w : World) (hl : l.length ≤ 9223372036854775807) (hn : n ≤ 9223372036854775807) (hm : Vw.IntsAt w B A l) :
    Calls Try.prog 52 #[.slice A l.length cap, .int .i64 (n : Int)] w fun e w' => e = .returned (.bool (AdjV.riseB n l)) ∧ w = w' := by
  have HM := Lib.hid hm
  clear hm
  go_enter Try.func52, Try.ntmps52
  go_wp2_with fail
  go_loop [5, 6, 9] (fun _ _ i => ∃ k : Nat, k ≤ l.length ∧ i = .int .i64 (k : Int) ∧ ∀ i (hi : i < l.length), i < k → AdjV.prev l i < l[i] ∧ l[i] < (n : Int)) (fun _ _ i => l.length + 1 - (intOf i).toNat)
  case atStart => exact ⟨0, by omega, rfl, fun i hi h => by omega⟩
  case round =>
    obtain ⟨k, hk, rfl, hin⟩ := hrel
    have HIN := Lib.hid hin
    clear hin
    by_cases hlt : k < l.length
    · obtain ⟨b, off, rfl, hb, hc⟩ := HM.out (by omega)
      have hck := hc k hlt
      have hi1 : (0 : Int) ≤ (k : Int) := by omega
      have hi2 : (k : Int) < (l.length : Int) := by omega
      have HBAD := Lib.hid (AdjV.riseB_bad (n := n) hlt)
      have HX := Lib.hid (fun (h : AdjV.prev l k < l[k] ∧ l[k] < (n : Int)) => show ∀ i (hi : i < l.length), i < k + 1 → AdjV.prev l i < l[i] ∧ l[i] < (n : Int) from fun i hi h2 => by
        by_cases e : i < k
        · exact HIN.out i hi e
        · obtain rfl : i = k := by omega
          exact h)
      cases k with
      | zero =>
        rw [AdjV.prev_zero] at HBAD HX
        clear hc
        generalize l[0] = x at hck HBAD HX
        rw [Nat.add_zero] at hck
        have hpos : 0 < l.length := hlt
        by_cases hx1 : x < 0
        · have HF := Lib.hid (HBAD.out (by omega))
          go_wp2_with fail
          go_ret
          exact ⟨by rw [HF.out]; rfl, rfl⟩
        by_cases hx2 : (n : Int) ≤ x
        · have HF := Lib.hid (HBAD.out (by omega))
          go_wp2_with fail
          go_ret
          exact ⟨by rw [HF.out]; rfl, rfl⟩
        have HN := Lib.hid (HX.out (by omega))
        go_wp2_with fail
        go_round
        case rel => exact ⟨1, by omega, by go_num, HN.out⟩
        case measure => (simp [intOf] <;> omega)
      | succ k =>
        have hc1 := hc k (by omega)
        have hpv := AdjV.rise_pos_to HIN.out k (by omega) (by omega)
        rw [AdjV.prev_next l k (by omega)] at HBAD HX
        clear hc
        generalize l[k]'(by omega) = pv at hc1 HBAD HX hpv
        generalize l[k + 1] = x at hck HBAD HX
        have hi3 : (0 : Int) < (k : Int) + 1 := by omega
        have hi4 : (k : Int) < (l.length : Int) := by omega
        have hi5 : (0 : Int) ≤ (k : Int) := by omega
        have hw : IntKind.i64.wrap ((k : Int) + 1 - 1) = (k : Int) := by rw [show (k : Int) + 1 - 1 = (k : Int) by omega]; exact IntWalk.i64_in _ (by omega)
        by_cases hx1 : x < 0
        · have HF := Lib.hid (HBAD.out (by omega))
          go_wp2_with fail
          go_ret
          exact ⟨by rw [HF.out]; rfl, rfl⟩
        by_cases hx2 : (n : Int) ≤ x
        · have HF := Lib.hid (HBAD.out (by omega))
          go_wp2_with fail
          go_ret
          exact ⟨by rw [HF.out]; rfl, rfl⟩
        by_cases hx3 : x ≤ pv
        · have HF := Lib.hid (HBAD.out (by omega))
          go_wp2_with fail
          go_ret
          exact ⟨by rw [HF.out]; rfl, rfl⟩
        have HN := Lib.hid (HX.out (by omega))
        go_wp2_with fail
        go_round
        case rel => exact ⟨k + 1 + 1, by omega, by go_num, HN.out⟩
        case measure => (simp [intOf] <;> omega)
    · obtain rfl : k = l.length := by omega
      have HF := Lib.hid (AdjV.riseB_of (n := n) (fun i hi => HIN.out i hi hi))
      go_wp2_with fail
      go_ret
      exact ⟨by rw [HF.out]; rfl, rfl⟩
end Go.Proofs.Ytkbmnefjnfihbaa
