/-
  The walks of the reference's has, Steps, Lies. Conditions: the lists can be read; the dimensions are right.
-/
import Derived.Test.YtkbmnefjnfihbaaViewB
import Derived.OwnWalk
import Derived.Maps.AppendAt
import Derived.Deep.AppendLies
namespace Go.Proofs.Ytkbmnefjnfihbaa
set_option linter.unusedVariables false
open Go.RowKit Adj

theorem Try.infoOf3 : (Try.prog.info? 3).map (fun i => (i.zero, i.size, i.bytes)) = some (some (.int .i64 0), 1, 8) := by kernel_rfl

namespace Vw
theorem IntsAt.of_own {w : World} {base : Nat} {A : Option Addr} {n c : Nat} {l : List Int} (h : w.ownsRow base 3 1 (.slice A n c) n (ints l)) : n = l.length ∧ IntsAt w w.heap.size A l := by
  have hn : l.length = n := by have := h.1; rw [ints_length] at this; omega
  refine ⟨hn.symm, fun hp => ?_⟩
  obtain ⟨g, cap, hv, _, hlt⟩ := h.form (by omega)
  injection hv with hA
  subst hA
  refine ⟨g, 0, rfl, hlt, fun i hi => ?_⟩
  have := h.cells (g := g) rfl i _ (ints_at l i hi)
  rw [Addr.add_lit] at this
  exact this
theorem own_any {w : World} {base : Nat} {e : TypeId} {v : Value} {n : Nat} {xs : List Value} (h : w.ownsRow base e 1 v n xs) : ∃ A c, v = .slice A n c ∧ n ≤ c := by
  rcases h.2 with ⟨rfl, rfl⟩ | ⟨g, cap, cur, rfl, _, _, h, _⟩
  · exact ⟨_, _, rfl, Nat.le_refl _⟩
  · exact ⟨_, _, rfl, h⟩
theorem ints_snoc (l : List Int) (x : Int) : ints (l ++ [x]) = ints l ++ [.int .i64 x] := by simp [ints]
theorem ints_take_next (l : List Int) (k : Nat) (h : k < l.length) : ints (l.take (k + 1)) = ints (l.take k) ++ [.int .i64 l[k]] := by rw [AdjV.take_next l k h, ints_snoc]
theorem put_end {w wm w1 : World} {k : Nat} {l : List Int} {x : Int} {v v' : Value} {o : Obj} (hb : Below w.heap.size w wm) (hown : wm.ownsRow w.heap.size 3 1 v k (ints (l.take k))) (hk : k < l.length) (hx : l[k] = x)
    (hown' : w1.ownsRow w.heap.size 3 1 v' (k + 1) (ints (l.take k) ++ [.int .i64 x])) (hg : (wm.alloc o).grownBy w1 v.ownBlock) :
    w1.ownsRow w.heap.size 3 1 v' (k + 1) (ints (l.take (k + 1))) ∧ Below w.heap.size w w1 := by
  subst hx
  refine ⟨by rw [ints_take_next l k hk]; exact hown', ?_⟩
  exact (hb.alloc hb.size o).grown hg (by have := hb.size; simp; omega) (fun q hq => (hown.lt q hq).1)
theorem own_nothing (w : World) (e : TypeId) : (w.alloc (.cells #[] e)).ownsRow w.heap.size e 1 (.slice (some ⟨w.heap.size, 0, none⟩) 0 0) 0 [] := World.ownsRow_made w #[] 0 (Nat.le_refl _) (by unfold maxLen; omega) rfl
theorem part_bound {l : List Int} (h : (AdjV.size l).2 = 0) {k j : Nat} : 0 ≤ AdjV.prod ((l.drop (k + 1)).take j) ∧ AdjV.prod ((l.drop (k + 1)).take j) ≤ 1152921504606846976 := by
  obtain ⟨z1, z2, _⟩ := AdjV.size_fine h
  have h1 := AdjV.prod_pow ((l.drop (k + 1)).take j) (fun d hd => z2 d (List.mem_of_mem_drop (List.mem_of_mem_take hd)))
  have h2 := AdjV.pow_five ((l.drop (k + 1)).take j).length (by
    have := List.length_take_le' j (l.drop (k + 1))
    rw [List.length_drop] at this
    omega)
  omega
theorem part_next (l : List Int) (k j : Nat) (h : k + 1 + j < l.length) : AdjV.prod ((l.drop (k + 1)).take (j + 1)) = AdjV.prod ((l.drop (k + 1)).take j) * l[k + 1 + j] := by
  rw [AdjV.take_next _ j (by rw [List.length_drop]; omega), AdjV.prod_snoc, List.getElem_drop]
theorem steps_next {l : List Int} {k : Nat} (h : k < l.length) : (AdjV.steps l)[k]'(by rw [AdjV.steps_length]; exact h) = if (0 : Int) ∈ l then 0 else AdjV.prod (l.drop (k + 1)) := AdjV.steps_at l k _
end Vw

set_option maxHeartbeats 1000000 in
theorem has_any (A : Option Addr) (cap : Nat) (l : List Int) (x : Int) (B : Nat) (w : World) (hl : l.length ≤ 9223372036854775807) (hm : Vw.IntsAt w B A l) :
    Calls Try.prog 49 #[.slice A l.length cap, .int .i64 x] w fun e w' => e = .returned (.bool (decide (x ∈ l))) ∧ w = w' := by
  have HM := Lib.hid hm
  clear hm
  go_enter Try.func49, Try.ntmps49
  go_wp2_with fail
  go_loop [6, 9] (fun _ i => ∃ k : Nat, k ≤ l.length ∧ i = .int .i64 (k : Int) ∧ x ∉ l.take k) (fun _ i => l.length + 1 - (intOf i).toNat)
  case atStart => exact ⟨0, by omega, rfl, by simp⟩
  case round =>
    obtain ⟨k, hk, rfl, hno⟩ := hrel
    have HNO := Lib.hid hno
    clear hno
    by_cases hlt : k < l.length
    · obtain ⟨b, off, rfl, hb, hc⟩ := HM.out (by omega)
      have hck := hc k hlt
      have hi1 : (0 : Int) ≤ (k : Int) := by omega
      have hi2 : (k : Int) < (l.length : Int) := by omega
      clear hc
      have HT := Lib.hid (AdjV.take_next l k hlt)
      have HIN := Lib.hid (List.getElem_mem hlt)
      generalize l[k] = y at hck HT HIN
      by_cases hxy : y = x
      · have hq : (y == x) = true := by simpa using hxy
        have HD := Lib.hid (show decide (x ∈ l) = true by simpa using hxy ▸ HIN.out)
        clear hxy
        go_wp2_with fail
        go_ret
        exact ⟨by rw [HD.out]; rfl, rfl⟩
      · have hq : (y == x) = false := by simpa using hxy
        have HN := Lib.hid (show x ∉ l.take (k + 1) by
          rw [HT.out, List.mem_append, List.mem_singleton]
          rintro (h | h)
          · exact HNO.out h
          · exact hxy h.symm)
        clear hxy
        go_wp2_with fail
        go_round
        case rel => exact ⟨k + 1, by omega, by go_num, HN.out⟩
        case measure => simp [intOf]; omega
    · obtain rfl : k = l.length := by omega
      have HD := Lib.hid (show decide (x ∈ l) = false by have := HNO.out; rw [List.take_length] at this; simpa using this)
      go_wp2_with fail
      go_ret
      exact ⟨by rw [HD.out]; rfl, rfl⟩

set_option maxRecDepth 100000 in
set_option maxHeartbeats 2000000 in
theorem Steps_any (A : Option Addr) (cap : Nat) (l : List Int) (B : Nat) (w : World) (hcap : l.length ≤ cap) (hcap2 : cap ≤ 9223372036854775807) (h0 : (AdjV.size l).2 = 0) (hm : Vw.IntsAt w B A l) (hB : B ≤ w.heap.size) :
    Calls Try.prog 41 #[.slice A l.length cap] w fun e w' => ∃ v, e = .returned v ∧ w'.ownsRow w.heap.size 3 1 v l.length (ints (AdjV.steps l)) ∧ Below w.heap.size w w' := by
  obtain ⟨i0, hi, hz0, hz1, hz2⟩ := info_parts Try.infoOf3
  obtain ⟨z1, z2, z3, z4, z5⟩ := AdjV.size_fine h0
  have HM := Lib.hid hm
  have HZ := Lib.hid z2
  clear hm z2 z3
  go_enter Try.func41, Try.ntmps41
  go_wp2_with fail
  go_loopw [3, 4, 11] (fun v _ i wr => ∃ k : Nat, k ≤ l.length ∧ i = .int .i64 (k : Int) ∧ wr.ownsRow w.heap.size 3 1 v k (ints ((AdjV.steps l).take k)) ∧ Below w.heap.size w wr) (fun _ _ i _ => l.length + 1 - (intOf i).toNat)
  case atStart => exact ⟨0, by omega, rfl, by simpa [ints] using Vw.own_nothing w _, (Below.refl _ _).alloc (Nat.le_refl _) _⟩
  case round =>
    obtain ⟨k, hk, rfl, hown, hbel⟩ := hrel
    obtain ⟨wo, rfl⟩ : ∃ wo : World, wo = wr := ⟨_, rfl⟩
    by_cases hlt : k < l.length
    · obtain ⟨b, off, rfl, hb, hc⟩ := HM.out (by omega)
      have hi1 : (0 : Int) ≤ (k : Int) := by omega
      have hi2 : (k : Int) + 1 ≤ (l.length : Int) := by omega
      have HC := Lib.hid hc
      have HOWN := Lib.hid hown
      clear hc hown
      have hd0 : decide ((k : Int) < (l.length : Int)) = true := by simp; omega
      by_cases hce : cap = k + 1
      · have hce' : (cap = k + 1) = True := eq_true hce
        have HCE := Lib.hid hce
        clear hce
        go_wp2_with fail
        go_loop [5, 7, 19] (fun v _ i => ∃ (j : Nat) (n : Int), j ≤ l.length - (k + 1) ∧ i = .int .i64 (j : Int) ∧ v = .int .i64 n ∧ n = AdjV.prod ((l.drop (k + 1)).take j)) (fun _ _ i => l.length + 1 - (intOf i).toNat)
        case atStart => exact ⟨0, 1, by omega, rfl, rfl, by simp [AdjV.prod]⟩
        case round =>
          obtain ⟨j, n, hj, rfl, rfl, hn⟩ := hrel
          have hnb := Vw.part_bound h0 (k := k) (j := j)
          rw [← hn] at hnb
          have HN := Lib.hid hn
          clear hn
          by_cases hjl : j < l.length - (k + 1)
          · exfalso; have := HCE.out; omega
          · obtain rfl : j = l.length - (k + 1) := by omega
            have hns := HN.out
            rw [List.take_of_length_le (by rw [List.length_drop]; omega)] at hns
            have HS := Lib.hid (Vw.steps_next (l := l) (k := k) hlt)
            by_cases hz : (0 : Int) ∈ l
            · have HH := Lib.hid (fun (W : World) (c : Nat) (h : Vw.IntsAt W B (some ⟨b, off, none⟩) l) => has_any (some ⟨b, off, none⟩) c l 0 B W (by omega) h)
              have hdz : decide ((0 : Int) ∈ l) = true := by simpa using hz
              have HD := Lib.hid hdz
              have HX := Lib.hid (HS.out.trans (if_pos hz))
              clear hdz hz hns
              go_wp2_with fail
              refine (HH.out _ _ (HM.out.below (hbel.mono hB))).mono ?_
              rintro e w1 ⟨rfl, rfl⟩
              rw [HD.out]
              go_wp2_with (at_builtin; refine wpList_append_own _ rfl _ _ 22 rfl w.heap.size 3 i0 (.int .i64 0) 1 8 Try.underlying22 hi hz0 hz1 hz2 rfl (by decide) _ _ _ rfl (HOWN.out.alloc _) ⟨wo.heap.size, 0, none⟩ 1 1 [.int .i64 0] rfl rfl (cell_one_new _ _ _) (one_one _ _) (by unfold maxLen; omega) (by omega) (by have := hbel.size; simp; omega) ?_)
              intro v' w1 hown' hgrow _
              have H2 := Lib.hid (Vw.put_end hbel HOWN.out (by rw [AdjV.steps_length]; exact hlt) HX.out hown' hgrow)
              clear hown' hgrow
              go_wp2_with fail
              first
                | exact ⟨⟨k + 1, by omega, by go_num, H2.out.1, H2.out.2⟩, by simp [intOf]; omega⟩
                | (go_roundw
                   case rel => exact ⟨k + 1, by omega, by go_num, H2.out.1, H2.out.2⟩
                   case measure => simp [intOf]; omega)
            · have HH := Lib.hid (fun (W : World) (c : Nat) (h : Vw.IntsAt W B (some ⟨b, off, none⟩) l) => has_any (some ⟨b, off, none⟩) c l 0 B W (by omega) h)
              have hdz : decide ((0 : Int) ∈ l) = false := by simpa using hz
              have HD := Lib.hid hdz
              have HX := Lib.hid ((HS.out.trans (if_neg hz)).trans hns.symm)
              clear hdz hz hns
              go_wp2_with fail
              refine (HH.out _ _ (HM.out.below (hbel.mono hB))).mono ?_
              rintro e w1 ⟨rfl, rfl⟩
              rw [HD.out]
              go_wp2_with (at_builtin; refine wpList_append_own _ rfl _ _ 22 rfl w.heap.size 3 i0 (.int .i64 0) 1 8 Try.underlying22 hi hz0 hz1 hz2 rfl (by decide) _ _ _ rfl (HOWN.out.alloc _) ⟨wo.heap.size, 0, none⟩ 1 1 [.int .i64 n] rfl rfl (cell_one_new _ _ _) (one_one _ _) (by unfold maxLen; omega) (by omega) (by have := hbel.size; simp; omega) ?_)
              intro v' w1 hown' hgrow _
              have H2 := Lib.hid (Vw.put_end hbel HOWN.out (by rw [AdjV.steps_length]; exact hlt) HX.out hown' hgrow)
              clear hown' hgrow
              go_wp2_with fail
              first
                | exact ⟨⟨k + 1, by omega, by go_num, H2.out.1, H2.out.2⟩, by simp [intOf]; omega⟩
                | (go_roundw
                   case rel => exact ⟨k + 1, by omega, by go_num, H2.out.1, H2.out.2⟩
                   case measure => simp [intOf]; omega)
      · go_wp2_with fail
        go_loop [5, 7, 19] (fun v _ i => ∃ (j : Nat) (n : Int), j ≤ l.length - (k + 1) ∧ i = .int .i64 (j : Int) ∧ v = .int .i64 n ∧ n = AdjV.prod ((l.drop (k + 1)).take j)) (fun _ _ i => l.length + 1 - (intOf i).toNat)
        case atStart => exact ⟨0, 1, by omega, rfl, rfl, by simp [AdjV.prod]⟩
        case round =>
          obtain ⟨j, n, hj, rfl, rfl, hn⟩ := hrel
          have hnb := Vw.part_bound h0 (k := k) (j := j)
          rw [← hn] at hnb
          have HN := Lib.hid hn
          clear hn
          by_cases hjl : j < l.length - (k + 1)
          · have hck := HC.out (k + 1 + j) (by omega)
            rw [← Nat.add_assoc] at hck
            replace hck := (hbel.cell (p := ⟨b, off + (k + 1) + j, none⟩) (Nat.lt_of_lt_of_le hb hB)).trans hck
            have hnb2 := Vw.part_bound h0 (k := k) (j := j + 1)
            have HT := Lib.hid (Vw.part_next l k j (by omega))
            have hj1 : (0 : Int) ≤ (j : Int) := by omega
            have hj2 : (j : Int) < ((l.length - (k + 1) : Nat) : Int) := by omega
            rw [HT.out, ← HN.out] at hnb2
            generalize l[k + 1 + j]'(by omega) = d at hck HT hnb2
            go_wp2_with fail
            go_round
            case rel => exact ⟨j + 1, n * d, by omega, by go_num, rfl, by rw [HT.out, ← HN.out]⟩
            case measure => (simp [intOf] <;> omega)
          · obtain rfl : j = l.length - (k + 1) := by omega
            have hns := HN.out
            rw [List.take_of_length_le (by rw [List.length_drop]; omega)] at hns
            have HS := Lib.hid (Vw.steps_next (l := l) (k := k) hlt)
            by_cases hz : (0 : Int) ∈ l
            · have HH := Lib.hid (fun (W : World) (c : Nat) (h : Vw.IntsAt W B (some ⟨b, off, none⟩) l) => has_any (some ⟨b, off, none⟩) c l 0 B W (by omega) h)
              have hdz : decide ((0 : Int) ∈ l) = true := by simpa using hz
              have HD := Lib.hid hdz
              have HX := Lib.hid (HS.out.trans (if_pos hz))
              clear hdz hz hns
              go_wp2_with fail
              refine (HH.out _ _ (HM.out.below (hbel.mono hB))).mono ?_
              rintro e w1 ⟨rfl, rfl⟩
              rw [HD.out]
              go_wp2_with (at_builtin; refine wpList_append_own _ rfl _ _ 22 rfl w.heap.size 3 i0 (.int .i64 0) 1 8 Try.underlying22 hi hz0 hz1 hz2 rfl (by decide) _ _ _ rfl (HOWN.out.alloc _) ⟨wo.heap.size, 0, none⟩ 1 1 [.int .i64 0] rfl rfl (cell_one_new _ _ _) (one_one _ _) (by unfold maxLen; omega) (by omega) (by have := hbel.size; simp; omega) ?_)
              intro v' w1 hown' hgrow _
              have H2 := Lib.hid (Vw.put_end hbel HOWN.out (by rw [AdjV.steps_length]; exact hlt) HX.out hown' hgrow)
              clear hown' hgrow
              go_wp2_with fail
              first
                | exact ⟨⟨k + 1, by omega, by go_num, H2.out.1, H2.out.2⟩, by simp [intOf]; omega⟩
                | (go_roundw
                   case rel => exact ⟨k + 1, by omega, by go_num, H2.out.1, H2.out.2⟩
                   case measure => simp [intOf]; omega)
            · have HH := Lib.hid (fun (W : World) (c : Nat) (h : Vw.IntsAt W B (some ⟨b, off, none⟩) l) => has_any (some ⟨b, off, none⟩) c l 0 B W (by omega) h)
              have hdz : decide ((0 : Int) ∈ l) = false := by simpa using hz
              have HD := Lib.hid hdz
              have HX := Lib.hid ((HS.out.trans (if_neg hz)).trans hns.symm)
              clear hdz hz hns
              go_wp2_with fail
              refine (HH.out _ _ (HM.out.below (hbel.mono hB))).mono ?_
              rintro e w1 ⟨rfl, rfl⟩
              rw [HD.out]
              go_wp2_with (at_builtin; refine wpList_append_own _ rfl _ _ 22 rfl w.heap.size 3 i0 (.int .i64 0) 1 8 Try.underlying22 hi hz0 hz1 hz2 rfl (by decide) _ _ _ rfl (HOWN.out.alloc _) ⟨wo.heap.size, 0, none⟩ 1 1 [.int .i64 n] rfl rfl (cell_one_new _ _ _) (one_one _ _) (by unfold maxLen; omega) (by omega) (by have := hbel.size; simp; omega) ?_)
              intro v' w1 hown' hgrow _
              have H2 := Lib.hid (Vw.put_end hbel HOWN.out (by rw [AdjV.steps_length]; exact hlt) HX.out hown' hgrow)
              clear hown' hgrow
              go_wp2_with fail
              first
                | exact ⟨⟨k + 1, by omega, by go_num, H2.out.1, H2.out.2⟩, by simp [intOf]; omega⟩
                | (go_roundw
                   case rel => exact ⟨k + 1, by omega, by go_num, H2.out.1, H2.out.2⟩
                   case measure => simp [intOf]; omega)
    · obtain rfl : k = l.length := by omega
      go_wp2_with fail
      go_ret
      have hst := hown
      rw [List.take_of_length_le (by rw [AdjV.steps_length]; omega)] at hst
      exact ⟨_, rfl, hst, hbel⟩

end Go.Proofs.Ytkbmnefjnfihbaa
