/-
  The walk of slices.symMergeCmpFunc where one run is a single number. Conditions: the row can be written; what is asked answers by a key; both runs are in order.
-/
import Derived.Test.YtkopkicdmbnpgaaSortC
namespace Go.Proofs.Ytkopkicdmbnpgaa
set_option linter.unusedVariables false
open Go.RowKit Adj

set_option maxRecDepth 100000 in
set_option maxHeartbeats 8000000 in
theorem symMerge_left (w W : World) (g cap fK : Nat) (cc : Array Value) (key : Int → Int) (dom : Int → Prop) (P R Q : List Int) (x : Int) (a m b : Nat) (mn : Nat) (ha : a = P.length) (hm : m = P.length + 1) (hb : b = P.length + 1 + R.length) (hn : mn = P.length + 1 + R.length + Q.length) (hbig : mn ≤ 2305843009213693952)
    (hc : Sr.CmpOk w g fK cc key dom) (hdx : dom x) (hd : ∀ y ∈ R, dom y) (hsr : AdjS.Srt key R) (hx : ∀ y ∈ R, x < y) (h : Sr.Ro w g (P ++ ([x] ++ (R ++ Q))) W) :
    Calls Try.prog 68 #[.slice (some ⟨g, 0, none⟩) mn cap, .int .i64 (a : Int), .int .i64 (m : Int), .int .i64 (b : Int), .func (.func fK) #[] cc] W (Sr.Merged w g key P ([x] ++ R) Q) := by
  have hcf := hc.1
  have HCM := Lib.hid hc.2
  have HDO := Lib.hid (And.intro hdx hd)
  have HSR := Lib.hid hsr
  have HX := Lib.hid hx
  obtain ⟨d, hdd⟩ : ∃ d, P ++ ([x] ++ (R ++ Q)) = d := ⟨_, rfl⟩
  rw [hdd] at h
  have HS := Lib.hid h
  have HDD := Lib.hid hdd
  have HA := Lib.hid (And.intro ha (And.intro hm (And.intro hb hn)))
  have h1 : m = a + 1 := by omega
  have h2 : m ≤ b := by omega
  have h3 : b ≤ mn := by omega
  have HDL := Lib.hid (show d.length = mn by rw [← hdd]; simp only [List.length_append, List.length_cons, List.length_nil]; omega)
  have q0 : ((m : Int) - (a : Int)) = 1 := by omega
  clear h ha hm hb hn hc hd hdx hsr hx hdd
  have HH1 := Lib.hid h1
  have h4 : a < m := by omega
  have h5 : m ≤ a + 1 := by omega
  clear h1
  go_enter Try.func68, Try.ntmps68
  go_wp2_with fail
  clear q0
  go_loopw [10, 11] (fun iv jv wr => ∃ i j : Nat, iv = .int .i64 (i : Int) ∧ jv = .int .i64 (j : Int) ∧ (m ≤ i ∧ i ≤ j ∧ j ≤ b) ∧ (∀ y ∈ R.take (i - m), AdjS.lt key y x) ∧ (∀ y ∈ R.drop (j - m), AdjS.lt key x y) ∧ Sr.Ro w g d wr) (fun iv jv _ => (intOf jv).toNat - (intOf iv).toNat)
  case atStart => exact ⟨m, b, rfl, rfl, by omega, by rw [Nat.sub_self]; simp, by rw [List.drop_eq_nil_of_le (by have := HA.out; omega)]; simp, HS.out⟩
  case round =>
    obtain ⟨i, j, rfl, rfl, ⟨g1, g2, g3⟩, hi1, hj1, hr⟩ := hrel
    have HIJ := Lib.hid (And.intro hi1 hj1)
    have HR := Lib.hid hr
    clear hi1 hj1 hr
    by_cases hlt : i < j
    · obtain ⟨c, hc⟩ : ∃ c : Nat, ((i : Int) + (j : Int)) / 2 = (c : Int) := ⟨((i + j) / 2 : Nat), by omega⟩
      have hc1 : i ≤ c := by omega
      have hc2 : c < j := by omega
      have i1 : (c : Int) < (mn : Int) := by omega
      have i2 : (a : Int) < (mn : Int) := by omega
      have c1 := HR.out.getD (j := c) (by rw [HDL.out]; omega)
      have c2 := HR.out.getD (j := a) (by rw [HDL.out]; omega)
      have hcR : c - m < R.length := by have := HA.out; omega
      obtain ⟨y, hy⟩ : ∃ y, R[c - m] = y := ⟨_, rfl⟩
      have HYX := Lib.hid (show d.getD c 0 = y ∧ d.getD a 0 = x from by
        have hA := HA.out
        rw [← HDD.out]
        constructor
        · rw [AdjS.getD_right (L := [x]) (by simp; omega) (by simp; omega), ← hy]
          congr 1
          simp; omega
        · rw [AdjS.getD_left (L := [x]) (by omega) (by simp; omega)]
          simp)
      rw [HYX.out.1] at c1
      rw [HYX.out.2] at c2
      have hyR : y ∈ R := by rw [← hy]; exact List.getElem_mem _
      have HCC := Lib.hid (fun W (hf : Sr.Fr w W g) => HCM.out y x (HDO.out.2 y hyR) HDO.out.1 W hf)
      have hxy := HX.out y hyR
      obtain ⟨rr, hr0⟩ : ∃ r, AdjS.cmp3 (key y) (key x) = r := ⟨_, rfl⟩
      rw [hr0] at HCC
      have HRK := Lib.hid (show rr < 0 ↔ key y < key x by rw [← hr0]; exact AdjS.cmp3_neg)
      have HY := Lib.hid hy
      clear hr0 hy hyR
      go_upto_region 5 with (fail)
      clear hc
      refine wp_region_T (fun w' => w'.cell? ⟨g, c, none⟩ = some (.int .i64 y) ∧ w'.cell? ⟨g, a, none⟩ = some (.int .i64 x)) 9 (fun _ => True) 9 11 rfl (by kernel_rfl) ⟨⟨c1, c2⟩, trivial⟩ (fun hHeld => ?_)
      simp only [List.replicate_succ, List.replicate_zero]
      refine wpT_takeC [] 0 40 (v := ?_) hHeld.1 hHeld.2 rfl rfl (by kernel_rfl) (fun _ _ _ h => h) (yields_yes rfl ?_) ?_
      rotate_left
      · (intro w hSw; (try dsimp only at hSw); go_simp; try with_reducible rfl)
      try simp only [Act.put, List.setIfInBounds_toArray, List.set_cons_zero, List.set_cons_succ]
      refine wpT_takeC [3, 4] 1 41 (v := ?_) hHeld.1 hHeld.2 rfl rfl (by kernel_rfl) (fun _ _ _ h => h) (yields_yes rfl ?_) ?_
      rotate_left
      · (intro w hSw; (try dsimp only at hSw); go_simp; try with_reducible rfl)
      try simp only [Act.put, List.setIfInBounds_toArray, List.set_cons_zero, List.set_cons_succ]
      refine wpT_takeC [3, 4] 2 42 (v := ?_) hHeld.1 hHeld.2 rfl rfl (by kernel_rfl) (fun _ _ _ h => h) (yields_yes rfl ?_) ?_
      rotate_left
      · (intro w hSw; (try dsimp only at hSw); go_simp; try with_reducible rfl)
      try simp only [Act.put, List.setIfInBounds_toArray, List.set_cons_zero, List.set_cons_succ]
      refine wpT_takeC [4] 3 43 (v := ?_) hHeld.1 hHeld.2 rfl rfl (by kernel_rfl) (fun _ _ _ h => h) (yields_yes rfl ?_) ?_
      rotate_left
      · (intro w hSw; (try dsimp only at hSw); go_simp; try with_reducible rfl)
      try simp only [Act.put, List.setIfInBounds_toArray, List.set_cons_zero, List.set_cons_succ]
      refine wpT_takeC [] 4 44 (v := ?_) hHeld.1 hHeld.2 rfl rfl (by kernel_rfl) (fun _ _ _ h => h) (yields_yes rfl ?_) ?_
      rotate_left
      · (intro w hSw; (try dsimp only at hSw); go_simp; try with_reducible rfl)
      try simp only [Act.put, List.setIfInBounds_toArray, List.set_cons_zero, List.set_cons_succ]
      refine wpT_takeC [7, 8] 5 45 (v := ?_) hHeld.1 hHeld.2 rfl rfl (by kernel_rfl) (fun _ _ _ h => h) (yields_yes rfl ?_) ?_
      rotate_left
      · (intro w hSw; (try dsimp only at hSw); go_simp; try with_reducible rfl)
      try simp only [Act.put, List.setIfInBounds_toArray, List.set_cons_zero, List.set_cons_succ]
      refine wpT_takeC [7, 8] 6 46 (v := ?_) hHeld.1 hHeld.2 rfl rfl (by kernel_rfl) (fun _ _ _ h => h) (yields_yes rfl ?_) ?_
      rotate_left
      · (intro w hSw; (try dsimp only at hSw); go_simp; try with_reducible rfl)
      try simp only [Act.put, List.setIfInBounds_toArray, List.set_cons_zero, List.set_cons_succ]
      refine wpT_takeC [8] 7 47 (v := ?_) hHeld.1 hHeld.2 rfl rfl (by kernel_rfl) (fun _ _ _ h => h) (yields_yes rfl ?_) ?_
      rotate_left
      · (intro w hSw; (try dsimp only at hSw); go_simp; try with_reducible rfl)
      try simp only [Act.put, List.setIfInBounds_toArray, List.set_cons_zero, List.set_cons_succ]
      refine wpT_takeC [] 8 48 (v := ?_) hHeld.1 hHeld.2 rfl rfl (by kernel_rfl) (fun _ _ _ h => h) (yields_yes rfl ?_) ?_
      rotate_left
      · (intro w hSw; (try dsimp only at hSw); go_simp; try with_reducible rfl)
      try simp only [Act.put, List.setIfInBounds_toArray, List.set_cons_zero, List.set_cons_succ]
      have HRD := Lib.hid HR.out.drew
      generalize wr.drew = wd at HRD hHeld ⊢
      refine wpT_one 9 (by kernel_rfl) (Sr.stepT_w rfl rfl (fun K hK => ?_))
      go_simp
      ((with_reducible refine (HCC.out _ HRD.out.fr).mono ?_); rintro e5 w5 ⟨rfl, hb5⟩)
      have HJD := Lib.hid (HRD.out.below hb5)
      refine hK.out _ _ ⟨⟨(HJD.out.getD (j := c) (by rw [HDL.out]; omega)).trans (by rw [HYX.out.1]), (HJD.out.getD (j := a) (by rw [HDL.out]; omega)).trans (by rw [HYX.out.2])⟩, trivial⟩ (fun hHeld2 => ?_)
      clear hb5
      clear hK K hHeld
      have hHeld := hHeld2
      clear hHeld2
      try simp only [List.setIfInBounds_toArray, List.set_cons_zero, List.set_cons_succ]
      clear c1 c2
      by_cases hkx : key y < key x
      · have hr1 : decide (rr < 0) = true := decide_eq_true (HRK.out.2 hkx)
        have HK := Lib.hid hkx
        clear hkx
        refine wpT_tail [_] 10 [] rfl (by kernel_rfl) ?_
        clear hHeld
        go_wp2_with fail
        go_roundw
        case rel => exact ⟨c + 1, j, by go_num, rfl, by omega, by rw [show c + 1 - m = (c - m) + 1 by omega]; exact AdjS.take_less HSR.out hcR (by rw [HY.out]; exact AdjS.lt_right HK.out), HIJ.out.2, HJD.out⟩
        case measure => simp [intOf]; omega
      · have hr1 : decide (rr < 0) = false := decide_eq_false (fun h => hkx (HRK.out.1 h))
        have HK := Lib.hid hkx
        clear hkx
        refine wpT_tail [_] 10 [] rfl (by kernel_rfl) ?_
        clear hHeld
        go_wp2_with fail
        go_roundw
        case rel => exact ⟨i, c, rfl, rfl, by omega, HIJ.out.1, AdjS.drop_more HSR.out hcR (by rw [HY.out]; exact AdjS.lt_left hxy (by have := HK.out; omega)), HJD.out⟩
        case measure => simp [intOf]; omega
    · obtain rfl : i = j := by omega
      obtain ⟨q, hq⟩ : ∃ q : Nat, i - m = q := ⟨_, rfl⟩
      rw [hq] at HIJ
      have hqR : q ≤ R.length := by have := HA.out; omega
      have e1 : (i : Int) - 1 = ((a + q : Nat) : Int) := by omega
      obtain ⟨z, hz⟩ : ∃ z : Nat, a + q = z := ⟨_, rfl⟩
      rw [hz] at e1
      have HZ := Lib.hid hz
      have HQ := Lib.hid hq
      have hza : a ≤ z := by omega
      have hzb : z < mn := by omega
      have HR2 := Lib.hid (show Sr.Ro w g (AdjS.slid P R x Q 0) wr by rw [AdjS.slid_zero]; have h := HR.out; rwa [← HDD.out] at h)
      have HSD := Lib.hid (show AdjS.Srt key (R.take q ++ x :: R.drop q) from AdjS.srt_among HSR.out HIJ.out.1 HIJ.out.2)
      have HLN := Lib.hid (show ∀ t ≤ R.length, (AdjS.slid P R x Q t).length = mn from fun t ht => by rw [AdjS.slid_length P R x Q ht]; have := HA.out; omega)
      clear hq hz HR HIJ HDL HDD HS
      go_wp2_with fail
      go_loopw [13] (fun kv wr => ∃ k t : Nat, kv = .int .i64 (k : Int) ∧ (k = a + t ∧ t ≤ q) ∧ Sr.Ro w g (AdjS.slid P R x Q t) wr) (fun kv _ => z - (intOf kv).toNat)
      case atStart => exact ⟨a, 0, rfl, ⟨rfl, by omega⟩, HR2.out⟩
      case round =>
        obtain ⟨k, t, rfl, ⟨hkt, htq⟩, hr⟩ := hrel
        have HR := Lib.hid hr
        have HKT := Lib.hid hkt
        have hz2 := HZ.out
        have hka : a ≤ k := by omega
        have hkz : k ≤ z := by omega
        clear hr
        by_cases hlt2 : k < z
        · have htR : t < R.length := by omega
          have HDL := Lib.hid (HLN.out t (by omega))
          have HP := Lib.hid (show P.length = a from HA.out.1.symm)
          obtain ⟨y, hy⟩ : ∃ y, R[t] = y := ⟨_, rfl⟩
          have HVV := Lib.hid (show (AdjS.slid P R x Q t).getD k 0 = x ∧ (AdjS.slid P R x Q t).getD (k + 1) 0 = y from by
            have v1 := AdjS.slid_here P R x Q (q := t) (by omega)
            have v2 := AdjS.slid_above P R x Q htR
            rw [HP.out, ← hkt] at v1 v2
            exact ⟨v1, v2.trans hy⟩)
          have HSL := Lib.hid (show AdjS.swap2 (AdjS.slid P R x Q t) k (k + 1) = AdjS.slid P R x Q (t + 1) by
            have h := AdjS.slid_up P R x Q htR
            rw [HP.out, ← hkt] at h; exact h)
          have c1 := (HR.out.getD (j := k) (by rw [HDL.out]; omega)).trans (by rw [HVV.out.1])
          have c2 := (HR.out.getD (j := k + 1) (by rw [HDL.out]; omega)).trans (by rw [HVV.out.2])
          have w1 : IntKind.i64.wrap ((k : Int) + 1) = (k : Int) + 1 := IntWalk.i64_in _ (by omega)
          have i1 : (k : Int) < (mn : Int) := by omega
          have i2 : (k : Int) + 1 < (mn : Int) := by omega
          have i3 : (0 : Int) ≤ (k : Int) + 1 := by omega
          have i4 : ((k : Int) + 1).toNat = k + 1 := by omega
          clear hy hkt hz2
          go_wp2_with fail
          refine wp_region_T (fun w' => w'.cell? ⟨g, k, none⟩ = some (.int .i64 x) ∧ w'.cell? ⟨g, k + 1, none⟩ = some (.int .i64 y)) 14 (fun _ => True) 14 18 rfl (by kernel_rfl) ⟨⟨c1, c2⟩, trivial⟩ (fun hHeld => ?_)
          simp only [List.replicate_succ, List.replicate_zero]
          refine wpT_take 0 61 (v := ?_) hHeld.1 hHeld.2 rfl rfl (by kernel_rfl) (fun _ _ _ h => h) rfl ?_ ?_
          rotate_left
          · (intro w hSw; (try dsimp only at hSw); go_simp; try with_reducible rfl)
          try simp only [Act.put, List.setIfInBounds_toArray, List.set_cons_zero, List.set_cons_succ]
          refine wpT_take 1 62 (v := ?_) hHeld.1 hHeld.2 rfl rfl (by kernel_rfl) (fun _ _ _ h => h) rfl ?_ ?_
          rotate_left
          · (intro w hSw; (try dsimp only at hSw); go_simp; try with_reducible rfl)
          try simp only [Act.put, List.setIfInBounds_toArray, List.set_cons_zero, List.set_cons_succ]
          refine wpT_takeP 2 63 (v := ?_) ⟨fun _ => hHeld.1, fun _ => hHeld.2⟩ rfl rfl (by kernel_rfl) (fun _ _ _ h => h) rfl ?_ ?_
          rotate_left
          · (intro w; go_simp; try with_reducible rfl)
          try simp only [Act.put, List.setIfInBounds_toArray, List.set_cons_zero, List.set_cons_succ]
          refine wpT_takeP 3 64 (v := ?_) ⟨fun _ => hHeld.1, fun _ => hHeld.2⟩ rfl rfl (by kernel_rfl) (fun _ _ _ h => h) rfl ?_ ?_
          rotate_left
          · (intro w; go_simp; try with_reducible rfl)
          try simp only [Act.put, List.setIfInBounds_toArray, List.set_cons_zero, List.set_cons_succ]
          refine wpT_takeP 4 65 (v := ?_) ⟨fun _ => hHeld.1, fun _ => hHeld.2⟩ rfl rfl (by kernel_rfl) (fun _ _ _ h => h) rfl ?_ ?_
          rotate_left
          · (intro w; go_simp; try with_reducible rfl)
          try simp only [Act.put, List.setIfInBounds_toArray, List.set_cons_zero, List.set_cons_succ]
          refine wpT_take 5 66 (v := ?_) hHeld.1 hHeld.2 rfl rfl (by kernel_rfl) (fun _ _ _ h => h) rfl ?_ ?_
          rotate_left
          · (intro w hSw; (try dsimp only at hSw); go_simp; try with_reducible rfl)
          try simp only [Act.put, List.setIfInBounds_toArray, List.set_cons_zero, List.set_cons_succ]
          refine wpT_take 6 67 (v := ?_) hHeld.1 hHeld.2 rfl rfl (by kernel_rfl) (fun _ _ _ h => h) rfl ?_ ?_
          rotate_left
          · (intro w hSw; (try dsimp only at hSw); go_simp; try with_reducible rfl)
          try simp only [Act.put, List.setIfInBounds_toArray, List.set_cons_zero, List.set_cons_succ]
          refine wpT_take 7 68 (v := ?_) hHeld.1 hHeld.2 rfl rfl (by kernel_rfl) (fun _ _ _ h => h) rfl ?_ ?_
          rotate_left
          · (intro w hSw; (try dsimp only at hSw); go_simp; try with_reducible rfl)
          try simp only [Act.put, List.setIfInBounds_toArray, List.set_cons_zero, List.set_cons_succ]
          refine wpT_take 8 69 (v := ?_) hHeld.1 hHeld.2 rfl rfl (by kernel_rfl) (fun _ _ _ h => h) rfl ?_ ?_
          rotate_left
          · (intro w hSw; (try dsimp only at hSw); go_simp; try with_reducible rfl)
          try simp only [Act.put, List.setIfInBounds_toArray, List.set_cons_zero, List.set_cons_succ]
          refine wpT_take 9 70 (v := ?_) hHeld.1 hHeld.2 rfl rfl (by kernel_rfl) (fun _ _ _ h => h) rfl ?_ ?_
          rotate_left
          · (intro w hSw; (try dsimp only at hSw); go_simp; try with_reducible rfl)
          try simp only [Act.put, List.setIfInBounds_toArray, List.set_cons_zero, List.set_cons_succ]
          refine wpT_takeP 10 71 (v := ?_) ⟨fun _ => hHeld.1, fun _ => hHeld.2⟩ rfl rfl (by kernel_rfl) (fun _ _ _ h => h) rfl ?_ ?_
          rotate_left
          · (intro w; go_simp; try with_reducible rfl)
          try simp only [Act.put, List.setIfInBounds_toArray, List.set_cons_zero, List.set_cons_succ]
          refine wpT_takeP 11 72 (v := ?_) ⟨fun _ => hHeld.1, fun _ => hHeld.2⟩ rfl rfl (by kernel_rfl) (fun _ _ _ h => h) rfl ?_ ?_
          rotate_left
          · (intro w; go_simp; try with_reducible rfl)
          try simp only [Act.put, List.setIfInBounds_toArray, List.set_cons_zero, List.set_cons_succ]
          refine wpT_takeP 12 73 (v := ?_) ⟨fun _ => hHeld.1, fun _ => hHeld.2⟩ rfl rfl (by kernel_rfl) (fun _ _ _ h => h) rfl ?_ ?_
          rotate_left
          · (intro w; go_simp; try with_reducible rfl)
          try simp only [Act.put, List.setIfInBounds_toArray, List.set_cons_zero, List.set_cons_succ]
          refine wpT_take 13 74 (v := ?_) hHeld.1 hHeld.2 rfl rfl (by kernel_rfl) (fun _ _ _ h => h) rfl ?_ ?_
          rotate_left
          · (intro w hSw; (try dsimp only at hSw); go_simp; try with_reducible rfl)
          try simp only [Act.put, List.setIfInBounds_toArray, List.set_cons_zero, List.set_cons_succ]
          have HJD := Lib.hid HR.out.drew
          generalize wr.drew = wd at HJD hHeld ⊢
          have HSW := Lib.hid (HJD.out.swap (i := k) (j := k + 1) (by rw [HDL.out]; omega) (by rw [HDL.out]; omega))
          have f1 := HJD.out.frozen (k)
          have q1 := HJD.out.getD (j := k) (by rw [HDL.out]; omega)
          have f2 := HJD.out.frozen (k + 1)
          have q2 := HJD.out.getD (j := k + 1) (by rw [HDL.out]; omega)
          rw [HVV.out.1, HVV.out.2] at HSW
          rw [HVV.out.1] at q1
          rw [HVV.out.2] at q2
          rw [HSL.out] at HSW
          refine wpT_tail [_, _, _, _] 14 [15, 16, 17] rfl (by kernel_rfl) ?_
          clear hHeld c1 c2
          go_wp2_with fail
          go_roundw
          case rel => exact ⟨k + 1, t + 1, by go_num, ⟨by have := HKT.out; omega, by have := HKT.out; have := HZ.out; omega⟩, HSW.out⟩
          case measure => simp [intOf]; omega
        · have HTQ := Lib.hid (show t = q by omega)
          clear hkt hz2
          go_wp2_with fail
          go_end0
          refine ⟨rfl, R.take q ++ x :: R.drop q, ?_, HSD.out, ?_⟩
          · refine (List.perm_middle).trans ?_
            rw [List.take_append_drop]
            first | done | exact List.Perm.refl _
          · have h := HR.out
            rw [HTQ.out] at h
            unfold AdjS.slid at h
            simpa only [List.append_assoc, List.cons_append] using h

set_option maxRecDepth 100000 in
set_option maxHeartbeats 8000000 in
theorem symMerge_right (w W : World) (g cap fK : Nat) (cc : Array Value) (key : Int → Int) (dom : Int → Prop) (P L Q : List Int) (y : Int) (a m b : Nat) (mn : Nat) (ha : a = P.length) (hm : m = P.length + L.length) (hb : b = P.length + L.length + 1) (hn : mn = P.length + L.length + 1 + Q.length) (hbig : mn ≤ 2305843009213693952)
    (hl : 1 < L.length) (hc : Sr.CmpOk w g fK cc key dom) (hdy : dom y) (hd : ∀ x ∈ L, dom x) (hsl : AdjS.Srt key L) (hx : ∀ x ∈ L, x < y) (h : Sr.Ro w g (P ++ (L ++ ([y] ++ Q))) W) :
    Calls Try.prog 68 #[.slice (some ⟨g, 0, none⟩) mn cap, .int .i64 (a : Int), .int .i64 (m : Int), .int .i64 (b : Int), .func (.func fK) #[] cc] W (Sr.Merged w g key P (L ++ [y]) Q) := by
  have hcf := hc.1
  have HCM := Lib.hid hc.2
  have HDO := Lib.hid (And.intro hdy hd)
  have HSR := Lib.hid hsl
  have HX := Lib.hid hx
  obtain ⟨d, hdd⟩ : ∃ d, P ++ (L ++ ([y] ++ Q)) = d := ⟨_, rfl⟩
  rw [hdd] at h
  have HS := Lib.hid h
  have HDD := Lib.hid hdd
  have HA := Lib.hid (And.intro ha (And.intro hm (And.intro hb hn)))
  have h1 : a + 1 < m := by omega
  have h2 : m < b := by omega
  have h3 : b ≤ mn := by omega
  have HDL := Lib.hid (show d.length = mn by rw [← hdd]; simp only [List.length_append, List.length_cons, List.length_nil]; omega)
  have q0 : ((m : Int) - (a : Int) == 1) = false := by simp; omega
  have q00 : ((b : Int) - (m : Int)) = 1 := by omega
  clear h ha hm hb hn hc hd hdy hsl hx hdd hl
  go_enter Try.func68, Try.ntmps68
  go_wp2_with fail
  clear q0 q00
  go_loopw [14, 15] (fun iv jv wr => ∃ i j : Nat, iv = .int .i64 (i : Int) ∧ jv = .int .i64 (j : Int) ∧ (a ≤ i ∧ i ≤ j ∧ j ≤ m) ∧ (∀ t ∈ L.take (i - a), AdjS.lt key t y) ∧ (∀ t ∈ L.drop (j - a), AdjS.lt key y t) ∧ Sr.Ro w g d wr) (fun iv jv _ => (intOf jv).toNat - (intOf iv).toNat)
  case atStart => exact ⟨a, m, rfl, rfl, by omega, by rw [Nat.sub_self]; simp, by rw [List.drop_eq_nil_of_le (by have := HA.out; omega)]; simp, HS.out⟩
  case round =>
    obtain ⟨i, j, rfl, rfl, ⟨g1, g2, g3⟩, hi1, hj1, hr⟩ := hrel
    have HIJ := Lib.hid (And.intro hi1 hj1)
    have HR := Lib.hid hr
    clear hi1 hj1 hr
    by_cases hlt : i < j
    · obtain ⟨c, hc⟩ : ∃ c : Nat, ((i : Int) + (j : Int)) / 2 = (c : Int) := ⟨((i + j) / 2 : Nat), by omega⟩
      have hc1 : i ≤ c := by omega
      have hc2 : c < j := by omega
      have i1 : (c : Int) < (mn : Int) := by omega
      have i2 : (m : Int) < (mn : Int) := by omega
      have c1 := HR.out.getD (j := m) (by rw [HDL.out]; omega)
      have c2 := HR.out.getD (j := c) (by rw [HDL.out]; omega)
      have hcL : c - a < L.length := by have := HA.out; omega
      obtain ⟨x, hxx⟩ : ∃ x, L[c - a] = x := ⟨_, rfl⟩
      have HYX := Lib.hid (show d.getD m 0 = y ∧ d.getD c 0 = x from by
        have hA := HA.out
        rw [← HDD.out]
        constructor
        · rw [AdjS.getD_right (R := [y]) (by omega) (by simp; omega)]
          simp
        · rw [AdjS.getD_left (R := [y]) (by omega) (by omega), ← hxx]
          congr 1
          omega)
      rw [HYX.out.1] at c1
      rw [HYX.out.2] at c2
      have hxL : x ∈ L := by rw [← hxx]; exact List.getElem_mem _
      have HCC := Lib.hid (fun W (hf : Sr.Fr w W g) => HCM.out y x HDO.out.1 (HDO.out.2 x hxL) W hf)
      have hxy := HX.out x hxL
      obtain ⟨rr, hr0⟩ : ∃ r, AdjS.cmp3 (key y) (key x) = r := ⟨_, rfl⟩
      rw [hr0] at HCC
      have HRK := Lib.hid (show rr < 0 ↔ key y < key x by rw [← hr0]; exact AdjS.cmp3_neg)
      have HY := Lib.hid hxx
      clear hr0 hxx hxL
      go_upto_region 17 with (fail)
      clear hc
      refine wp_region_T (fun w' => w'.cell? ⟨g, m, none⟩ = some (.int .i64 y) ∧ w'.cell? ⟨g, c, none⟩ = some (.int .i64 x)) 9 (fun _ => True) 9 12 rfl (by kernel_rfl) ⟨⟨c1, c2⟩, trivial⟩ (fun hHeld => ?_)
      simp only [List.replicate_succ, List.replicate_zero]
      refine wpT_takeC [] 0 92 (v := ?_) hHeld.1 hHeld.2 rfl rfl (by kernel_rfl) (fun _ _ _ h => h) (yields_yes rfl ?_) ?_
      rotate_left
      · (intro w hSw; (try dsimp only at hSw); go_simp; try with_reducible rfl)
      try simp only [Act.put, List.setIfInBounds_toArray, List.set_cons_zero, List.set_cons_succ]
      refine wpT_takeC [3, 4] 1 93 (v := ?_) hHeld.1 hHeld.2 rfl rfl (by kernel_rfl) (fun _ _ _ h => h) (yields_yes rfl ?_) ?_
      rotate_left
      · (intro w hSw; (try dsimp only at hSw); go_simp; try with_reducible rfl)
      try simp only [Act.put, List.setIfInBounds_toArray, List.set_cons_zero, List.set_cons_succ]
      refine wpT_takeC [3, 4] 2 94 (v := ?_) hHeld.1 hHeld.2 rfl rfl (by kernel_rfl) (fun _ _ _ h => h) (yields_yes rfl ?_) ?_
      rotate_left
      · (intro w hSw; (try dsimp only at hSw); go_simp; try with_reducible rfl)
      try simp only [Act.put, List.setIfInBounds_toArray, List.set_cons_zero, List.set_cons_succ]
      refine wpT_takeC [4] 3 95 (v := ?_) hHeld.1 hHeld.2 rfl rfl (by kernel_rfl) (fun _ _ _ h => h) (yields_yes rfl ?_) ?_
      rotate_left
      · (intro w hSw; (try dsimp only at hSw); go_simp; try with_reducible rfl)
      try simp only [Act.put, List.setIfInBounds_toArray, List.set_cons_zero, List.set_cons_succ]
      refine wpT_takeC [] 4 96 (v := ?_) hHeld.1 hHeld.2 rfl rfl (by kernel_rfl) (fun _ _ _ h => h) (yields_yes rfl ?_) ?_
      rotate_left
      · (intro w hSw; (try dsimp only at hSw); go_simp; try with_reducible rfl)
      try simp only [Act.put, List.setIfInBounds_toArray, List.set_cons_zero, List.set_cons_succ]
      refine wpT_takeC [7, 8] 5 97 (v := ?_) hHeld.1 hHeld.2 rfl rfl (by kernel_rfl) (fun _ _ _ h => h) (yields_yes rfl ?_) ?_
      rotate_left
      · (intro w hSw; (try dsimp only at hSw); go_simp; try with_reducible rfl)
      try simp only [Act.put, List.setIfInBounds_toArray, List.set_cons_zero, List.set_cons_succ]
      refine wpT_takeC [7, 8] 6 98 (v := ?_) hHeld.1 hHeld.2 rfl rfl (by kernel_rfl) (fun _ _ _ h => h) (yields_yes rfl ?_) ?_
      rotate_left
      · (intro w hSw; (try dsimp only at hSw); go_simp; try with_reducible rfl)
      try simp only [Act.put, List.setIfInBounds_toArray, List.set_cons_zero, List.set_cons_succ]
      refine wpT_takeC [8] 7 99 (v := ?_) hHeld.1 hHeld.2 rfl rfl (by kernel_rfl) (fun _ _ _ h => h) (yields_yes rfl ?_) ?_
      rotate_left
      · (intro w hSw; (try dsimp only at hSw); go_simp; try with_reducible rfl)
      try simp only [Act.put, List.setIfInBounds_toArray, List.set_cons_zero, List.set_cons_succ]
      refine wpT_takeC [] 8 100 (v := ?_) hHeld.1 hHeld.2 rfl rfl (by kernel_rfl) (fun _ _ _ h => h) (yields_yes rfl ?_) ?_
      rotate_left
      · (intro w hSw; (try dsimp only at hSw); go_simp; try with_reducible rfl)
      try simp only [Act.put, List.setIfInBounds_toArray, List.set_cons_zero, List.set_cons_succ]
      have HRD := Lib.hid HR.out.drew
      generalize wr.drew = wd at HRD hHeld ⊢
      refine wpT_one 9 (by kernel_rfl) (Sr.stepT_w rfl rfl (fun K hK => ?_))
      go_simp
      ((with_reducible refine (HCC.out _ HRD.out.fr).mono ?_); rintro e5 w5 ⟨rfl, hb5⟩)
      have HJD := Lib.hid (HRD.out.below hb5)
      refine hK.out _ _ ⟨⟨(HJD.out.getD (j := m) (by rw [HDL.out]; omega)).trans (by rw [HYX.out.1]), (HJD.out.getD (j := c) (by rw [HDL.out]; omega)).trans (by rw [HYX.out.2])⟩, trivial⟩ (fun hHeld2 => ?_)
      clear hb5
      clear hK K hHeld
      have hHeld := hHeld2
      clear hHeld2
      try simp only [List.setIfInBounds_toArray, List.set_cons_zero, List.set_cons_succ]
      clear c1 c2
      by_cases hkx : key y < key x
      · have hr1 : decide (rr < 0) = true := decide_eq_true (HRK.out.2 hkx)
        have HK := Lib.hid hkx
        clear hkx
        refine wpT_tail [_, _] 10 [11] rfl (by kernel_rfl) ?_
        clear hHeld
        go_wp2_with fail
        go_roundw
        case rel => exact ⟨i, c, rfl, rfl, by omega, HIJ.out.1, AdjS.drop_more HSR.out hcL (by rw [HY.out]; exact AdjS.lt_right HK.out), HJD.out⟩
        case measure => simp [intOf]; omega
      · have hr1 : decide (rr < 0) = false := decide_eq_false (fun h => hkx (HRK.out.1 h))
        have HK := Lib.hid hkx
        clear hkx
        refine wpT_tail [_, _] 10 [11] rfl (by kernel_rfl) ?_
        clear hHeld
        go_wp2_with fail
        go_roundw
        case rel => exact ⟨c + 1, j, by go_num, rfl, by omega, by rw [show c + 1 - a = (c - a) + 1 by omega]; exact AdjS.take_less HSR.out hcL (by rw [HY.out]; exact AdjS.lt_left hxy (by have := HK.out; omega)), HIJ.out.2, HJD.out⟩
        case measure => simp [intOf]; omega
    · obtain rfl : i = j := by omega
      obtain ⟨q, hq⟩ : ∃ q : Nat, i - a = q := ⟨_, rfl⟩
      rw [hq] at HIJ
      have hqL : q ≤ L.length := by have := HA.out; omega
      have HQ := Lib.hid (show a + q = i by omega)
      have HR2 := Lib.hid (show Sr.Ro w g (AdjS.slid P L y Q L.length) wr by rw [AdjS.slid_top]; have h := HR.out; rwa [← HDD.out] at h)
      have HSD := Lib.hid (show AdjS.Srt key (L.take q ++ y :: L.drop q) from AdjS.srt_among HSR.out HIJ.out.1 HIJ.out.2)
      have HLN := Lib.hid (show ∀ t ≤ L.length, (AdjS.slid P L y Q t).length = mn from fun t ht => by rw [AdjS.slid_length P L y Q ht]; have := HA.out; omega)
      clear hq HR HIJ HDL HDD HS
      go_wp2_with fail
      go_loopw [17] (fun kv wr => ∃ k t : Nat, kv = .int .i64 (k : Int) ∧ (k = a + t ∧ q ≤ t ∧ t ≤ L.length) ∧ Sr.Ro w g (AdjS.slid P L y Q t) wr) (fun kv _ => (intOf kv).toNat)
      case atStart => exact ⟨m, L.length, rfl, ⟨by have := HA.out; omega, hqL, Nat.le_refl _⟩, HR2.out⟩
      case round =>
        obtain ⟨k, t, rfl, ⟨hkt, htq, htL⟩, hr⟩ := hrel
        have HR := Lib.hid hr
        have HKT := Lib.hid hkt
        have hqi := HQ.out
        have hki : i ≤ k := by omega
        have hkm : k ≤ m := by have := HA.out; omega
        clear hr
        by_cases hlt2 : i < k
        · obtain ⟨t', rfl⟩ : ∃ t', t = t' + 1 := ⟨t - 1, by omega⟩
          have htL2 : t' < L.length := by omega
          have HDL := Lib.hid (HLN.out (t' + 1) htL)
          have HP := Lib.hid (show P.length = a from HA.out.1.symm)
          obtain ⟨k1, hk1⟩ : ∃ k1 : Nat, k = k1 + 1 := ⟨k - 1, by omega⟩
          have e1 : a + t' = k1 := by omega
          obtain ⟨x, hxx⟩ : ∃ x, L[t'] = x := ⟨_, rfl⟩
          have HVV := Lib.hid (show (AdjS.slid P L y Q (t' + 1)).getD k 0 = y ∧ (AdjS.slid P L y Q (t' + 1)).getD k1 0 = x from by
            have v1 := AdjS.slid_here P L y Q (q := t' + 1) htL
            have v2 := AdjS.slid_below P L y Q htL2
            rw [HP.out, ← hkt] at v1
            rw [HP.out, e1] at v2
            exact ⟨v1, v2.trans hxx⟩)
          have HSL := Lib.hid (show AdjS.swap2 (AdjS.slid P L y Q (t' + 1)) k k1 = AdjS.slid P L y Q t' by
            have h := AdjS.slid_step P L y Q htL2
            rw [HP.out, ← hkt, e1] at h; exact h)
          have c1 := (HR.out.getD (j := k) (by rw [HDL.out]; omega)).trans (by rw [HVV.out.1])
          have c2 := (HR.out.getD (j := k1) (by rw [HDL.out]; omega)).trans (by rw [HVV.out.2])
          have HE := Lib.hid (And.intro e1 hk1)
          have w2 : (k : Int) - 1 = (k1 : Int) := by omega
          have w1 : IntKind.i64.wrap (k1 : Int) = (k1 : Int) := IntWalk.i64_in _ (by omega)
          have i1 : (k : Int) < (mn : Int) := by omega
          have i2 : (k1 : Int) < (mn : Int) := by omega
          clear hxx hkt hqi hk1 e1
          go_wp2_with fail
          refine wp_region_T (fun w' => w'.cell? ⟨g, k, none⟩ = some (.int .i64 y) ∧ w'.cell? ⟨g, k1, none⟩ = some (.int .i64 x)) 14 (fun _ => True) 14 18 rfl (by kernel_rfl) ⟨⟨c1, c2⟩, trivial⟩ (fun hHeld => ?_)
          simp only [List.replicate_succ, List.replicate_zero]
          refine wpT_take 0 113 (v := ?_) hHeld.1 hHeld.2 rfl rfl (by kernel_rfl) (fun _ _ _ h => h) rfl ?_ ?_
          rotate_left
          · (intro w hSw; (try dsimp only at hSw); go_simp; try with_reducible rfl)
          try simp only [Act.put, List.setIfInBounds_toArray, List.set_cons_zero, List.set_cons_succ]
          refine wpT_take 1 114 (v := ?_) hHeld.1 hHeld.2 rfl rfl (by kernel_rfl) (fun _ _ _ h => h) rfl ?_ ?_
          rotate_left
          · (intro w hSw; (try dsimp only at hSw); go_simp; try with_reducible rfl)
          try simp only [Act.put, List.setIfInBounds_toArray, List.set_cons_zero, List.set_cons_succ]
          refine wpT_takeP 2 115 (v := ?_) ⟨fun _ => hHeld.1, fun _ => hHeld.2⟩ rfl rfl (by kernel_rfl) (fun _ _ _ h => h) rfl ?_ ?_
          rotate_left
          · (intro w; go_simp; try with_reducible rfl)
          try simp only [Act.put, List.setIfInBounds_toArray, List.set_cons_zero, List.set_cons_succ]
          refine wpT_takeP 3 116 (v := ?_) ⟨fun _ => hHeld.1, fun _ => hHeld.2⟩ rfl rfl (by kernel_rfl) (fun _ _ _ h => h) rfl ?_ ?_
          rotate_left
          · (intro w; go_simp; try with_reducible rfl)
          try simp only [Act.put, List.setIfInBounds_toArray, List.set_cons_zero, List.set_cons_succ]
          refine wpT_takeP 4 117 (v := ?_) ⟨fun _ => hHeld.1, fun _ => hHeld.2⟩ rfl rfl (by kernel_rfl) (fun _ _ _ h => h) rfl ?_ ?_
          rotate_left
          · (intro w; go_simp; try with_reducible rfl)
          try simp only [Act.put, List.setIfInBounds_toArray, List.set_cons_zero, List.set_cons_succ]
          refine wpT_take 5 118 (v := ?_) hHeld.1 hHeld.2 rfl rfl (by kernel_rfl) (fun _ _ _ h => h) rfl ?_ ?_
          rotate_left
          · (intro w hSw; (try dsimp only at hSw); go_simp; try with_reducible rfl)
          try simp only [Act.put, List.setIfInBounds_toArray, List.set_cons_zero, List.set_cons_succ]
          refine wpT_take 6 119 (v := ?_) hHeld.1 hHeld.2 rfl rfl (by kernel_rfl) (fun _ _ _ h => h) rfl ?_ ?_
          rotate_left
          · (intro w hSw; (try dsimp only at hSw); go_simp; try with_reducible rfl)
          try simp only [Act.put, List.setIfInBounds_toArray, List.set_cons_zero, List.set_cons_succ]
          refine wpT_take 7 120 (v := ?_) hHeld.1 hHeld.2 rfl rfl (by kernel_rfl) (fun _ _ _ h => h) rfl ?_ ?_
          rotate_left
          · (intro w hSw; (try dsimp only at hSw); go_simp; try with_reducible rfl)
          try simp only [Act.put, List.setIfInBounds_toArray, List.set_cons_zero, List.set_cons_succ]
          refine wpT_take 8 121 (v := ?_) hHeld.1 hHeld.2 rfl rfl (by kernel_rfl) (fun _ _ _ h => h) rfl ?_ ?_
          rotate_left
          · (intro w hSw; (try dsimp only at hSw); go_simp; try with_reducible rfl)
          try simp only [Act.put, List.setIfInBounds_toArray, List.set_cons_zero, List.set_cons_succ]
          refine wpT_take 9 122 (v := ?_) hHeld.1 hHeld.2 rfl rfl (by kernel_rfl) (fun _ _ _ h => h) rfl ?_ ?_
          rotate_left
          · (intro w hSw; (try dsimp only at hSw); go_simp; try with_reducible rfl)
          try simp only [Act.put, List.setIfInBounds_toArray, List.set_cons_zero, List.set_cons_succ]
          refine wpT_takeP 10 123 (v := ?_) ⟨fun _ => hHeld.1, fun _ => hHeld.2⟩ rfl rfl (by kernel_rfl) (fun _ _ _ h => h) rfl ?_ ?_
          rotate_left
          · (intro w; go_simp; try with_reducible rfl)
          try simp only [Act.put, List.setIfInBounds_toArray, List.set_cons_zero, List.set_cons_succ]
          refine wpT_takeP 11 124 (v := ?_) ⟨fun _ => hHeld.1, fun _ => hHeld.2⟩ rfl rfl (by kernel_rfl) (fun _ _ _ h => h) rfl ?_ ?_
          rotate_left
          · (intro w; go_simp; try with_reducible rfl)
          try simp only [Act.put, List.setIfInBounds_toArray, List.set_cons_zero, List.set_cons_succ]
          refine wpT_takeP 12 125 (v := ?_) ⟨fun _ => hHeld.1, fun _ => hHeld.2⟩ rfl rfl (by kernel_rfl) (fun _ _ _ h => h) rfl ?_ ?_
          rotate_left
          · (intro w; go_simp; try with_reducible rfl)
          try simp only [Act.put, List.setIfInBounds_toArray, List.set_cons_zero, List.set_cons_succ]
          refine wpT_take 13 126 (v := ?_) hHeld.1 hHeld.2 rfl rfl (by kernel_rfl) (fun _ _ _ h => h) rfl ?_ ?_
          rotate_left
          · (intro w hSw; (try dsimp only at hSw); go_simp; try with_reducible rfl)
          try simp only [Act.put, List.setIfInBounds_toArray, List.set_cons_zero, List.set_cons_succ]
          have HJD := Lib.hid HR.out.drew
          generalize wr.drew = wd at HJD hHeld ⊢
          have HSW := Lib.hid (HJD.out.swap (i := k) (j := k1) (by rw [HDL.out]; omega) (by rw [HDL.out]; omega))
          have f1 := HJD.out.frozen (k)
          have q1 := HJD.out.getD (j := k) (by rw [HDL.out]; omega)
          have f2 := HJD.out.frozen (k1)
          have q2 := HJD.out.getD (j := k1) (by rw [HDL.out]; omega)
          rw [HVV.out.1, HVV.out.2] at HSW
          rw [HVV.out.1] at q1
          rw [HVV.out.2] at q2
          rw [HSL.out] at HSW
          refine wpT_tail [_, _, _, _] 14 [15, 16, 17] rfl (by kernel_rfl) ?_
          clear hHeld c1 c2
          go_wp2_with fail
          go_roundw
          case rel => exact ⟨k1, t', by go_num, ⟨HE.out.1.symm, by have := HE.out; have := HQ.out; omega, by omega⟩, HSW.out⟩
          case measure => simp [intOf]; have := HE.out.2; omega
        · have HTQ := Lib.hid (show t = q by omega)
          clear hkt hqi
          go_wp2_with fail
          go_end0
          refine ⟨rfl, L.take q ++ y :: L.drop q, ?_, HSD.out, ?_⟩
          · refine (List.perm_middle).trans ?_
            rw [List.take_append_drop]
            exact (List.perm_append_singleton y L).symm
          · have h := HR.out
            rw [HTQ.out] at h
            unfold AdjS.slid at h
            simpa only [List.append_assoc, List.cons_append] using h

/-- symMerge, whatever the runs. -/
theorem symMerge_any (w : World) (g cap fK : Nat) (cc : Array Value) (key : Int → Int) (dom : Int → Prop) (mn : Nat) (hbig : mn ≤ 2305843009213693952) (hc : Sr.CmpOk w g fK cc key dom) : ∀ (n : Nat) (P L R Q : List Int) (a m b : Nat) (W : World), L.length + R.length ≤ n → a = P.length → m = P.length + L.length → b = P.length + L.length + R.length → mn = P.length + L.length + R.length + Q.length → 0 < L.length → 0 < R.length →
    (∀ x ∈ L ++ R, dom x) → AdjS.Srt key L → AdjS.Srt key R → (∀ x ∈ L, ∀ y ∈ R, x < y) → Sr.Ro w g (P ++ (L ++ (R ++ Q))) W →
    Calls Try.prog 68 #[.slice (some ⟨g, 0, none⟩) mn cap, .int .i64 (a : Int), .int .i64 (m : Int), .int .i64 (b : Int), .func (.func fK) #[] cc] W (Sr.Merged w g key P (L ++ R) Q) := by
  intro n
  induction n with
  | zero => intro P L R Q a m b W h0; intros; omega
  | succ n ih =>
    intro P L R Q a m b W hsz ha hm hb hn hl hr hd hsl hsr hx h
    by_cases h1 : L.length = 1
    · obtain ⟨x, rfl⟩ := List.length_eq_one_iff.1 h1
      exact symMerge_left w W g cap fK cc key dom P R Q x a m b mn ha (by simpa using hm) (by simpa using hb) (by simpa using hn) hbig hc (hd x (by simp)) (fun y hy => hd y (by simp [hy])) hsr (fun y hy => hx x (by simp) y hy) h
    · by_cases h2 : R.length = 1
      · obtain ⟨y, rfl⟩ := List.length_eq_one_iff.1 h2
        exact symMerge_right w W g cap fK cc key dom P L Q y a m b mn ha hm (by simpa using hb) (by simpa using hn) hbig (by omega) hc (hd y (by simp)) (fun x hx' => hd x (by simp [hx'])) hsl (fun x hx' => hx x hx' y (by simp)) h
      · exact symMerge_big w W g cap fK cc key dom P L R Q a m b mn ha hm hb hn hbig (by omega) (by omega) hc hd hsl hsr hx h (fun P' L' R' Q' a' m' b' W' z1 z2 z3 z4 z5 z6 z7 z8 z9 z10 z11 z12 => ih P' L' R' Q' a' m' b' W' (by omega) z1 z2 z3 z4 z5 z6 z8 z9 z10 z11 z12)
end Go.Proofs.Ytkopkicdmbnpgaa
