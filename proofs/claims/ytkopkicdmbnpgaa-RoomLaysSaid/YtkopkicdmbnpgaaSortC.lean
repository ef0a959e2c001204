/-
  The walk of slices.symMergeCmpFunc at numbers. Conditions: the row can be written; what is asked answers by a key; both runs are in order.
-/
import Derived.Test.YtkopkicdmbnpgaaSortB
namespace Go.Proofs.Ytkopkicdmbnpgaa
set_option linter.unusedVariables false
open Go.RowKit Adj

namespace Sr
/-- What a merge leaves. -/
def Merged (w : World) (g : Nat) (key : Int → Int) (P S Q : List Int) (e : Ending) (w' : World) : Prop := e = .returned (.tuple #[]) ∧ ∃ T : List Int, T.Perm S ∧ AdjS.Srt key T ∧ Ro w g (P ++ (T ++ Q)) w'
end Sr
set_option maxRecDepth 100000 in
set_option maxHeartbeats 8000000 in
theorem symMerge_big (w W : World) (g cap fK : Nat) (cc : Array Value) (key : Int → Int) (dom : Int → Prop) (P L R Q : List Int) (a m b : Nat) (mn : Nat) (ha : a = P.length) (hm : m = P.length + L.length) (hb : b = P.length + L.length + R.length) (hn : mn = P.length + L.length + R.length + Q.length) (hbig : mn ≤ 2305843009213693952)
    (hl : 1 < L.length) (hr : 1 < R.length) (hc : Sr.CmpOk w g fK cc key dom) (hd : ∀ x ∈ L ++ R, dom x) (hsl : AdjS.Srt key L) (hsr : AdjS.Srt key R) (hx : ∀ x ∈ L, ∀ y ∈ R, x < y) (h : Sr.Ro w g (P ++ (L ++ (R ++ Q))) W)
    (hih : ∀ (P' L' R' Q' : List Int) (a' m' b' : Nat) (W' : World), a' = P'.length → m' = P'.length + L'.length → b' = P'.length + L'.length + R'.length → mn = P'.length + L'.length + R'.length + Q'.length → 0 < L'.length → 0 < R'.length → L'.length + R'.length < L.length + R.length → (∀ x ∈ L' ++ R', dom x) → AdjS.Srt key L' → AdjS.Srt key R' → (∀ x ∈ L', ∀ y ∈ R', x < y) → Sr.Ro w g (P' ++ (L' ++ (R' ++ Q'))) W' →
      Calls Try.prog 68 #[.slice (some ⟨g, 0, none⟩) mn cap, .int .i64 (a' : Int), .int .i64 (m' : Int), .int .i64 (b' : Int), .func (.func fK) #[] cc] W' (Sr.Merged w g key P' (L' ++ R') Q')) :
    Calls Try.prog 68 #[.slice (some ⟨g, 0, none⟩) mn cap, .int .i64 (a : Int), .int .i64 (m : Int), .int .i64 (b : Int), .func (.func fK) #[] cc] W (Sr.Merged w g key P (L ++ R) Q) := by
  have hcf := hc.1
  have HCM := Lib.hid hc.2
  have HDO := Lib.hid hd
  have HSL := Lib.hid hsl
  have HSR := Lib.hid hsr
  have HX := Lib.hid hx
  have HS := Lib.hid h
  have HIH := Lib.hid hih
  have HA := Lib.hid (And.intro ha (And.intro hm (And.intro hb hn)))
  have h1 : a + 1 < m := by omega
  have h2 : m + 1 < b := by omega
  have h3 : b ≤ mn := by omega
  have q1 : ((m : Int) - (a : Int) == 1) = false := by simp; omega
  have q2 : ((b : Int) - (m : Int) == 1) = false := by simp; omega
  obtain ⟨md, hmd⟩ : ∃ md : Nat, ((a : Int) + (b : Int)) / 2 = (md : Int) := ⟨((a + b) / 2 : Nat), by omega⟩
  have hm1 : a + b ≤ 2 * md + 1 := by omega
  have hm2 : 2 * md ≤ a + b := by omega
  obtain ⟨nn, hnn⟩ : ∃ nn : Nat, md + m = nn := ⟨_, rfl⟩
  have HNN := Lib.hid hnn
  have e1 : (md : Int) + (m : Int) = (nn : Int) := by omega
  have e2 : (nn : Int) - 1 = ((nn - 1 : Nat) : Int) := by omega
  obtain ⟨pp, hpp⟩ : ∃ pp : Nat, nn - 1 = pp := ⟨_, rfl⟩
  rw [hpp] at e2
  have HPP := Lib.hid hpp
  have hpp2 : pp + 1 = nn := by omega
  clear h ha hm hb hn hl hr hc hd hsl hsr hx hih hpp
  go_enter Try.func68, Try.ntmps68
  go_upto_if 140 with (fail)
  go_cut [20, 21] (fun s20 s21 wx => ∃ s0 r0 : Nat, s20 = .int .i64 (s0 : Int) ∧ s21 = .int .i64 (r0 : Int) ∧ ((s0 ≤ r0 ∧ a ≤ s0 ∧ r0 ≤ m) ∧ (nn ≤ b + s0 ∧ m + r0 ≤ nn) ∧ (s0 = a ∨ nn = b + s0) ∧ (r0 = m ∨ nn = m + r0)) ∧ wx = W)
  case first =>
    as_aux_lemma =>
      go_wp2_with fail
      · go_meet
        case rel => exact ⟨nn - b, md, by congr 1; omega, rfl, by omega, rfl⟩
      · go_meet
        case rel => exact ⟨a, m, rfl, rfl, by omega, rfl⟩
  case rest =>
    obtain ⟨s0, r0, rfl, rfl, hF, rfl⟩ := hcut
    have HF := Lib.hid hF
    obtain ⟨⟨f1, f2, f3⟩, ⟨f4, f5⟩, _, _⟩ := hF
    have HDL := Lib.hid (show (P ++ (L ++ (R ++ Q))).length = mn by have := HA.out; simp only [List.length_append]; omega)
    go_wp2_with fail
    go_loopw [20, 21] (fun sv rv wr => ∃ st r : Nat, sv = .int .i64 (st : Int) ∧ rv = .int .i64 (r : Int) ∧ (s0 ≤ st ∧ st ≤ r ∧ r ≤ r0) ∧ (st = s0 ∨ ¬ key ((P ++ (L ++ (R ++ Q))).getD (nn - st) 0) < key ((P ++ (L ++ (R ++ Q))).getD (st - 1) 0)) ∧ (r = r0 ∨ key ((P ++ (L ++ (R ++ Q))).getD (nn - 1 - r) 0) < key ((P ++ (L ++ (R ++ Q))).getD r 0)) ∧ Sr.Ro w g (P ++ (L ++ (R ++ Q))) wr) (fun sv rv _ => (intOf rv).toNat - (intOf sv).toNat)
    case atStart => exact ⟨s0, r0, rfl, rfl, by omega, .inl rfl, .inl rfl, HS.out⟩
    case round =>
      obtain ⟨st, r, rfl, rfl, hb1, hb2, hb3, hr⟩ := hrel
      have HB := Lib.hid (And.intro hb2 hb3)
      have HR := Lib.hid hr
      obtain ⟨g1, g2, g3⟩ := hb1
      clear hb2 hb3 hr
      by_cases hlt : st < r
      · obtain ⟨c, hc⟩ : ∃ c : Nat, ((st : Int) + (r : Int)) / 2 = (c : Int) := ⟨((st + r) / 2 : Nat), by omega⟩
        have hc1 : st ≤ c := by omega
        have hc2 : c < r := by omega
        obtain ⟨e, he⟩ : ∃ e : Nat, pp - c = e := ⟨_, rfl⟩
        have HEE := Lib.hid he
        have e3 : (pp : Int) - (c : Int) = (e : Int) := by omega
        have he1 : m ≤ e := by omega
        have he2 : e < b := by omega
        have i1 : (e : Int) < (mn : Int) := by omega
        have i2 : (c : Int) < (mn : Int) := by omega
        have w1 : IntKind.i64.wrap (e : Int) = (e : Int) := IntWalk.i64_in _ (by omega)
        have c1 := HR.out.getD (j := e) (by rw [HDL.out]; omega)
        have c2 := HR.out.getD (j := c) (by rw [HDL.out]; omega)
        have HXY := Lib.hid (show (P ++ (L ++ (R ++ Q))).getD e 0 ∈ R ∧ (P ++ (L ++ (R ++ Q))).getD c 0 ∈ L from by
          have hA := HA.out
          rw [AdjS.getD_right (by omega) (by omega), AdjS.getD_left (by omega) (by omega)]
          exact ⟨List.getElem_mem _, List.getElem_mem _⟩)
        obtain ⟨y, hy⟩ : ∃ y, (P ++ (L ++ (R ++ Q))).getD e 0 = y := ⟨_, rfl⟩
        obtain ⟨x, hx⟩ : ∃ x, (P ++ (L ++ (R ++ Q))).getD c 0 = x := ⟨_, rfl⟩
        rw [hy] at c1
        rw [hx] at c2
        rw [hx, hy] at HXY
        have HYX := Lib.hid (And.intro hy hx)
        have HCC := Lib.hid (fun W (hf : Sr.Fr w W g) => HCM.out y x (HDO.out y (List.mem_append.2 (.inr HXY.out.1))) (HDO.out x (List.mem_append.2 (.inl HXY.out.2))) W hf)
        obtain ⟨rr, hr0⟩ : ∃ r, AdjS.cmp3 (key y) (key x) = r := ⟨_, rfl⟩
        rw [hr0] at HCC
        have HRK := Lib.hid (show rr < 0 ↔ key y < key x by rw [← hr0]; exact AdjS.cmp3_neg)
        clear hr0 hx hy he
        go_upto_region 35 with (fail)
        clear hc
        refine wp_region_T (fun w' => w'.cell? ⟨g, e, none⟩ = some (.int .i64 y) ∧ w'.cell? ⟨g, c, none⟩ = some (.int .i64 x)) 11 (fun _ => True) 11 14 rfl (by kernel_rfl) ⟨⟨c1, c2⟩, trivial⟩ (fun hHeld => ?_)
        simp only [List.replicate_succ, List.replicate_zero]
        refine wpT_takeC [] 0 158 (v := ?_) hHeld.1 hHeld.2 rfl rfl (by kernel_rfl) (fun _ _ _ h => h) (yields_yes rfl ?_) ?_
        rotate_left
        · (intro w hSw; (try dsimp only at hSw); go_simp; try with_reducible rfl)
        try simp only [Act.put, List.setIfInBounds_toArray, List.set_cons_zero, List.set_cons_succ]
        refine wpT_takeC [5, 6] 1 159 (v := ?_) hHeld.1 hHeld.2 rfl rfl (by kernel_rfl) (fun _ _ _ h => h) (yields_yes rfl ?_) ?_
        rotate_left
        · (intro w hSw; (try dsimp only at hSw); go_simp; try with_reducible rfl)
        try simp only [Act.put, List.setIfInBounds_toArray, List.set_cons_zero, List.set_cons_succ]
        refine wpT_takeC [4, 5, 6] 2 160 (v := ?_) hHeld.1 hHeld.2 rfl rfl (by kernel_rfl) (fun _ _ _ h => h) (yields_yes rfl ?_) ?_
        rotate_left
        · (intro w hSw; (try dsimp only at hSw); go_simp; try with_reducible rfl)
        try simp only [Act.put, List.setIfInBounds_toArray, List.set_cons_zero, List.set_cons_succ]
        refine wpT_takeC [4, 5, 6] 3 161 (v := ?_) hHeld.1 hHeld.2 rfl rfl (by kernel_rfl) (fun _ _ _ h => h) (yields_yes rfl ?_) ?_
        rotate_left
        · (intro w hSw; (try dsimp only at hSw); go_simp; try with_reducible rfl)
        try simp only [Act.put, List.setIfInBounds_toArray, List.set_cons_zero, List.set_cons_succ]
        refine wpT_takeC [5, 6] 4 162 (v := ?_) hHeld.1 hHeld.2 rfl rfl (by kernel_rfl) (fun _ _ _ h => h) (yields_yes rfl ?_) ?_
        rotate_left
        · (intro w hSw; (try dsimp only at hSw); go_simp; try with_reducible rfl)
        try simp only [Act.put, List.setIfInBounds_toArray, List.set_cons_zero, List.set_cons_succ]
        refine wpT_takeC [6] 5 163 (v := ?_) hHeld.1 hHeld.2 rfl rfl (by kernel_rfl) (fun _ _ _ h => h) (yields_yes rfl ?_) ?_
        rotate_left
        · (intro w hSw; (try dsimp only at hSw); go_simp; try with_reducible rfl)
        try simp only [Act.put, List.setIfInBounds_toArray, List.set_cons_zero, List.set_cons_succ]
        refine wpT_takeC [] 6 164 (v := ?_) hHeld.1 hHeld.2 rfl rfl (by kernel_rfl) (fun _ _ _ h => h) (yields_yes rfl ?_) ?_
        rotate_left
        · (intro w hSw; (try dsimp only at hSw); go_simp; try with_reducible rfl)
        try simp only [Act.put, List.setIfInBounds_toArray, List.set_cons_zero, List.set_cons_succ]
        refine wpT_takeC [9, 10] 7 165 (v := ?_) hHeld.1 hHeld.2 rfl rfl (by kernel_rfl) (fun _ _ _ h => h) (yields_yes rfl ?_) ?_
        rotate_left
        · (intro w hSw; (try dsimp only at hSw); go_simp; try with_reducible rfl)
        try simp only [Act.put, List.setIfInBounds_toArray, List.set_cons_zero, List.set_cons_succ]
        refine wpT_takeC [9, 10] 8 166 (v := ?_) hHeld.1 hHeld.2 rfl rfl (by kernel_rfl) (fun _ _ _ h => h) (yields_yes rfl ?_) ?_
        rotate_left
        · (intro w hSw; (try dsimp only at hSw); go_simp; try with_reducible rfl)
        try simp only [Act.put, List.setIfInBounds_toArray, List.set_cons_zero, List.set_cons_succ]
        refine wpT_takeC [10] 9 167 (v := ?_) hHeld.1 hHeld.2 rfl rfl (by kernel_rfl) (fun _ _ _ h => h) (yields_yes rfl ?_) ?_
        rotate_left
        · (intro w hSw; (try dsimp only at hSw); go_simp; try with_reducible rfl)
        try simp only [Act.put, List.setIfInBounds_toArray, List.set_cons_zero, List.set_cons_succ]
        refine wpT_takeC [] 10 168 (v := ?_) hHeld.1 hHeld.2 rfl rfl (by kernel_rfl) (fun _ _ _ h => h) (yields_yes rfl ?_) ?_
        rotate_left
        · (intro w hSw; (try dsimp only at hSw); go_simp; try with_reducible rfl)
        try simp only [Act.put, List.setIfInBounds_toArray, List.set_cons_zero, List.set_cons_succ]
        have HRD := Lib.hid HR.out.drew
        generalize wr.drew = wd at HRD hHeld ⊢
        refine wpT_one 11 (by kernel_rfl) (Sr.stepT_w rfl rfl (fun K hK => ?_))
        go_simp
        ((with_reducible refine (HCC.out _ HRD.out.fr).mono ?_); rintro e5 w5 ⟨rfl, hb5⟩)
        have HJD := Lib.hid (HRD.out.below hb5)
        refine hK.out _ _ ⟨⟨(HJD.out.getD (j := e) (by rw [HDL.out]; omega)).trans (by rw [HYX.out.1]), (HJD.out.getD (j := c) (by rw [HDL.out]; omega)).trans (by rw [HYX.out.2])⟩, trivial⟩ (fun hHeld2 => ?_)
        clear hb5
        clear hK K hHeld
        have hHeld := hHeld2
        clear hHeld2
        try simp only [List.setIfInBounds_toArray, List.set_cons_zero, List.set_cons_succ]
        clear c1 c2
        by_cases hkx : key y < key x
        · have hr1 : decide (rr < 0) = true := decide_eq_true (HRK.out.2 hkx)
          have HK := Lib.hid hkx
          clear hkx
          refine wpT_tail [_, _] 12 [13] rfl (by kernel_rfl) ?_
          clear hHeld
          go_wp2_with fail
          go_roundw
          case rel => exact ⟨st, c, rfl, rfl, by omega, HB.out.1, .inr (by have h := HEE.out; rw [show nn - 1 - c = e by omega, HYX.out.1, HYX.out.2]; exact HK.out), HJD.out⟩
          case measure => simp [intOf]; omega
        · have hr1 : decide (rr < 0) = false := decide_eq_false (fun h => hkx (HRK.out.1 h))
          have HK := Lib.hid hkx
          clear hkx
          refine wpT_tail [_, _] 12 [13] rfl (by kernel_rfl) ?_
          clear hHeld
          go_wp2_with fail
          go_roundw
          case rel => exact ⟨c + 1, r, by go_num, rfl, by omega, .inr (by have h := HEE.out; rw [show nn - (c + 1) = e by omega, Nat.add_sub_cancel, HYX.out.1, HYX.out.2]; exact HK.out), HB.out.2, HJD.out⟩
          case measure => simp [intOf]; omega
      · obtain rfl : st = r := by omega
        obtain ⟨ee, hee⟩ : ∃ ee : Nat, nn - st = ee := ⟨_, rfl⟩
        have e4 : (nn : Int) - (st : Int) = (ee : Int) := by omega
        have he1 : m ≤ ee := by omega
        have he2 : ee ≤ b := by omega
        have hse : st + ee = nn := by omega
        have HSP := Lib.hid (show (∀ x ∈ L.take (st - a), ∀ y ∈ R.drop (ee - m), AdjS.lt key x y) ∧ (∀ x ∈ R.take (ee - m), ∀ y ∈ L.drop (st - a), AdjS.lt key x y) from by
          have hA := HA.out
          have hF := HF.out
          have hBB := HB.out
          have h := AdjS.split_less (k := key) (P := P) (L := L) (R := R) (Q := Q) (n := nn) (st := st) HSL.out HSR.out HX.out (by omega) (by omega) (by omega) (by omega) (by omega) (by
            rcases hBB.1 with h0 | h0
            · rcases hF.2.2.1 with h4 | h4
              · left; omega
              · right; left; omega
            · right; right; exact h0) (by
            rcases hBB.2 with h0 | h0
            · rcases hF.2.2.2 with h4 | h4
              · left; omega
              · right; left; omega
            · right; right; exact h0)
          rw [show nn - st - P.length - L.length = ee - m by omega, show st - P.length = st - a by omega] at h
          exact h)
        obtain ⟨L1, hL1⟩ : ∃ L1, L.take (st - a) = L1 := ⟨_, rfl⟩
        obtain ⟨L2, hL2⟩ : ∃ L2, L.drop (st - a) = L2 := ⟨_, rfl⟩
        obtain ⟨R1, hR1⟩ : ∃ R1, R.take (ee - m) = R1 := ⟨_, rfl⟩
        obtain ⟨R2, hR2⟩ : ∃ R2, R.drop (ee - m) = R2 := ⟨_, rfl⟩
        have HLL := Lib.hid (show L = L1 ++ L2 by rw [← hL1, ← hL2, List.take_append_drop])
        have HRR := Lib.hid (show R = R1 ++ R2 by rw [← hR1, ← hR2, List.take_append_drop])
        have HLN := Lib.hid (show a + L1.length = st ∧ st + L2.length = m ∧ m + R1.length = ee ∧ ee + R2.length = b from by
          have hA := HA.out
          rw [← hL1, ← hL2, ← hR1, ← hR2, List.length_take, List.length_drop, List.length_take, List.length_drop]
          omega)
        rw [hL1, hL2, hR1, hR2] at HSP
        clear hL1 hL2 hR1 hR2 hee HB HF
        have HSL2 := Lib.hid (show AdjS.Srt key (L1 ++ L2) by rw [← HLL.out]; exact HSL.out)
        have HSR2 := Lib.hid (show AdjS.Srt key (R1 ++ R2) by rw [← HRR.out]; exact HSR.out)
        have HR0 := Lib.hid (show Sr.Ro w g (P ++ (L1 ++ (L2 ++ (R1 ++ (R2 ++ Q))))) wr by
          have h := HR.out
          rw [HLL.out, HRR.out] at h
          simpa only [List.append_assoc] using h)
        have HDX := Lib.hid (show ∀ x ∈ (L1 ++ L2) ++ (R1 ++ R2), dom x by rw [← HLL.out, ← HRR.out]; exact HDO.out)
        have HXX := Lib.hid (show ∀ x ∈ L1 ++ L2, ∀ y ∈ R1 ++ R2, x < y by rw [← HLL.out, ← HRR.out]; exact HX.out)
        have HA2 := Lib.hid (show a = P.length ∧ mn = P.length + L1.length + L2.length + R1.length + R2.length + Q.length from by
          have hA := HA.out
          have h5 : L.length = L1.length + L2.length := by rw [HLL.out, List.length_append]
          have h6 : R.length = R1.length + R2.length := by rw [HRR.out, List.length_append]
          omega)
        have HIH2 := Lib.hid (show ∀ (P' L' R' Q' : List Int) (a' m' b' : Nat) (W' : World), a' = P'.length → m' = P'.length + L'.length → b' = P'.length + L'.length + R'.length → mn = P'.length + L'.length + R'.length + Q'.length → 0 < L'.length → 0 < R'.length → L'.length + R'.length < L1.length + L2.length + R1.length + R2.length → (∀ x ∈ L' ++ R', dom x) → AdjS.Srt key L' → AdjS.Srt key R' → (∀ x ∈ L', ∀ y ∈ R', x < y) → Sr.Ro w g (P' ++ (L' ++ (R' ++ Q'))) W' →
            Calls Try.prog 68 #[.slice (some ⟨g, 0, none⟩) mn cap, .int .i64 (a' : Int), .int .i64 (m' : Int), .int .i64 (b' : Int), .func (.func fK) #[] cc] W' (Sr.Merged w g key P' (L' ++ R') Q') from fun P' L' R' Q' a' m' b' W' z1 z2 z3 z4 z5 z6 z7 =>
          HIH.out P' L' R' Q' a' m' b' W' z1 z2 z3 z4 z5 z6 (by rw [HLL.out, HRR.out, List.length_append, List.length_append]; omega))
        have HPM := Lib.hid (show ∀ T : List Int, T.Perm ((L1 ++ L2) ++ (R1 ++ R2)) → T.Perm (L ++ R) by rw [HLL.out, HRR.out]; exact fun T h => h)
        clear HIH HX HDO HSL HSR HA HR HDL HS
        clear HLL HRR
        go_upto_region 39 with (fail)
        go_cut [185] (fun s185 wx => ∃ t : Bool, s185 = .bool t ∧ (t = true ↔ st < m ∧ m < ee) ∧ wx = wr)
        case first =>
          as_aux_lemma =>
            by_cases ha : st < m
            · by_cases hb : m < ee
              · go_wp2_with fail
                go_meet
                case rel => exact ⟨true, rfl, by simp [ha, hb], rfl⟩
              · have b1 : decide ((m : Int) < (ee : Int)) = false := decide_eq_false (by omega)
                have b2 : decide (m < ee) = false := decide_eq_false (by omega)
                have hbq := Lib.hid hb
                clear hb
                go_wp2_with fail
                go_meet
                case rel => exact ⟨false, rfl, by have := hbq.out; simp; omega, rfl⟩
            · have b1 : decide ((st : Int) < (m : Int)) = false := decide_eq_false (by omega)
              have b2 : decide (st < m) = false := decide_eq_false (by omega)
              have hbq := Lib.hid ha
              clear ha
              go_wp2_with fail
              go_meet
              case rel => exact ⟨false, rfl, by have := hbq.out; simp; omega, rfl⟩
        case rest =>
          obtain ⟨t1, rfl, ht1, rfl⟩ := hcut
          have HT1 := Lib.hid ht1
          clear ht1
          go_upto_if 185 with (fail)
          go_cut [185] (fun s185 wx => Sr.Ro w g (P ++ (L1 ++ (R1 ++ (L2 ++ (R2 ++ Q))))) wx)
          case first =>
            as_aux_lemma =>
              cases t1 with
              | true =>
                have h5 := HT1.out.1 rfl
                have HROT := Lib.hid (rotate_any w wc g cap (P ++ L1) L2 R1 (R2 ++ Q) (st : Int) (m : Int) (ee : Int) mn (.func (.func fK) #[] cc) (by have := HA2.out; have := HLN.out; rw [List.length_append]; omega) (by have := HA2.out; have := HLN.out; rw [List.length_append]; omega) (by have := HA2.out; have := HLN.out; rw [List.length_append]; omega) (by have := HA2.out; rw [List.length_append, List.length_append]; omega) (by omega) (by have := HLN.out; omega) (by have := HLN.out; omega) (by rw [List.append_assoc]; exact HR0.out))
                go_wp2_with fail
                ((with_reducible refine HROT.out.mono ?_); rintro e5 w5 ⟨rfl, hr5⟩)
                have HR5 := Lib.hid hr5
                clear hr5
                go_wp2_with fail
                go_meet
                case rel => have h := HR5.out; rwa [List.append_assoc] at h
              | false =>
                have HNO := Lib.hid (show L2 = [] ∨ R1 = [] from by
                  have h5 : ¬ (st < m ∧ m < ee) := fun h => by have := HT1.out.2 h; cases this
                  have h6 := HLN.out
                  by_cases h7 : L2.length = 0
                  · exact .inl (List.length_eq_zero_iff.1 h7)
                  · exact .inr (List.length_eq_zero_iff.1 (by omega)))
                go_wp2_with fail
                go_meet
                case rel =>
                  have h := HR0.out
                  rcases HNO.out with h5 | h5 <;> (subst h5; simpa only [List.nil_append, List.append_nil] using h)
          case rest =>
            have HR1 := Lib.hid hcut
            clear hcut HR0 HT1
            go_upto_region 41 with (fail)
            go_cut [199] (fun s199 wx => ∃ t : Bool, s199 = .bool t ∧ (t = true ↔ a < st ∧ st < md) ∧ wx = wc)
            case first =>
              as_aux_lemma =>
                by_cases ha : a < st
                · by_cases hb : st < md
                  · go_wp2_with fail
                    go_meet
                    case rel => exact ⟨true, rfl, by simp [ha, hb], rfl⟩
                  · have b1 : decide ((st : Int) < (md : Int)) = false := decide_eq_false (by omega)
                    have b2 : decide (st < md) = false := decide_eq_false (by omega)
                    have hbq := Lib.hid hb
                    clear hb
                    go_wp2_with fail
                    go_meet
                    case rel => exact ⟨false, rfl, by have := hbq.out; simp; omega, rfl⟩
                · have b1 : decide ((a : Int) < (st : Int)) = false := decide_eq_false (by omega)
                  have b2 : decide (a < st) = false := decide_eq_false (by omega)
                  have hbq := Lib.hid ha
                  clear ha
                  go_wp2_with fail
                  go_meet
                  case rel => exact ⟨false, rfl, by have := hbq.out; simp; omega, rfl⟩
            case rest =>
              obtain ⟨t2, rfl, ht2, rfl⟩ := hcut
              have HT2 := Lib.hid ht2
              clear ht2
              go_upto_if 199 with (fail)
              go_cut [199] (fun s199 wx => ∃ T1 : List Int, T1.Perm (L1 ++ R1) ∧ AdjS.Srt key T1 ∧ Sr.Ro w g (P ++ (T1 ++ (L2 ++ (R2 ++ Q)))) wx)
              case first =>
                as_aux_lemma =>
                  cases t2 with
                  | true =>
                    have h5 := HT2.out.1 rfl
                    have HREC := Lib.hid (HIH2.out P L1 R1 (L2 ++ (R2 ++ Q)) a st md wc (by have := HA2.out; omega) (by have := HA2.out; have := HLN.out; omega) (by have := HA2.out; have := HLN.out; have := HNN.out; omega) (by have := HA2.out; rw [List.length_append, List.length_append]; omega) (by have := HLN.out; omega) (by have := HLN.out; have := HNN.out; omega) (by have := HLN.out; have := HNN.out; omega)
                      (fun x hx => HDX.out x (by simp only [List.mem_append] at hx ⊢; rcases hx with hx | hx <;> simp [hx])) HSL2.out.left HSR2.out.left (fun x hx y hy => HXX.out x (List.mem_append.2 (.inl hx)) y (List.mem_append.2 (.inl hy))) HR1.out)
                    go_wp2_with fail
                    ((with_reducible refine HREC.out.mono ?_); rintro e5 w5 ⟨rfl, T1, p1, s1, r1⟩)
                    have HM := Lib.hid (And.intro p1 (And.intro s1 r1))
                    clear p1 s1 r1
                    go_wp2_with fail
                    go_meet
                    case rel => exact ⟨T1, HM.out⟩
                  | false =>
                    have HNO := Lib.hid (show L1 = [] ∨ R1 = [] from by
                      have h5 : ¬ (a < st ∧ st < md) := fun h => by have := HT2.out.2 h; cases this
                      have h6 := HLN.out
                      have h8 := HNN.out
                      by_cases h7 : L1.length = 0
                      · exact .inl (List.length_eq_zero_iff.1 h7)
                      · exact .inr (List.length_eq_zero_iff.1 (by omega)))
                    go_wp2_with fail
                    go_meet
                    case rel =>
                      refine ⟨L1 ++ R1, List.Perm.refl _, ?_, by rw [List.append_assoc]; exact HR1.out⟩
                      rcases HNO.out with h5 | h5
                      · rw [h5, List.nil_append]; exact HSR2.out.left
                      · rw [h5, List.append_nil]; exact HSL2.out.left
              case rest =>
                obtain ⟨T1, p1, s1, r1⟩ := hcut
                have HR2 := Lib.hid r1
                have HM1 := Lib.hid (And.intro p1 s1)
                have HTL := Lib.hid (show T1.length = L1.length + R1.length by rw [p1.length_eq, List.length_append])
                clear p1 s1 r1 HR1 HT2
                go_upto_region 43 with (fail)
                go_cut [213] (fun s213 wx => ∃ t : Bool, s213 = .bool t ∧ (t = true ↔ md < ee ∧ ee < b) ∧ wx = wc)
                case first =>
                  as_aux_lemma =>
                    by_cases ha : md < ee
                    · by_cases hb : ee < b
                      · go_wp2_with fail
                        go_meet
                        case rel => exact ⟨true, rfl, by simp [ha, hb], rfl⟩
                      · have b1 : decide ((ee : Int) < (b : Int)) = false := decide_eq_false (by omega)
                        have b2 : decide (ee < b) = false := decide_eq_false (by omega)
                        have hbq := Lib.hid hb
                        clear hb
                        go_wp2_with fail
                        go_meet
                        case rel => exact ⟨false, rfl, by have := hbq.out; simp; omega, rfl⟩
                    · have b1 : decide ((md : Int) < (ee : Int)) = false := decide_eq_false (by omega)
                      have b2 : decide (md < ee) = false := decide_eq_false (by omega)
                      have hbq := Lib.hid ha
                      clear ha
                      go_wp2_with fail
                      go_meet
                      case rel => exact ⟨false, rfl, by have := hbq.out; simp; omega, rfl⟩
                case rest =>
                  obtain ⟨t3, rfl, ht3, rfl⟩ := hcut
                  have HT3 := Lib.hid ht3
                  clear ht3
                  go_upto_if 213 with (fail)
                  cases t3 with
                  | true =>
                    have h5 := HT3.out.1 rfl
                    have HREC := Lib.hid (HIH2.out (P ++ T1) L2 R2 Q md ee b wc (by have := HA2.out; have := HLN.out; have := HNN.out; have := HTL.out; rw [List.length_append]; omega) (by have := HA2.out; have := HLN.out; have := HNN.out; have := HTL.out; rw [List.length_append]; omega) (by have := HA2.out; have := HLN.out; have := HNN.out; have := HTL.out; rw [List.length_append]; omega) (by have := HA2.out; have := HTL.out; rw [List.length_append]; omega) (by have := HLN.out; have := HNN.out; omega) (by have := HLN.out; omega) (by have := HLN.out; have := HNN.out; omega)
                      (fun x hx => HDX.out x (by simp only [List.mem_append] at hx ⊢; rcases hx with hx | hx <;> simp [hx])) HSL2.out.right HSR2.out.right (fun x hx y hy => HXX.out x (List.mem_append.2 (.inr hx)) y (List.mem_append.2 (.inr hy))) (by rw [List.append_assoc]; exact HR2.out))
                    go_wp2_with fail
                    ((with_reducible refine HREC.out.mono ?_); rintro e5 w5 ⟨rfl, T2, p2, s2, r2⟩)
                    have HM2 := Lib.hid (And.intro p2 (And.intro s2 r2))
                    clear p2 s2 r2
                    go_wp2_with fail
                    go_end0
                    obtain ⟨j1, j2⟩ := AdjS.merge_join HSL2.out HSR2.out HM1.out.1 HM2.out.1 HM1.out.2 HM2.out.2.1 HSP.out.1 HSP.out.2
                    exact ⟨rfl, T1 ++ T2, HPM.out _ j1, j2, by have h := HM2.out.2.2; rw [List.append_assoc] at h; rwa [List.append_assoc]⟩
                  | false =>
                    have HNO := Lib.hid (show L2 = [] ∨ R2 = [] from by
                      have h5 : ¬ (md < ee ∧ ee < b) := fun h => by have := HT3.out.2 h; cases this
                      have h6 := HLN.out
                      have h8 := HNN.out
                      by_cases h7 : L2.length = 0
                      · exact .inl (List.length_eq_zero_iff.1 h7)
                      · exact .inr (List.length_eq_zero_iff.1 (by omega)))
                    go_wp2_with fail
                    go_end0
                    have s2 : AdjS.Srt key (L2 ++ R2) := by
                      rcases HNO.out with h5 | h5
                      · rw [h5, List.nil_append]; exact HSR2.out.right
                      · rw [h5, List.append_nil]; exact HSL2.out.right
                    obtain ⟨j1, j2⟩ := AdjS.merge_join HSL2.out HSR2.out HM1.out.1 (List.Perm.refl (L2 ++ R2)) HM1.out.2 s2 HSP.out.1 HSP.out.2
                    exact ⟨rfl, T1 ++ (L2 ++ R2), HPM.out _ j1, j2, by have h := HR2.out; simpa only [List.append_assoc] using h⟩
end Go.Proofs.Ytkopkicdmbnpgaa
