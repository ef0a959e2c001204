/-
  The walk of slices.insertionSortCmpFunc at numbers. Conditions: the row can be written; what is asked answers by a key.
-/
import Derived.Test.YtkopkicdmbnpgaaSortA
namespace Go.Proofs.Ytkopkicdmbnpgaa
set_option linter.unusedVariables false
open Go.RowKit Adj

namespace Sr
/-- A function asked of two numbers: it compares keys, wherever the row alone has been turned. -/
def CmpOk (w : World) (g fK : Nat) (cap : Array Value) (key : Int → Int) (dom : Int → Prop) : Prop :=
  (∀ (args : Array Value) (W : World), (callFunc fK args).run Try.prog W = .ok (.enter fK args) W) ∧
    ∀ x y : Int, dom x → dom y → ∀ W, Fr w W g → Calls Try.prog fK (#[.int .i64 x, .int .i64 y] ++ cap) W fun e W' => e = .returned (.int .i64 (AdjS.cmp3 (key x) (key y))) ∧ Below W.heap.size W W'
theorem stepT_w {P : Program} {ops : Array Oper} {Q : Exit → Act → World → Prop} {md : Region.Mode} {S R : World → Prop} {t0 t1 fuel : Nat} {listed : Array Bool} {a : Act} {w : World} {i : Nat} {o : Oper} (ho : ops[i]? = some o) (hw : Region.wanted o (yielded ops a.tmps) = true)
    (h : ∀ K : Act → World → Prop, Shut (∀ a w, S w ∧ R w → (S w ∧ R w → wpT P md ops Q S t0 R t1 fuel (listed.setIfInBounds i true) a w) → K a w) → Oper.wp P o a w K Q) : StepT P md ops Q S t0 R t1 fuel listed a w i := by
  unfold StepT wpOp
  rw [ho]
  simp only [hw, if_true]
  exact .inl (h _ (fun a w hSR hW => ⟨⟨fun _ => hSR.1, fun _ => hSR.2⟩, hW hSR⟩))
end Sr
set_option maxRecDepth 100000 in
set_option maxHeartbeats 4000000 in
theorem insertion_any (w W : World) (g cap fK : Nat) (cc : Array Value) (key : Int → Int) (dom : Int → Prop) (P S Q : List Int) (a b : Int) (mn : Nat) (ha : a = (P.length : Int)) (hb : b = (P.length : Int) + S.length) (hn : mn = P.length + S.length + Q.length) (hbig : mn ≤ 4611686018427387904)
    (hc : Sr.CmpOk w g fK cc key dom) (hd : ∀ x ∈ S, dom x) (hs : S.Pairwise (· < ·)) (h : Sr.Ro w g (P ++ (S ++ Q)) W) :
    Calls Try.prog 67 #[.slice (some ⟨g, 0, none⟩) mn cap, .int .i64 a, .int .i64 b, .func (.func fK) #[] cc] W fun e w' => e = .returned (.tuple #[]) ∧ ∃ T, T.Perm S ∧ AdjS.Srt key T ∧ Sr.Ro w g (P ++ (T ++ Q)) w' := by
  obtain ⟨pl, hpl⟩ : ∃ pl, P.length = pl := ⟨_, rfl⟩
  obtain ⟨sl, hsl⟩ : ∃ sl, S.length = sl := ⟨_, rfl⟩
  obtain rfl : a = (pl : Int) := by omega
  obtain rfl : b = ((pl + sl : Nat) : Int) := by omega
  obtain ⟨bb, hbb⟩ : ∃ bb, pl + sl = bb := ⟨_, rfl⟩
  rw [hbb]
  have HPL := Lib.hid (And.intro hpl (And.intro hsl hbb))
  have HN := Lib.hid hn
  have h3 : bb ≤ mn := by omega
  have h4 : pl ≤ bb := by omega
  have hcf := hc.1
  have HCM := Lib.hid hc.2
  have HDO := Lib.hid hd
  have HAS := Lib.hid hs
  have HS := Lib.hid h
  clear h hpl hsl ha hb hn hbb hc hd hs
  go_enter Try.func67, Try.ntmps67
  go_wp2_with fail
  go_loopw [8] (fun i wr => ∃ (ii k : Nat) (T : List Int), i = .int .i64 (ii : Int) ∧ (ii = pl + k ∧ 1 ≤ k ∧ (k ≤ 1 ∨ pl + k ≤ bb)) ∧ T.Perm (S.take k) ∧ AdjS.Srt key T ∧ Sr.Ro w g (P ++ (T ++ (S.drop k ++ Q))) wr) (fun i _ => bb + 1 - (intOf i).toNat)
  case atStart =>
    refine ⟨pl + 1, 1, S.take 1, by go_num, ⟨rfl, by omega, by omega⟩, List.Perm.refl _, ?_, by rw [← List.append_assoc (S.take 1), List.take_append_drop]; exact HS.out⟩
    cases S with
    | nil => exact List.Pairwise.nil
    | cons x S => exact List.pairwise_singleton _ _
  case round =>
    obtain ⟨ii, k, T, rfl, ⟨hik, hk1, hk2⟩, hp, ht, hr⟩ := hrel
    have HR := Lib.hid hr
    have HIK := Lib.hid hik
    have hib : ii ≤ bb + 1 := by omega
    have hpi : pl < ii := by omega
    by_cases hlt : ii < bb
    · have hkS : k < S.length := by have := HPL.out; omega
      obtain ⟨x, hx⟩ : ∃ x, S[k] = x := ⟨_, rfl⟩
      have hTl : T.length = k := by rw [hp.length_eq, List.length_take]; omega
      have hrx : Sr.Ro w g (AdjS.slid P T x (S.drop (k + 1) ++ Q) T.length) wr := by
        rw [AdjS.slid_top]
        rw [List.drop_eq_getElem_cons hkS, hx] at hr
        exact hr
      have HRX := Lib.hid hrx
      have HX := Lib.hid (show ∀ t ∈ T, t < x from fun t ht2 => by
        have h1 := hp.subset ht2
        have h2 := HAS.out
        rw [← List.take_append_drop k S] at h2
        have h3 := (List.pairwise_append.1 h2).2.2 t h1 x (by rw [List.drop_eq_getElem_cons hkS, hx]; exact List.mem_cons_self ..)
        exact h3)
      have HDX := Lib.hid (show dom x ∧ ∀ t ∈ T, dom t from ⟨by rw [← hx]; exact HDO.out _ (List.getElem_mem hkS), fun t ht2 => HDO.out t (List.mem_of_mem_take (hp.subset ht2))⟩)
      have HLN := Lib.hid (show ∀ q ≤ T.length, (AdjS.slid P T x (S.drop (k + 1) ++ Q) q).length = mn from fun q hq => by
        rw [AdjS.slid_length P T x _ hq, List.length_append, List.length_drop]
        have := HN.out; omega)
      have HDN := Lib.hid (show ∀ q ≤ T.length, (∀ t ∈ T.drop q, AdjS.lt key x t) → (q = 0 ∨ ∃ (h : q - 1 < T.length), ¬ key x < key T[q - 1]) → ∃ T', T'.Perm (S.take (k + 1)) ∧ AdjS.Srt key T' ∧ P ++ (T' ++ (S.drop (k + 1) ++ Q)) = AdjS.slid P T x (S.drop (k + 1) ++ Q) q from fun q hq hgt hend => by
        refine ⟨T.take q ++ x :: T.drop q, ?_, ?_, by unfold AdjS.slid; simp⟩
        · rw [List.take_succ_eq_append_getElem hkS, hx]
          refine (List.perm_middle).trans ?_
          rw [List.take_append_drop]
          exact ((List.perm_cons x).2 hp).trans (List.perm_append_singleton x _).symm
        · refine AdjS.srt_insert (by rw [List.take_append_drop]; exact ht) hgt ?_
          rcases hend with h0 | ⟨h0, h1⟩
          · left; rw [h0]; rfl
          · rcases Nat.eq_zero_or_pos q with hq0 | hq0
            · left; rw [hq0]; rfl
            · right
              refine ⟨T.take (q - 1), T[q - 1], ?_, AdjS.lt_left (HX.out _ (List.getElem_mem h0)) (by omega)⟩
              rw [← List.take_succ_eq_append_getElem h0, show q - 1 + 1 = q by omega])
      have HTL := Lib.hid hTl
      have htl : T.length + pl = ii := by omega
      clear hp ht hr hrx hik hk2 hx hTl hkS HR
      obtain ⟨R, hR⟩ : ∃ R, S.drop (k + 1) ++ Q = R := ⟨_, rfl⟩
      rw [hR] at HRX HLN HDN
      have HRR := Lib.hid hR
      clear hR
      go_wp2_with fail
      go_loopw [9] (fun j wr => ∃ (jj q : Nat), j = .int .i64 (jj : Int) ∧ (jj = pl + q ∧ q ≤ T.length) ∧ (∀ t ∈ T.drop q, AdjS.lt key x t) ∧ Sr.Ro w g (AdjS.slid P T x R q) wr) (fun j _ => (intOf j).toNat)
      case atStart => exact ⟨ii, T.length, rfl, ⟨by omega, Nat.le_refl _⟩, by simp, HRX.out⟩
      case round =>
        obtain ⟨jj, q, rfl, ⟨hjq, hq⟩, hgt, hr⟩ := hrel
        have HR := Lib.hid hr
        have HGT := Lib.hid hgt
        have HJQ := Lib.hid hjq
        have hjm : jj < mn := by omega
        have hpj : pl ≤ jj := by omega
        clear hr hgt
        by_cases h0 : jj = pl
        · have HE := Lib.hid (HDN.out q hq HGT.out (.inl (by omega)))
          subst h0
          clear hjq
          go_upto_region 4 with (fail)
          go_quiet (fail)
          have HR2 := Lib.hid (fun m => HR.out.drewN m)
          go_wp2_with fail
          go_roundw
          case rel =>
            obtain ⟨T', e1, e2, e3⟩ := HE.out
            exact ⟨ii + 1, k + 1, T', by go_num, ⟨by have := HIK.out; omega, by omega, by have := HIK.out; omega⟩, e1, e2, by rw [HRR.out, e3]; exact HR2.out _⟩
          case measure => simp [intOf]; omega
        · obtain ⟨q', rfl⟩ : ∃ q', q = q' + 1 := ⟨q - 1, by omega⟩
          have hq' : q' < T.length := by omega
          have HDL := Lib.hid (HLN.out (q' + 1) hq)
          obtain ⟨t, ht⟩ : ∃ t, T[q'] = t := ⟨_, rfl⟩
          obtain ⟨j1, hj1⟩ : ∃ j1 : Nat, jj = j1 + 1 := ⟨jj - 1, by omega⟩
          have e1 : pl + q' = j1 := by omega
          have HP1 := Lib.hid (show P.length = pl from HPL.out.1)
          have c1 := HR.out.getD (j := jj) (by rw [HDL.out]; exact hjm)
          have c2 := HR.out.getD (j := j1) (by rw [HDL.out]; omega)
          have v1 : (AdjS.slid P T x R (q' + 1)).getD jj 0 = x := by
            have h := AdjS.slid_here P T x R hq
            rw [HP1.out, ← hjq] at h; exact h
          have v2 : (AdjS.slid P T x R (q' + 1)).getD j1 0 = t := by
            have h := AdjS.slid_below P T x R hq'
            rw [HP1.out, e1, ht] at h; exact h
          rw [v1] at c1
          rw [v2] at c2
          have HSL := Lib.hid (show AdjS.swap2 (AdjS.slid P T x R (q' + 1)) jj j1 = AdjS.slid P T x R q' by
            have h := AdjS.slid_step P T x R hq'
            rw [HP1.out, ← hjq, e1] at h; exact h)
          have HVV := Lib.hid (And.intro v1 v2)
          have HCC := Lib.hid (fun W (hf : Sr.Fr w W g) => HCM.out x t HDX.out.1 (HDX.out.2 t (by rw [← ht]; exact List.getElem_mem hq')) W hf)
          have htx : t < x := HX.out t (by rw [← ht]; exact List.getElem_mem hq')
          have HTT := Lib.hid ht
          have HE1 := Lib.hid (And.intro e1 hj1)
          have w1 : IntKind.i64.wrap (j1 : Int) = (j1 : Int) := IntWalk.i64_in _ (by omega)
          have w2 : (jj : Int) - 1 = (j1 : Int) := by omega
          have i1 : (jj : Int) < (mn : Int) := by omega
          have i2 : (j1 : Int) < (mn : Int) := by omega
          have b1 : decide ((pl : Int) < (jj : Int)) = true := decide_eq_true (by omega)
          have b2 : decide (pl < jj) = true := decide_eq_true (by omega)
          obtain ⟨r, hr0⟩ : ∃ r, AdjS.cmp3 (key x) (key t) = r := ⟨_, rfl⟩
          rw [hr0] at HCC
          have HRK := Lib.hid (show r < 0 ↔ key x < key t by rw [← hr0]; exact AdjS.cmp3_neg)
          clear hjq v1 v2 e1 hj1 hr0 ht h0
          go_upto_region 4 with (fail)
          refine wp_region_T (fun w' => w'.cell? ⟨g, jj, none⟩ = some (.int .i64 x) ∧ w'.cell? ⟨g, j1, none⟩ = some (.int .i64 t)) 14 (fun _ => True) 14 17 rfl (by kernel_rfl) ⟨⟨c1, c2⟩, trivial⟩ (fun hHeld => ?_)
          simp only [List.replicate_succ, List.replicate_zero]
          refine wpT_takeC [2, 3] 0 18 (v := ?_) hHeld.1 hHeld.2 rfl rfl (by kernel_rfl) (fun _ _ _ h => h) (yields_yes rfl ?_) ?_
          rotate_left
          · (intro w hSw; (try dsimp only at hSw); go_simp; try with_reducible rfl)
          try simp only [Act.put, List.setIfInBounds_toArray, List.set_cons_zero, List.set_cons_succ]
          refine wpT_takeC [2, 3] 1 19 (v := ?_) hHeld.1 hHeld.2 rfl rfl (by kernel_rfl) (fun _ _ _ h => h) (yields_yes rfl ?_) ?_
          rotate_left
          · (intro w hSw; (try dsimp only at hSw); go_simp; try with_reducible rfl)
          try simp only [Act.put, List.setIfInBounds_toArray, List.set_cons_zero, List.set_cons_succ]
          refine wpT_takeC [3] 2 20 (v := ?_) hHeld.1 hHeld.2 rfl rfl (by kernel_rfl) (fun _ _ _ h => h) (yields_yes rfl ?_) ?_
          rotate_left
          · (intro w hSw; (try dsimp only at hSw); go_simp; try with_reducible rfl)
          try simp only [Act.put, List.setIfInBounds_toArray, List.set_cons_zero, List.set_cons_succ]
          refine wpT_takeC [] 3 21 (v := ?_) hHeld.1 hHeld.2 rfl rfl (by kernel_rfl) (fun _ _ _ h => h) (yields_yes rfl ?_) ?_
          rotate_left
          · (intro w hSw; (try dsimp only at hSw); go_simp; try with_reducible rfl)
          try simp only [Act.put, List.setIfInBounds_toArray, List.set_cons_zero, List.set_cons_succ]
          refine wpT_takeC [] 4 22 (v := ?_) hHeld.1 hHeld.2 rfl rfl (by kernel_rfl) (fun _ _ _ h => h) (yields_yes rfl ?_) ?_
          rotate_left
          · (intro w hSw; (try dsimp only at hSw); go_simp; try with_reducible rfl)
          try simp only [Act.put, List.setIfInBounds_toArray, List.set_cons_zero, List.set_cons_succ]
          refine wpT_takeC [7, 8] 5 23 (v := ?_) hHeld.1 hHeld.2 rfl rfl (by kernel_rfl) (fun _ _ _ h => h) (yields_yes rfl ?_) ?_
          rotate_left
          · (intro w hSw; (try dsimp only at hSw); go_simp; try with_reducible rfl)
          try simp only [Act.put, List.setIfInBounds_toArray, List.set_cons_zero, List.set_cons_succ]
          refine wpT_takeC [7, 8] 6 24 (v := ?_) hHeld.1 hHeld.2 rfl rfl (by kernel_rfl) (fun _ _ _ h => h) (yields_yes rfl ?_) ?_
          rotate_left
          · (intro w hSw; (try dsimp only at hSw); go_simp; try with_reducible rfl)
          try simp only [Act.put, List.setIfInBounds_toArray, List.set_cons_zero, List.set_cons_succ]
          refine wpT_takeC [8] 7 25 (v := ?_) hHeld.1 hHeld.2 rfl rfl (by kernel_rfl) (fun _ _ _ h => h) (yields_yes rfl ?_) ?_
          rotate_left
          · (intro w hSw; (try dsimp only at hSw); go_simp; try with_reducible rfl)
          try simp only [Act.put, List.setIfInBounds_toArray, List.set_cons_zero, List.set_cons_succ]
          refine wpT_takeC [] 8 26 (v := ?_) hHeld.1 hHeld.2 rfl rfl (by kernel_rfl) (fun _ _ _ h => h) (yields_yes rfl ?_) ?_
          rotate_left
          · (intro w hSw; (try dsimp only at hSw); go_simp; try with_reducible rfl)
          try simp only [Act.put, List.setIfInBounds_toArray, List.set_cons_zero, List.set_cons_succ]
          refine wpT_takeC [12, 13] 9 27 (v := ?_) hHeld.1 hHeld.2 rfl rfl (by kernel_rfl) (fun _ _ _ h => h) (yields_yes rfl ?_) ?_
          rotate_left
          · (intro w hSw; (try dsimp only at hSw); go_simp; try with_reducible rfl)
          try simp only [Act.put, List.setIfInBounds_toArray, List.set_cons_zero, List.set_cons_succ]
          refine wpT_takeC [11, 12, 13] 10 28 (v := ?_) hHeld.1 hHeld.2 rfl rfl (by kernel_rfl) (fun _ _ _ h => h) (yields_yes rfl ?_) ?_
          rotate_left
          · (intro w hSw; (try dsimp only at hSw); go_simp; try with_reducible rfl)
          try simp only [Act.put, List.setIfInBounds_toArray, List.set_cons_zero, List.set_cons_succ]
          refine wpT_takeC [12, 13] 11 29 (v := ?_) hHeld.1 hHeld.2 rfl rfl (by kernel_rfl) (fun _ _ _ h => h) (yields_yes rfl ?_) ?_
          rotate_left
          · (intro w hSw; (try dsimp only at hSw); go_simp; try with_reducible rfl)
          try simp only [Act.put, List.setIfInBounds_toArray, List.set_cons_zero, List.set_cons_succ]
          refine wpT_takeC [13] 12 30 (v := ?_) hHeld.1 hHeld.2 rfl rfl (by kernel_rfl) (fun _ _ _ h => h) (yields_yes rfl ?_) ?_
          rotate_left
          · (intro w hSw; (try dsimp only at hSw); go_simp; try with_reducible rfl)
          try simp only [Act.put, List.setIfInBounds_toArray, List.set_cons_zero, List.set_cons_succ]
          refine wpT_takeC [] 13 31 (v := ?_) hHeld.1 hHeld.2 rfl rfl (by kernel_rfl) (fun _ _ _ h => h) (yields_yes rfl ?_) ?_
          rotate_left
          · (intro w hSw; (try dsimp only at hSw); go_simp; try with_reducible rfl)
          try simp only [Act.put, List.setIfInBounds_toArray, List.set_cons_zero, List.set_cons_succ]
          have HRD := Lib.hid HR.out.drew
          generalize wr.drew = wd at HRD hHeld ⊢
          refine wpT_one 14 (by kernel_rfl) (Sr.stepT_w rfl rfl (fun K hK => ?_))
          go_simp
          ((with_reducible refine (HCC.out _ HRD.out.fr).mono ?_); rintro e w5 ⟨rfl, hb5⟩)
          have HJD := Lib.hid (HRD.out.below hb5)
          refine hK.out _ _ ⟨⟨(HJD.out.getD (j := jj) (by rw [HDL.out]; exact hjm)).trans (by rw [HVV.out.1]), (HJD.out.getD (j := j1) (by rw [HDL.out]; omega)).trans (by rw [HVV.out.2])⟩, trivial⟩ (fun hHeld2 => ?_)
          clear hb5
          clear hK K hHeld
          have hHeld := hHeld2
          clear hHeld2
          try simp only [List.setIfInBounds_toArray, List.set_cons_zero, List.set_cons_succ]
          clear c1 c2
          by_cases hkx : key x < key t
          · have hr1 : decide (r < 0) = true := decide_eq_true (HRK.out.2 hkx)
            have HGT2 := Lib.hid (show ∀ u ∈ T.drop q', AdjS.lt key x u from fun u hu => by
              rw [List.drop_eq_getElem_cons hq'] at hu
              rcases List.mem_cons.1 hu with rfl | hu
              · rw [HTT.out]; exact AdjS.lt_right hkx
              · exact HGT.out u hu)
            clear hkx
            refine wpT_tail [_, _] 15 [16] rfl (by kernel_rfl) ?_
            clear hHeld
            go_upto_region 6 with (fail)
            have c1 := (HJD.out.getD (j := jj) (by rw [HDL.out]; exact hjm)).trans (by rw [HVV.out.1])
            have c2 := (HJD.out.getD (j := j1) (by rw [HDL.out]; omega)).trans (by rw [HVV.out.2])
            refine wp_region_T (fun w' => w'.cell? ⟨g, jj, none⟩ = some (.int .i64 x) ∧ w'.cell? ⟨g, j1, none⟩ = some (.int .i64 t)) 14 (fun _ => True) 14 18 rfl (by kernel_rfl) ⟨⟨c1, c2⟩, trivial⟩ (fun hHeld => ?_)
            simp only [List.replicate_succ, List.replicate_zero]
            refine wpT_take 0 37 (v := ?_) hHeld.1 hHeld.2 rfl rfl (by kernel_rfl) (fun _ _ _ h => h) rfl ?_ ?_
            rotate_left
            · (intro w hSw; (try dsimp only at hSw); go_simp; try with_reducible rfl)
            try simp only [Act.put, List.setIfInBounds_toArray, List.set_cons_zero, List.set_cons_succ]
            refine wpT_take 1 38 (v := ?_) hHeld.1 hHeld.2 rfl rfl (by kernel_rfl) (fun _ _ _ h => h) rfl ?_ ?_
            rotate_left
            · (intro w hSw; (try dsimp only at hSw); go_simp; try with_reducible rfl)
            try simp only [Act.put, List.setIfInBounds_toArray, List.set_cons_zero, List.set_cons_succ]
            refine wpT_takeP 2 39 (v := ?_) ⟨fun _ => hHeld.1, fun _ => hHeld.2⟩ rfl rfl (by kernel_rfl) (fun _ _ _ h => h) rfl ?_ ?_
            rotate_left
            · (intro w; go_simp; try with_reducible rfl)
            try simp only [Act.put, List.setIfInBounds_toArray, List.set_cons_zero, List.set_cons_succ]
            refine wpT_takeP 3 40 (v := ?_) ⟨fun _ => hHeld.1, fun _ => hHeld.2⟩ rfl rfl (by kernel_rfl) (fun _ _ _ h => h) rfl ?_ ?_
            rotate_left
            · (intro w; go_simp; try with_reducible rfl)
            try simp only [Act.put, List.setIfInBounds_toArray, List.set_cons_zero, List.set_cons_succ]
            refine wpT_takeP 4 41 (v := ?_) ⟨fun _ => hHeld.1, fun _ => hHeld.2⟩ rfl rfl (by kernel_rfl) (fun _ _ _ h => h) rfl ?_ ?_
            rotate_left
            · (intro w; go_simp; try with_reducible rfl)
            try simp only [Act.put, List.setIfInBounds_toArray, List.set_cons_zero, List.set_cons_succ]
            refine wpT_take 5 42 (v := ?_) hHeld.1 hHeld.2 rfl rfl (by kernel_rfl) (fun _ _ _ h => h) rfl ?_ ?_
            rotate_left
            · (intro w hSw; (try dsimp only at hSw); go_simp; try with_reducible rfl)
            try simp only [Act.put, List.setIfInBounds_toArray, List.set_cons_zero, List.set_cons_succ]
            refine wpT_take 6 43 (v := ?_) hHeld.1 hHeld.2 rfl rfl (by kernel_rfl) (fun _ _ _ h => h) rfl ?_ ?_
            rotate_left
            · (intro w hSw; (try dsimp only at hSw); go_simp; try with_reducible rfl)
            try simp only [Act.put, List.setIfInBounds_toArray, List.set_cons_zero, List.set_cons_succ]
            refine wpT_take 7 44 (v := ?_) hHeld.1 hHeld.2 rfl rfl (by kernel_rfl) (fun _ _ _ h => h) rfl ?_ ?_
            rotate_left
            · (intro w hSw; (try dsimp only at hSw); go_simp; try with_reducible rfl)
            try simp only [Act.put, List.setIfInBounds_toArray, List.set_cons_zero, List.set_cons_succ]
            refine wpT_take 8 45 (v := ?_) hHeld.1 hHeld.2 rfl rfl (by kernel_rfl) (fun _ _ _ h => h) rfl ?_ ?_
            rotate_left
            · (intro w hSw; (try dsimp only at hSw); go_simp; try with_reducible rfl)
            try simp only [Act.put, List.setIfInBounds_toArray, List.set_cons_zero, List.set_cons_succ]
            refine wpT_take 9 46 (v := ?_) hHeld.1 hHeld.2 rfl rfl (by kernel_rfl) (fun _ _ _ h => h) rfl ?_ ?_
            rotate_left
            · (intro w hSw; (try dsimp only at hSw); go_simp; try with_reducible rfl)
            try simp only [Act.put, List.setIfInBounds_toArray, List.set_cons_zero, List.set_cons_succ]
            refine wpT_takeP 10 47 (v := ?_) ⟨fun _ => hHeld.1, fun _ => hHeld.2⟩ rfl rfl (by kernel_rfl) (fun _ _ _ h => h) rfl ?_ ?_
            rotate_left
            · (intro w; go_simp; try with_reducible rfl)
            try simp only [Act.put, List.setIfInBounds_toArray, List.set_cons_zero, List.set_cons_succ]
            refine wpT_takeP 11 48 (v := ?_) ⟨fun _ => hHeld.1, fun _ => hHeld.2⟩ rfl rfl (by kernel_rfl) (fun _ _ _ h => h) rfl ?_ ?_
            rotate_left
            · (intro w; go_simp; try with_reducible rfl)
            try simp only [Act.put, List.setIfInBounds_toArray, List.set_cons_zero, List.set_cons_succ]
            refine wpT_takeP 12 49 (v := ?_) ⟨fun _ => hHeld.1, fun _ => hHeld.2⟩ rfl rfl (by kernel_rfl) (fun _ _ _ h => h) rfl ?_ ?_
            rotate_left
            · (intro w; go_simp; try with_reducible rfl)
            try simp only [Act.put, List.setIfInBounds_toArray, List.set_cons_zero, List.set_cons_succ]
            refine wpT_take 13 50 (v := ?_) hHeld.1 hHeld.2 rfl rfl (by kernel_rfl) (fun _ _ _ h => h) rfl ?_ ?_
            rotate_left
            · (intro w hSw; (try dsimp only at hSw); go_simp; try with_reducible rfl)
            try simp only [Act.put, List.setIfInBounds_toArray, List.set_cons_zero, List.set_cons_succ]
            have HJD2 := HJD
            clear HJD
            have HJD := Lib.hid HJD2.out.drew
            clear c1 c2 HJD2 HR HRD
            generalize w5.drew = w6 at HJD hHeld ⊢
            have HSW := Lib.hid (HJD.out.swap (i := jj) (j := j1) (by rw [HDL.out]; exact hjm) (by rw [HDL.out]; omega))
            have f1 := HJD.out.frozen (jj)
            have q1 := HJD.out.getD (j := jj) (by rw [HDL.out]; exact hjm)
            have f2 := HJD.out.frozen (j1)
            have q2 := HJD.out.getD (j := j1) (by rw [HDL.out]; omega)
            rw [HVV.out.1, HVV.out.2] at HSW
            rw [HVV.out.1] at q1
            rw [HVV.out.2] at q2
            rw [HSL.out] at HSW
            refine wpT_tail [_, _, _, _] 14 [15, 16, 17] rfl (by kernel_rfl) ?_
            clear hHeld
            go_wp2_with fail
            go_roundw
            case rel => exact ⟨j1, q', by go_num, ⟨HE1.out.1.symm, by omega⟩, HGT2.out, HSW.out⟩
            case measure => simp [intOf]; have := HE1.out.2; omega
          · have hr1 : decide (r < 0) = false := decide_eq_false (fun h => hkx (HRK.out.1 h))
            have HE := Lib.hid (HDN.out (q' + 1) hq HGT.out (.inr ⟨by simp only [Nat.add_sub_cancel]; exact hq', by simp only [Nat.add_sub_cancel]; rw [HTT.out]; omega⟩))
            clear hkx
            refine wpT_tail [_, _] 15 [16] rfl (by kernel_rfl) ?_
            clear hHeld
            go_wp2_with fail
            go_roundw
            case rel =>
              obtain ⟨T', e1, e2, e3⟩ := HE.out
              exact ⟨ii + 1, k + 1, T', by go_num, ⟨by have := HIK.out; omega, by omega, by have := HIK.out; omega⟩, e1, e2, by rw [HRR.out, e3]; exact HJD.out⟩
            case measure => simp [intOf]; omega
    · have HK := Lib.hid (show S.length ≤ k by have := HPL.out; omega)
      have HT := Lib.hid (And.intro hp ht)
      have HR := Lib.hid hr
      clear hp ht hr hik
      go_wp2_with fail
      go_end0
      refine ⟨rfl, T, ?_, HT.out.2, ?_⟩
      · have h := HT.out.1; rwa [List.take_of_length_le HK.out] at h
      · have h := HR.out; rwa [List.drop_of_length_le HK.out, List.nil_append] at h
end Go.Proofs.Ytkopkicdmbnpgaa
