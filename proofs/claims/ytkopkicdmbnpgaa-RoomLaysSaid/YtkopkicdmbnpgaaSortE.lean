/-
  The walk of slices.stableCmpFunc and SortStableFunc at numbers that ascend. Conditions: the row can be written; what is asked answers by a key.
-/
import Derived.Test.YtkopkicdmbnpgaaSortD
import Derived.Test.YtkopkicdmbnpgaaSortPlain2
namespace Go.Proofs.Ytkopkicdmbnpgaa
set_option linter.unusedVariables false
open Go.RowKit Adj

set_option maxRecDepth 100000 in
set_option maxHeartbeats 8000000 in
theorem stable_any (w W : World) (g cap fK : Nat) (cc : Array Value) (key : Int → Int) (dom : Int → Prop) (D : List Int) (n : Nat) (hn : n = D.length) (hbig : n ≤ 1152921504606846976)
    (hc : Sr.CmpOk w g fK cc key dom) (hd : ∀ x ∈ D, dom x) (hasc : D.Pairwise (· < ·)) (h : Sr.Ro w g D W) :
    Calls Try.prog 52 #[.slice (some ⟨g, 0, none⟩) n cap, .int .i64 (n : Int), .func (.func fK) #[] cc] W fun e w' => e = .returned (.tuple #[]) ∧ ∃ T, T.Perm D ∧ AdjS.Srt key T ∧ Sr.Ro w g T w' := by
  have hcf := hc.1
  have HC := Lib.hid hc
  have HDO := Lib.hid hd
  have HAS := Lib.hid hasc
  have HS := Lib.hid h
  have HN := Lib.hid hn
  clear h hc hd hasc hn
  go_enter Try.func52, Try.ntmps52
  go_wp2_with fail
  go_loopw [7, 8] (fun av bv wr => ∃ (a b : Nat) (D1 D2 F : List Int), av = .int .i64 (a : Int) ∧ bv = .int .i64 (b : Int) ∧ (b = a + 20 ∧ a ≤ n) ∧ D = D1 ++ D2 ∧ D1.length = a ∧ AdjS.Full key 20 D1 F ∧ Sr.Ro w g (F ++ D2) wr) (fun av _ _ => n - (intOf av).toNat)
  case atStart => exact ⟨0, 20, [], D, [], rfl, rfl, ⟨by omega, by omega⟩, rfl, rfl, .nil, HS.out⟩
  case round =>
    obtain ⟨a, b, D1, D2, F, rfl, rfl, ⟨hab, han⟩, hD, hl, hF, hr⟩ := hrel
    have HF := Lib.hid hF
    have HR := Lib.hid hr
    have HD := Lib.hid hD
    have HL := Lib.hid hl
    have HFL := Lib.hid (show F.length = a from hF.length.trans hl)
    have HNN := Lib.hid (show n = a + D2.length by rw [HN.out, hD, List.length_append, hl])
    have HAS2 := Lib.hid (show D2.Pairwise (· < ·) from by have h := HAS.out; rw [hD] at h; exact (List.pairwise_append.1 h).2.1)
    have HDO2 := Lib.hid (show ∀ x ∈ D2, dom x from fun x hx => HDO.out x (by rw [hD]; exact List.mem_append.2 (.inr hx)))
    have HAB := Lib.hid hab
    have j1 : b ≤ a + 20 := by omega
    have j2 : a + 20 ≤ b := by omega
    clear hF hr hD hl hab
    by_cases hb : b ≤ n
    · obtain ⟨S, hS⟩ : ∃ S, D2.take 20 = S := ⟨_, rfl⟩
      obtain ⟨Q, hQ⟩ : ∃ Q, D2.drop 20 = Q := ⟨_, rfl⟩
      have HSQ := Lib.hid (show D2 = S ++ Q by rw [← hS, ← hQ, List.take_append_drop])
      have HSL := Lib.hid (show S.length = 20 by have := HNN.out; rw [← hS, List.length_take]; omega)
      have HINS := Lib.hid (insertion_any w wr g cap fK cc key dom F S Q (a : Int) (b : Int) n (by rw [HFL.out]) (by rw [HFL.out, HSL.out]; omega) (by have h := HNN.out; rw [HSQ.out, List.length_append] at h; rw [HFL.out]; omega) (by omega) HC.out (fun x hx => HDO2.out x (by rw [HSQ.out]; exact List.mem_append.2 (.inl hx))) (by have h := HAS2.out; rw [HSQ.out] at h; exact (List.pairwise_append.1 h).1) (by have h := HR.out; rw [HSQ.out] at h; exact h))
      clear hS hQ
      go_wp2_with fail
      ((with_reducible refine HINS.out.mono ?_); rintro e5 w5 ⟨rfl, T, p1, s1, r1⟩)
      have HT := Lib.hid (And.intro p1 (And.intro s1 r1))
      clear p1 s1 r1
      go_wp2_with fail
      go_roundw
      case rel =>
        obtain ⟨p1, s1, r1⟩ := HT.out
        exact ⟨b, b + 20, D1 ++ S, Q, F ++ T, rfl, by go_num, ⟨rfl, by omega⟩, by rw [List.append_assoc, ← HSQ.out]; exact HD.out, by rw [List.length_append, HL.out, HSL.out]; omega, .snoc HF.out HSL.out p1 s1, by rw [List.append_assoc]; exact r1⟩
      case measure => simp [intOf]; omega
    · have HINS := Lib.hid (insertion_any w wr g cap fK cc key dom F D2 [] (a : Int) (n : Int) n (by rw [HFL.out]) (by rw [HFL.out]; have := HNN.out; omega) (by have h := HNN.out; rw [HFL.out, List.length_nil]; omega) (by omega) HC.out HDO2.out HAS2.out (by rw [List.append_nil]; exact HR.out))
      go_wp2_with fail
      ((with_reducible refine HINS.out.mono ?_); rintro e5 w5 ⟨rfl, T, p1, s1, r1⟩)
      have HT := Lib.hid (show Sr.Ro w g (F ++ T) w5 by rw [List.append_nil] at r1; exact r1)
      have HRN := Lib.hid (show AdjS.Runs key 20 D (F ++ T) by rw [HD.out]; exact HF.out.runs (.last (by have := HNN.out; omega) p1 s1))
      clear p1 s1 r1
      go_wp2_with fail
      go_loopw [6, 7, 8, 9] (fun sv _ _ _ wr => ∃ (s : Nat) (d : List Int), sv = .int .i64 (s : Int) ∧ (1 ≤ s ∧ s ≤ 2305843009213693952) ∧ AdjS.Runs key s D d ∧ Sr.Ro w g d wr) (fun sv _ _ _ _ => n - (intOf sv).toNat)
      case atStart => exact ⟨20, F ++ T, rfl, ⟨by omega, by omega⟩, HRN.out, HT.out⟩
      case round =>
        obtain ⟨s, d, rfl, ⟨hs1, hs2⟩, hrn, hr⟩ := hrel
        have HRD := Lib.hid hrn
        have HRR := Lib.hid hr
        clear hrn hr
        clear HT HRN HR HF HD HL HFL HNN HAS2 HDO2 HINS
        by_cases hsn : s < n
        · have q1 : IntKind.i64.wrap (2 * (s : Int)) = 2 * (s : Int) := IntWalk.i64_in _ (by omega)
          have q2 : IntKind.i64.wrap ((s : Int) * 2) = (s : Int) * 2 := IntWalk.i64_in _ (by omega)
          go_wp2_with fail
          go_loopw [7, 8] (fun av bv wr => ∃ (a b : Nat) (D1 D2 F G : List Int), av = .int .i64 (a : Int) ∧ bv = .int .i64 (b : Int) ∧ (b = a + (s + s) ∧ a ≤ n) ∧ D = D1 ++ D2 ∧ D1.length = a ∧ AdjS.Full key (s + s) D1 F ∧ AdjS.Runs key s D2 G ∧ Sr.Ro w g (F ++ G) wr) (fun av _ _ => n - (intOf av).toNat)
          case atStart => exact ⟨0, s + s, [], D, [], d, rfl, by go_num, ⟨by omega, by omega⟩, rfl, rfl, .nil, HRD.out, HRR.out⟩
          case round =>
            obtain ⟨a, b, D1, D2, F, G, rfl, rfl, ⟨hab, han⟩, hD, hl, hF, hG, hr⟩ := hrel
            have HF := Lib.hid hF
            have HG := Lib.hid hG
            have HR := Lib.hid hr
            have HD := Lib.hid hD
            have HL := Lib.hid hl
            have HFL := Lib.hid (show F.length = a from hF.length.trans hl)
            have HNN := Lib.hid (show n = a + D2.length by rw [HN.out, hD, List.length_append, hl])
            have HAS2 := Lib.hid (show D2.Pairwise (· < ·) from by have h := HAS.out; rw [hD] at h; exact (List.pairwise_append.1 h).2.1)
            have HDO2 := Lib.hid (show ∀ x ∈ D2, dom x from fun x hx => HDO.out x (by rw [hD]; exact List.mem_append.2 (.inr hx)))
            have HAB := Lib.hid hab
            have j1 : b ≤ a + (s + s) := by omega
            have j2 : a + (s + s) ≤ b := by omega
            clear hF hG hr hD hl hab
            by_cases hb : b ≤ n
            · obtain ⟨A, B, A2, B2, D', d', g1, g2, g3, g4, g5, g6, g7, g8, g9, g10, g11⟩ := HG.out.cut2 hs1 (by have := HNN.out; omega)
              obtain ⟨m, hm⟩ : ∃ m : Nat, a + s = m := ⟨_, rfl⟩
              have HMG := Lib.hid (symMerge_any w g cap fK cc key dom n (by omega) HC.out (s + s) F B B2 d' a m b wr (by omega) HFL.out.symm (by rw [HFL.out]; omega) (by rw [HFL.out]; omega) (by have h := HNN.out; have h2 := HG.out.perm.length_eq; rw [g2, List.length_append, List.length_append] at h2; rw [HFL.out]; omega) (by omega) (by omega) (fun x hx => HDO2.out x (by rw [g1]; rcases List.mem_append.1 hx with hx | hx <;> simp [hx, List.mem_append, g7.mem_iff.1, g8.mem_iff.1])) g9 g10 (AdjS.asc_cross (by have h := HAS2.out; rw [g1, ← List.append_assoc] at h; exact (List.pairwise_append.1 h).1) g7 g8) (by have h := HR.out; rw [g2] at h; exact h))
              have HPA := Lib.hid (show (B ++ B2).Perm (A ++ A2) from g7.append g8)
              have HAL := Lib.hid (show (A ++ A2).length = s + s by rw [List.length_append, g3, g5])
              have HRU := Lib.hid g11
              have HG1 := Lib.hid g1
              have e1 : (a : Int) + (s : Int) = (m : Int) := by omega
              have w1 : IntKind.i64.wrap (m : Int) = (m : Int) := IntWalk.i64_in _ (by omega)
              clear g1 g2 g3 g4 g5 g6 g7 g8 g9 g10 g11
              clear hm
              go_wp2_with fail
              ((with_reducible refine HMG.out.mono ?_); rintro e5 w5 ⟨rfl, T, p1, s1, r1⟩)
              have HT := Lib.hid (And.intro p1 (And.intro s1 r1))
              clear p1 s1 r1
              go_wp2_with fail
              go_roundw
              case rel =>
                obtain ⟨p1, s1, r1⟩ := HT.out
                exact ⟨b, b + (s + s), D1 ++ (A ++ A2), D', F ++ T, d', rfl, by go_num, ⟨rfl, by omega⟩, by rw [HD.out, HG1.out]; simp only [List.append_assoc], by rw [List.length_append, HL.out, HAL.out]; omega, .snoc HF.out HAL.out (p1.trans HPA.out) s1, HRU.out, by rw [List.append_assoc]; exact r1⟩
              case measure => simp [intOf]; omega
            · obtain ⟨m, hm⟩ : ∃ m : Nat, a + s = m := ⟨_, rfl⟩
              have e1 : (a : Int) + (s : Int) = (m : Int) := by omega
              have w1 : IntKind.i64.wrap (m : Int) = (m : Int) := IntWalk.i64_in _ (by omega)
              have q3 : IntKind.i64.wrap ((s : Int) * 2) = ((s + s : Nat) : Int) := by rw [q2]; omega
              by_cases hmn : m < n
              · obtain ⟨A, B, D', d', g1, g2, g3, g4, g5, g6, g7⟩ := HG.out.cut (by have := HNN.out; omega)
                have HDL := Lib.hid (show D'.length = n - m by have := HNN.out; rw [g1, List.length_append] at this; omega)
                have HML := Lib.hid (show d'.length = n - m by rw [g7.perm.length_eq, HDL.out])
                have HMG := Lib.hid (symMerge_any w g cap fK cc key dom n (by omega) HC.out (s + s) F B d' [] a m n wr (by have := HML.out; omega) HFL.out.symm (by rw [HFL.out]; omega) (by have := HML.out; rw [HFL.out]; omega) (by have := HML.out; rw [HFL.out, List.length_nil]; omega) (by omega) (by have := HML.out; omega) (fun x hx => HDO2.out x (by rw [g1]; rcases List.mem_append.1 hx with hx | hx; exact List.mem_append.2 (.inl (g5.subset hx)); exact List.mem_append.2 (.inr (g7.perm.subset hx)))) g6 (g7.short (by have := HDL.out; omega)) (AdjS.asc_cross (by have h := HAS2.out; rw [g1] at h; exact h) g5 g7.perm) (by have h := HR.out; rw [g2] at h; rw [List.append_nil]; exact h))
                have HPA := Lib.hid (show (B ++ d').Perm D2 from by rw [g1]; exact g5.append g7.perm)
                clear g1 g2 g3 g4 g5 g6 g7 hm q2
                go_wp2_with fail
                ((with_reducible refine HMG.out.mono ?_); rintro e5 w5 ⟨rfl, T, p1, s1, r1⟩)
                have HT := Lib.hid (And.intro p1 (And.intro s1 r1))
                clear p1 s1 r1
                go_wp2_with fail
                go_roundw
                case rel =>
                  obtain ⟨p1, s1, r1⟩ := HT.out
                  exact ⟨s + s, F ++ T, rfl, ⟨by omega, by omega⟩, by rw [HD.out]; exact HF.out.runs (.last (by have := HNN.out; omega) (p1.trans HPA.out) s1), by rw [List.append_nil] at r1; exact r1⟩
                case measure => simp [intOf]; omega
              · clear hm q2
                go_wp2_with fail
                go_roundw
                case rel => exact ⟨s + s, F ++ G, rfl, ⟨by omega, by omega⟩, by rw [HD.out]; exact HF.out.runs (.last (by have := HNN.out; omega) HG.out.perm (HG.out.short (by have := HNN.out; omega))), HR.out⟩
                case measure => simp [intOf]; omega
        · go_wp2_with fail
          go_end0
          exact ⟨rfl, d, HRD.out.perm, HRD.out.short (by have := HN.out; omega), HRR.out⟩

set_option maxRecDepth 100000 in
/-- A row that ascends is put in order by the key; what has one key stays in its order. -/
theorem sortStable_any (w W : World) (g cap fK : Nat) (cc : Array Value) (key : Int → Int) (dom : Int → Prop) (D : List Int) (n : Nat) (hn : n = D.length) (hbig : n ≤ 1152921504606846976)
    (hc : Sr.CmpOk w g fK cc key dom) (hd : ∀ x ∈ D, dom x) (hasc : D.Pairwise (· < ·)) (h : Sr.Ro w g D W) :
    Calls Try.prog 28 #[.slice (some ⟨g, 0, none⟩) n cap, .func (.func fK) #[] cc] W fun e w' => e = .returned (.tuple #[]) ∧ ∃ T, T.Perm D ∧ AdjS.Srt key T ∧ Sr.Ro w g T w' := by
  have hcf := hc.1
  have HS := Lib.hid (stable_any w W g cap fK cc key dom D n hn hbig hc hd hasc h)
  clear h hc hd hasc hn
  go_enter Try.func28, Try.ntmps28
  go_wp2_with fail
  ((with_reducible refine HS.out.mono ?_); rintro e5 w5 ⟨rfl, h5⟩)
  have HT := Lib.hid h5
  clear h5
  go_wp2_with fail
  go_end0
  exact ⟨rfl, HT.out⟩
end Go.Proofs.Ytkopkicdmbnpgaa
