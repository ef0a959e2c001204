/-
  The walk of together. Conditions: the tree is right; the order holds none but its nodes; both lists can be read.
-/
import Derived.Test.YtkopkicdmbnpgaaRoomB
import Derived.Test.YtkopkicdmbnpgaaLiuPlain5
namespace Go.Proofs.Ytkopkicdmbnpgaa
set_option linter.unusedVariables false
open Go.RowKit Adj

set_option maxRecDepth 100000 in
set_option maxHeartbeats 4000000 in
theorem together_any (w : World) (ab ws od : List Int) (A A' : Option Addr) (n m c c' : Nat) (hT : AdjR.treeBad ab ws = 0) (hn : ab.length = n) (hm : od.length = m) (hm2 : m ≤ 1048576) (hod : ∀ x ∈ od, 0 ≤ x ∧ x < (n : Int)) (h1 : IntsAt w w.heap.size A ab) (h2 : IntsAt w w.heap.size A' od) :
    Calls Try.prog 18 #[.slice A n c, .slice A' m c'] w fun e w' => e = .returned (.bool (AdjR.tog ab od)) ∧ w' = w := by
  have hbig : n ≤ 4096 := by have := (AdjR.treeOk hT).2.1; omega
  have HT := Lib.hid hT
  have HN := Lib.hid hn
  have HM := Lib.hid hm
  have HO := Lib.hid hod
  have H1 := Lib.hid h1
  have H2 := Lib.hid h2
  have HTG := Lib.hid (show AdjR.tog ab od = AdjR.togTo ab od n by unfold AdjR.tog; rw [hn])
  clear hT hn hm hod h1 h2
  go_enter Try.func18, Try.ntmps18
  go_wp2_with fail
  go_loopw [14] (fun av wr => ∃ a : Nat, av = .int .i64 (a : Int) ∧ a ≤ n ∧ AdjR.togTo ab od a = true ∧ wr = w) (fun av _ => n - (intOf av).toNat)
  case atStart => exact ⟨0, rfl, by omega, rfl, rfl⟩
  case round =>
    obtain ⟨a, rfl, ha, htg, rfl⟩ := hrel
    have HG := Lib.hid htg
    clear htg
    by_cases han : a < n
    · go_wp2_with fail
      go_loopw [6, 7, 8, 19] (fun fv ev cv jv wr2 => ∃ (j : Nat) (f e c : Int), jv = .int .i64 (j : Int) ∧ fv = .int .i64 f ∧ ev = .int .i64 e ∧ cv = .int .i64 c ∧ j ≤ m ∧ (-1 ≤ f ∧ f ≤ (j : Int)) ∧ (-1 ≤ e ∧ e ≤ (j : Int)) ∧ (0 ≤ c ∧ c ≤ (j : Int)) ∧ AdjR.span (AdjR.under ab a) od 0 (-1) (-1) 0 = AdjR.span (AdjR.under ab a) (od.drop j) (j : Int) f e c ∧ wr2 = wr) (fun _ _ _ jv _ => m - (intOf jv).toNat)
      case atStart => exact ⟨0, -1, -1, 0, rfl, rfl, rfl, rfl, by omega, by omega, by omega, by omega, rfl, rfl⟩
      case round =>
        obtain ⟨j, f, e, c, rfl, rfl, rfl, rfl, hj, ⟨hf0, hf1⟩, ⟨he0, he1⟩, ⟨hc0, hc1⟩, hsp, hw⟩ := hrel
        subst hw
        have HS := Lib.hid hsp
        clear hsp
        by_cases hjm : j < m
        · obtain ⟨b2, off2, rfl, r2⟩ := ints_cell H2.out (by have := HM.out; omega)
          have c2 := r2 j (by have := HM.out; omega)
          have hjl : j < od.length := by have := HM.out; omega
          have HD := Lib.hid (show od.drop j = od[j] :: od.drop (j + 1) from List.drop_eq_getElem_cons hjl)
          have hx := HO.out od[j] (List.getElem_mem hjl)
          have hgx : od.getD j 0 = od[j] := by rw [List.getD_eq_getElem?_getD, List.getElem?_eq_getElem hjl]; rfl
          rw [hgx] at c2
          generalize od[j] = x at c2 hx HD
          clear r2 hgx
          go_wp2_with fail
          go_loopw [11] (fun bv wr2 => ∃ b : Int, bv = .int .i64 b ∧ (0 ≤ b ∧ b < (n : Int)) ∧ AdjR.top ab a x = AdjR.top ab a b ∧ wr2 = wr) (fun bv _ => ((a : Int) - intOf bv).toNat)
          case atStart => exact ⟨x, rfl, hx, rfl, rfl⟩
          case round =>
            obtain ⟨b, rfl, ⟨hb0, hb1⟩, htop, hw⟩ := hrel
            subst hw
            have HTP := Lib.hid htop
            clear htop
            by_cases hba : b < (a : Int)
            · obtain ⟨b1, off1, rfl, r1⟩ := ints_cell H1.out (by have := HN.out; omega)
              obtain ⟨z, rfl⟩ : ∃ z : Nat, b = (z : Int) := ⟨b.toNat, by omega⟩
              have c1 := r1 z (by have := HN.out; omega)
              have HST := Lib.hid (AdjR.top_step HT.out (a := a) (by have := HN.out; omega) (b := (z : Int)) (by omega) hba)
              rw [Int.toNat_natCast] at HST
              obtain ⟨q, hq, hzq, hqn⟩ : ∃ q : Nat, ab.getD z 0 = (q : Int) ∧ z < q ∧ q < n := by
                have := HN.out
                rcases AdjR.par_of HT.out (v := z) (by omega) with ⟨e1, _⟩ | ⟨q, e1, h3, h4⟩
                · omega
                · exact ⟨q, e1, h3, by omega⟩
              rw [hq] at c1 HST
              have hzn : (z : Int) < (n : Int) := by omega
              have hz0 : (0 : Int) ≤ (z : Int) := by omega
              clear r1 hq
              go_wp2_with fail
              go_roundw
              case rel => exact ⟨(q : Int), rfl, by omega, by rw [HTP.out, HST.out], by trivial⟩
              case measure => simp [intOf]; omega
            · have HU := Lib.hid (show AdjR.under ab a x = (b == (a : Int)) by
                unfold AdjR.under
                rw [HTP.out, AdjR.top_stop (by omega)])
              have HSP := Lib.hid (show AdjR.span (AdjR.under ab a) od 0 (-1) (-1) 0 = if AdjR.under ab a x then AdjR.span (AdjR.under ab a) (od.drop (j + 1)) ((j : Int) + 1) (if f < 0 then (j : Int) else f) (j : Int) (c + 1) else AdjR.span (AdjR.under ab a) (od.drop (j + 1)) ((j : Int) + 1) f e c by
                rw [HS.out, HD.out]; rfl)
              rw [HU.out] at HSP
              by_cases hbe : b = (a : Int)
              · subst hbe
                have HSP2 := Lib.hid (HSP.out.trans (if_pos (by simp)))
                by_cases hf : f < 0
                · have HSP3 := Lib.hid (show AdjR.span (AdjR.under ab a) od 0 (-1) (-1) 0 = AdjR.span (AdjR.under ab a) (od.drop (j + 1)) ((j : Int) + 1) (j : Int) (j : Int) (c + 1) by rw [HSP2.out, if_pos hf])
                  go_wp2_with fail
                  go_roundw
                  case rel => exact ⟨j + 1, (j : Int), (j : Int), c + 1, by go_num, rfl, rfl, rfl, by omega, by omega, by omega, by omega, HSP3.out, by trivial⟩
                  case measure => simp [intOf]; omega
                · have HSP3 := Lib.hid (show AdjR.span (AdjR.under ab a) od 0 (-1) (-1) 0 = AdjR.span (AdjR.under ab a) (od.drop (j + 1)) ((j : Int) + 1) f (j : Int) (c + 1) by rw [HSP2.out, if_neg hf])
                  go_wp2_with fail
                  go_roundw
                  case rel => exact ⟨j + 1, f, (j : Int), c + 1, by go_num, rfl, rfl, rfl, by omega, by omega, by omega, by omega, HSP3.out, by trivial⟩
                  case measure => simp [intOf]; omega
              · have HSP2 := Lib.hid (HSP.out.trans (if_neg (by simpa using hbe)))
                have q0 : (b == (a : Int)) = false := by simpa using hbe
                go_wp2_with fail
                go_roundw
                case rel => exact ⟨j + 1, f, e, c, by go_num, rfl, rfl, rfl, by omega, by omega, by omega, by omega, HSP2.out, by trivial⟩
                case measure => simp [intOf]; omega
        · obtain rfl : j = m := by omega
          have HF := Lib.hid (show AdjR.togAt ab od a = (e - f + 1 == c) by
            unfold AdjR.togAt
            rw [HS.out, List.drop_eq_nil_of_le (by have := HM.out; omega)]; rfl)
          by_cases hec : e - f + 1 = c
          · have HG2 := Lib.hid (show AdjR.togTo ab od (a + 1) = true by
              show (AdjR.togTo ab od a && AdjR.togAt ab od a) = true
              rw [HG.out, HF.out]; simpa using hec)
            go_wp2_with fail
            go_roundw
            case rel => exact ⟨a + 1, by go_num, by omega, HG2.out, by trivial⟩
            case measure => simp [intOf]; omega
          · have HG2 := Lib.hid (show AdjR.tog ab od = false by
              rw [HTG.out]
              cases h : AdjR.togTo ab od n with
              | false => rfl
              | true =>
                have := AdjR.togTo_at.1 h a han
                rw [HF.out] at this
                exact absurd (by simpa using this) hec)
            have q0 : (e - f + 1 == c) = false := by simpa using hec
            have q1 : (e - f + 1 != c) = true := by simpa using hec
            go_wp2_with fail
            go_ret
            exact ⟨by rw [HG2.out]; rfl, by trivial⟩
    · obtain rfl : a = n := by omega
      have HG2 := Lib.hid (HTG.out.trans HG.out)
      go_wp2_with fail
      go_ret
      exact ⟨by rw [HG2.out]; rfl, by trivial⟩
end Go.Proofs.Ytkopkicdmbnpgaa
