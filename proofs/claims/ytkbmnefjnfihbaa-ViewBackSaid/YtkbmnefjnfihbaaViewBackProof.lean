/-
  PROVED: ViewBackSaid: for all dimensions, every place and every index the law ViewBack returns true: each entry has a place of its own, and each place is that of one entry. No condition.
-/
import Derived.Test.YtkbmnefjnfihbaaViewH
import Derived.Test.YtkbmnefjnfihbaaViewBackPlain
import Derived.Test.YtkbmnefjnfihbaaViewAlive
import Derived.Test.YtkbmnefjnfihbaaLawRow
namespace Go.Proofs.Ytkbmnefjnfihbaa.viewBack
open Go.ChangeShapes Go.WideShapes Go.ChangeAt Go.RowKit
set_option linter.unusedVariables false

theorem own : ownKnob Try.prog.godebug = none := by kernel_rfl
theorem laid : laidOutB Try.prog = true := by kernel_rfl

set_option maxHeartbeats 4000000 in
theorem walk (A A' : Option Addr) (cap cap' : Nat) (l m : List Int) (p : Int) (w : World) (h1 : l.length ≤ cap) (h2 : cap ≤ 9223372036854775807) (h1' : m.length ≤ cap') (h2' : cap' ≤ 9223372036854775807) (hm : Vw.IntsAt w w.heap.size A l) (hm' : Vw.IntsAt w w.heap.size A' m) :
    Calls Try.prog 4 #[.slice A l.length cap, .int .i64 p, .slice A' m.length cap'] w fun e w' => e = .returned (.bool true) ∧ Below w.heap.size w w' := by
  have H1 := Lib.hid (fun W (hb : Below w.heap.size w W) => Size_any A cap l _ W (by omega) (hm.below hb))
  have H3 := Lib.hid (fun W (hb : Below w.heap.size w W) => Place_any A A' cap cap' l m _ _ W (by omega) (by omega) (hm.below hb) (hm'.below hb))
  have H4 := Lib.hid (fun W (hb : Below w.heap.size w W) (q : List Int) (hq : q.length ≤ 6) (Q : Option Addr) (c : Nat) (hi : Vw.IntsAt W W.heap.size Q q) => Place_any A Q cap c l q _ _ W (by omega) (by omega) (hm.below hb) hi)
  have H5 := Lib.hid (fun W (hb : Below w.heap.size w W) (x : Int) => viewIndex_any A cap l x w.heap.size W h1 h2 hb.size (hm.below hb))
  have H7 := Lib.hid (fun W (hb : Below w.heap.size w W) (Q : Option Addr) (c : Nat) (q : List Int) (hq : q.length ≤ 9223372036854775807) (hi : Vw.IntsAt W W.heap.size Q q) => same_any Q A' c cap' q m _ _ W hq (by omega) hi (hm'.below hb))
  have HAL := Lib.hid (alive w)
  have HSH := Lib.hid (index_short l p)
  clear hm hm'
  by_cases h0 : (AdjV.size l).2 = 0
  · have H0 := Lib.hid h0
    have hR : Vw.sizeR l = .tuple #[.int .i64 (AdjV.size l).1, .int .i64 0] := by unfold Vw.sizeR; rw [h0]
    have HR := Lib.hid hR
    clear h0 hR
    have HX := Lib.hid (fun (h : (AdjV.place l m).2 = 0) => AdjV.index_place (m := m) H0.out h)
    generalize hN : (AdjV.size l).1 = nn at *
    by_cases hp : p < 0 ∨ nn ≤ p
    · have HI := Lib.hid (show AdjV.index l p = ([], 4) by unfold AdjV.index; rw [if_neg (by simp [H0.out]), hN, if_pos hp])
      by_cases hp0 : p < 0
      · have hd1 : decide (0 ≤ p) = false := by simp; omega
        go_enter Try.func4, Try.ntmps4
        go_wp2_with fail
        refine HAL.out.mono ?_
        rintro e w1 ⟨rfl, hb1⟩
        go_wp2_with fail
        refine (H1.out w1 hb1).mono ?_
        rintro e w2 ⟨rfl, rfl⟩
        rw [HR.out]
        go_wp2_with fail
        refine (H5.out _ hb1 p).mono ?_
        rintro e w3 ⟨A3, c3, rfl, hb3, hi3⟩
        rw [HI.out] at hi3 ⊢
        have hb13 := hb1.trans (hb3.mono hb1.size)
        have HI3 := Lib.hid hi3
        clear hb1 hb3 hi3
        go_wp2_with fail
        by_cases hpl : (AdjV.place l m).2 = 0
        · obtain ⟨x1, x2, x3⟩ := HX.out hpl
          have X3 := Lib.hid x3
          clear x3
          refine (H3.out w3 hb13).mono ?_
          rintro e w4 ⟨rfl, hb4⟩
          have hb14 := hb13.trans (hb4.mono hb13.size)
          rw [hpl]
          clear hpl hb4
          generalize (AdjV.place l m).1 = pp at x1 x2 X3
          go_wp2_with fail
          refine (H5.out w4 hb14 pp).mono ?_
          rintro e w5 ⟨A5, c5, rfl, hb5, hi5⟩
          rw [X3.out] at hi5 ⊢
          have hb15 := hb14.trans (hb5.mono hb14.size)
          have HI5 := Lib.hid hi5
          clear hb5 hi5
          go_wp2_with fail
          refine (H7.out w5 hb15 A5 c5 m (by omega) HI5.out).mono ?_
          rintro e w6 ⟨rfl, hb6⟩
          rw [decide_eq_true (rfl : m = m)]
          go_wp2_with fail
          go_ret
          exact ⟨rfl, hb15.trans (hb6.mono hb15.size)⟩
        · have hqe : ((AdjV.place l m).2 != 0) = true := by simpa using hpl
          refine (H3.out w3 hb13).mono ?_
          rintro e w4 ⟨rfl, hb4⟩
          have hb14 := hb13.trans (hb4.mono hb13.size)
          go_wp2_with fail
          go_ret
          exact ⟨rfl, hb14⟩
      · have hd1 : decide (0 ≤ p) = true := by simp; omega
        have hd2 : decide (p < nn) = false := by simp; omega
        go_enter Try.func4, Try.ntmps4
        go_wp2_with fail
        refine HAL.out.mono ?_
        rintro e w1 ⟨rfl, hb1⟩
        go_wp2_with fail
        refine (H1.out w1 hb1).mono ?_
        rintro e w2 ⟨rfl, rfl⟩
        rw [HR.out]
        go_wp2_with fail
        refine (H5.out _ hb1 p).mono ?_
        rintro e w3 ⟨A3, c3, rfl, hb3, hi3⟩
        rw [HI.out] at hi3 ⊢
        have hb13 := hb1.trans (hb3.mono hb1.size)
        have HI3 := Lib.hid hi3
        clear hb1 hb3 hi3
        go_wp2_with fail
        by_cases hpl : (AdjV.place l m).2 = 0
        · obtain ⟨x1, x2, x3⟩ := HX.out hpl
          have X3 := Lib.hid x3
          clear x3
          refine (H3.out w3 hb13).mono ?_
          rintro e w4 ⟨rfl, hb4⟩
          have hb14 := hb13.trans (hb4.mono hb13.size)
          rw [hpl]
          clear hpl hb4
          generalize (AdjV.place l m).1 = pp at x1 x2 X3
          go_wp2_with fail
          refine (H5.out w4 hb14 pp).mono ?_
          rintro e w5 ⟨A5, c5, rfl, hb5, hi5⟩
          rw [X3.out] at hi5 ⊢
          have hb15 := hb14.trans (hb5.mono hb14.size)
          have HI5 := Lib.hid hi5
          clear hb5 hi5
          go_wp2_with fail
          refine (H7.out w5 hb15 A5 c5 m (by omega) HI5.out).mono ?_
          rintro e w6 ⟨rfl, hb6⟩
          rw [decide_eq_true (rfl : m = m)]
          go_wp2_with fail
          go_ret
          exact ⟨rfl, hb15.trans (hb6.mono hb15.size)⟩
        · have hqe : ((AdjV.place l m).2 != 0) = true := by simpa using hpl
          refine (H3.out w3 hb13).mono ?_
          rintro e w4 ⟨rfl, hb4⟩
          have hb14 := hb13.trans (hb4.mono hb13.size)
          go_wp2_with fail
          go_ret
          exact ⟨rfl, hb14⟩
    · obtain ⟨hix, hpx⟩ := AdjV.place_index (l := l) (p := p) H0.out (by omega)
      have HI := Lib.hid hix
      have HPX := Lib.hid hpx
      have HLX := Lib.hid (AdjV.idx_length l p)
      have hl6 := (AdjV.size_fine H0.out).1
      have hd1 : decide (0 ≤ p) = true := by simp; omega
      have hd2 : decide (p < nn) = true := by simp; omega
      clear hix hpx
      go_enter Try.func4, Try.ntmps4
      go_wp2_with fail
      refine HAL.out.mono ?_
      rintro e w1 ⟨rfl, hb1⟩
      go_wp2_with fail
      refine (H1.out w1 hb1).mono ?_
      rintro e w2 ⟨rfl, rfl⟩
      rw [HR.out]
      go_wp2_with fail
      refine (H5.out _ hb1 p).mono ?_
      rintro e w3 ⟨A3, c3, rfl, hb3, hi3⟩
      rw [HI.out] at hi3 ⊢
      have hb13 := hb1.trans (hb3.mono hb1.size)
      have HI3 := Lib.hid hi3
      clear hb1 hb3 hi3
      go_wp2_with fail
      refine (H4.out w3 hb13 (AdjV.idx l p) (by rw [HLX.out]; exact hl6) A3 c3 HI3.out).mono ?_
      rintro e w4a ⟨rfl, hb4a⟩
      have hb14a := hb13.trans (hb4a.mono hb13.size)
      rw [HPX.out]
      clear hb13 hb4a
      go_wp2_with fail
      by_cases hpl : (AdjV.place l m).2 = 0
      · obtain ⟨x1, x2, x3⟩ := HX.out hpl
        have X3 := Lib.hid x3
        clear x3
        refine (H3.out w4a hb14a).mono ?_
        rintro e w4 ⟨rfl, hb4⟩
        have hb14 := hb14a.trans (hb4.mono hb14a.size)
        rw [hpl]
        clear hpl hb4
        generalize (AdjV.place l m).1 = pp at x1 x2 X3
        go_wp2_with fail
        refine (H5.out w4 hb14 pp).mono ?_
        rintro e w5 ⟨A5, c5, rfl, hb5, hi5⟩
        rw [X3.out] at hi5 ⊢
        have hb15 := hb14.trans (hb5.mono hb14.size)
        have HI5 := Lib.hid hi5
        clear hb5 hi5
        go_wp2_with fail
        refine (H7.out w5 hb15 A5 c5 m (by omega) HI5.out).mono ?_
        rintro e w6 ⟨rfl, hb6⟩
        rw [decide_eq_true (rfl : m = m)]
        go_wp2_with fail
        go_ret
        exact ⟨rfl, hb15.trans (hb6.mono hb15.size)⟩
      · have hqe : ((AdjV.place l m).2 != 0) = true := by simpa using hpl
        refine (H3.out w4a hb14a).mono ?_
        rintro e w4 ⟨rfl, hb4⟩
        have hb14 := hb14a.trans (hb4.mono hb14a.size)
        go_wp2_with fail
        go_ret
        exact ⟨rfl, hb14⟩
  · have hq : ((AdjV.size l).2 != 0) = true := by simpa using h0
    go_enter Try.func4, Try.ntmps4
    go_wp2_with fail
    refine HAL.out.mono ?_
    rintro e w1 ⟨rfl, hb1⟩
    go_wp2_with fail
    refine (H1.out w1 hb1).mono ?_
    rintro e w2 ⟨rfl, rfl⟩
    unfold Vw.sizeR
    go_wp2_with fail
    go_ret
    exact ⟨rfl, hb1⟩

theorem lifted (os : Os) (started : os.Started) (H : Type) (enc : TypeId × Value → H) :
    ReturnsInHanded {} Try.checked os 4 .any (Rows.viewBackSpec.pre6 enc Try.prog Try.f4 Rows.viewBackRow.domain false) (Rows.viewBackSpec.post enc Try.prog Try.f4 false true false false) := by
  refine Adj.law_lifted (C := Try.checked) (s := Rows.viewBackSpec) own started (by kernel_rfl) Try.func4 laid rfl rfl Try.underlying4
      (by rw [Try.params4]; intro t ht; simp only [List.mem_cons, List.not_mem_nil, or_false] at ht; rcases ht with rfl | rfl | rfl <;> exact ⟨by kernel_rfl, of_decide_eq_true (by kernel_rfl)⟩)
      (by intro ds hd; match ds, hd with | [d1, d2, d3], _ => exact ⟨rfl, rfl, rfl⟩)
      (ChangeSpec.witness6 (enc := enc) (C := Try.checked) false ⟨#[], #[.slice none 0 0, .int .i64 0, .slice none 0 0], []⟩ 8 (by kernel_rfl) (by kernel_rfl) (by kernel_rfl) (by kernel_rfl)) ?_
  intro W base args ds before hval0 hA0 _ hz0
  have hval : ∀ (j : Nat) t v, Try.f4.params[j]? = some t → args[j]? = some v → Value.okWide Try.prog W .any base t v := hval0
  have hA : DataW.TrodAll enc Try.prog W 0 (fun _ => true) true Try.f4.params.toList args.toList ds before := hA0
  have hz : (DataW.weightsEach Try.prog (Try.f4.params.toList ++ []) (ds ++ [])).all (· ≤ reachBytes) = true := hz0
  rw [Try.params4] at hA hval hz
  obtain ⟨v0, v1, v2, d0, d1, d2, p0, p1, p2, rfl, rfl, rfl, h0, h1, h2⟩ := trodAll_three hA
  obtain ⟨A, l, cap, rfl, hm, hc1, hc2⟩ := open_list (hval 0 22 v0 rfl rfl) h0
  obtain ⟨a1, rfl, rfl, rfl, w1⟩ := open_int Try.underlying3 (hval 1 3 v1 rfl rfl) h1
  obtain ⟨A', m, cap', rfl, hm', hc1', hc2'⟩ := open_list (hval 2 22 v2 rfl rfl) h2
  exact walk A A' cap cap' l m a1 W hc1 hc2 hc1' hc2' hm hm'

theorem proved : Rows.ViewBackSaid :=
  OpenClaim.holds_of_wide 4 Try.f4 rfl rfl rfl rfl rfl rfl rfl ⟨rfl, rfl, rfl, rfl, rfl⟩ rfl rfl rfl rfl rfl (by kernel_rfl) Try.func4 (by kernel_rfl)
    (of_decide_eq_true (by kernel_rfl)) (by unfold Func.isWrapper; first | (rw [if_pos (by decide +kernel)]; kernel_rfl) | (rw [if_neg (by decide +kernel)]; exact ⟨rfl, rfl⟩))
    (fun os started H enc _ => lifted os started H enc)
#print axioms proved
end Go.Proofs.Ytkbmnefjnfihbaa.viewBack
