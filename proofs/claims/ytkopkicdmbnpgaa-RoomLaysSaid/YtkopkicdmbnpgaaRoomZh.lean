/-
  The walks of the reference's Load and Meet. Conditions: the lives can be read.
-/
import Derived.Test.YtkopkicdmbnpgaaRoomW
import Derived.Deep.QuietTactic
import Derived.BigQuiet
namespace Go.Proofs.Ytkopkicdmbnpgaa
set_option linter.unusedVariables false
open Go.RowKit Adj

theorem loadAt_cons (x : AdjL.Life) (r : List AdjL.Life) (t : Int) : AdjL.loadAt (x :: r) t = (if x.f ≤ t ∧ t < x.t then x.w else 0) + AdjL.loadAt r t := by
  unfold AdjL.loadAt
  rw [List.map_cons, List.sum_cons]

set_option maxRecDepth 100000 in
set_option maxHeartbeats 8000000 in
theorem refLoad_any (w : World) (l : List AdjL.Life) (A : Option Addr) (n c : Nat) (hn : l.length = n) (h : IntsAt w w.heap.size A (AdjL.flat l)) :
    Calls Try.prog 20 #[.slice A n c] w fun e w' => e = .returned (.tuple #[.int .i64 (if AdjL.wrong l = 0 then AdjL.load l else 0), .int .i64 (AdjL.wrong l)]) ∧ Below w.heap.size w w' := by
  have HW := Lib.hid (refWrong_any w l A n c hn h)
  by_cases hbad : AdjL.wrong l = 0
  · obtain ⟨hlen, hok⟩ := AdjL.wrong_ok hbad
    have hbig : n ≤ 4096 := by omega
    have HOK := Lib.hid hok
    have H := Lib.hid h
    have HN := Lib.hid hn
    rw [hbad] at HW
    rw [if_pos hbad, hbad]
    clear hbad hok h hn hlen
    go_enter Try.func20, Try.ntmps20
    go_wp2_with fail
    ((with_reducible refine HW.out.mono ?_); rintro e w1 ⟨rfl, hb1⟩)
    have HB1 := Lib.hid hb1
    clear hb1
    go_wp2_with fail
    go_loopw [5, 18] (fun mv kv wr => ∃ (k : Nat) (most : Int), kv = .int .i64 (k : Int) ∧ mv = .int .i64 most ∧ k ≤ n ∧ 0 ≤ most ∧ most ≤ 4294967296 ∧ AdjL.load l = AdjL.loadGo l (l.drop k) most ∧ Below w1.heap.size w1 wr) (fun _ kv _ => n - (intOf kv).toNat)
    case atStart => exact ⟨0, 0, rfl, rfl, by omega, by omega, by omega, rfl, Below.refl _ _⟩
    case round =>
      obtain ⟨k, most, rfl, rfl, hk, hm0, hm1, hlo, hb⟩ := hrel
      have HLO := Lib.hid hlo
      have HB := Lib.hid hb
      have HBW := Lib.hid (HB1.out.trans (hb.mono HB1.out.size))
      clear hlo hb
      by_cases hkn : k < n
      · have hkl : k < l.length := by have := HN.out; omega
        have HDR0 := Lib.hid (show AdjL.load l = AdjL.loadGo l (l.drop (k + 1)) (if most < AdjL.loadAt l l[k].f then AdjL.loadAt l l[k].f else most) by
          rw [HLO.out, List.drop_eq_getElem_cons hkl]; rfl)
        obtain ⟨b, off, rfl, hbb⟩ := Lv.spot H.out hkl
        obtain ⟨y1, y2, y3⟩ := Lv.cells H.out hkl
        have c1 := (HBW.out.cell (cell_lt y1)).trans y1
        have c2 := (HBW.out.cell (cell_lt y2)).trans y2
        have c3 := (HBW.out.cell (cell_lt y3)).trans y3
        generalize l[k] = x at c1 c2 c3 HDR0
        clear y1 y2 y3
        obtain ⟨f, t, z⟩ := x
        simp only at c1 c2 c3 HDR0
        have HXB := Lib.hid (Blk.new wr 37 #[.int .i64 f, .int .i64 t, .int .i64 z])
        have HB2 := Lib.hid (HB.out.alloc HB.out.size (.cells #[.int .i64 f, .int .i64 t, .int .i64 z] 37))
        obtain ⟨W2, hW2⟩ : ∃ W2, wr.alloc (.cells #[.int .i64 f, .int .i64 t, .int .i64 z] 37) = W2 := ⟨_, rfl⟩
        rw [hW2] at HXB HB2
        go_wp2_with fail
        obtain ⟨g, hg⟩ : ∃ g, g = wr.heap.size := ⟨_, rfl⟩
        rw [← hg] at HXB ⊢
        clear hW2 c1 c2 c3 hg
        go_loopw [8, 24] (fun sv kv wr => ∃ (j : Nat) (s : Int), kv = .int .i64 (j : Int) ∧ sv = .int .i64 s ∧ j ≤ n ∧ AdjL.loadAt l f = s + AdjL.loadAt (l.drop j) f ∧ 0 ≤ s ∧ s ≤ (j : Int) * 1048576 ∧ Below W2.heap.size W2 wr) (fun _ kv _ => n - (intOf kv).toNat)
        case atStart => exact ⟨0, 0, rfl, rfl, by omega, by rw [List.drop_zero]; omega, by omega, by omega, Below.refl _ _⟩
        case round =>
          obtain ⟨j, s, rfl, rfl, hj, hs, hs0, hs1, hb⟩ := hrel
          have HS := Lib.hid hs
          have HBI := Lib.hid hb
          have HBW3 := Lib.hid ((HB1.out.trans (HB2.out.mono HB1.out.size)).trans (hb.mono (by have := HB1.out.size; have := HB2.out.size; omega)))
          have HX3 := Lib.hid (HXB.out.below hb HXB.out.lt)
          clear hs hb
          by_cases hjn : j < n
          · have hjl : j < l.length := by have := HN.out; omega
            have HDR := Lib.hid (show AdjL.loadAt (l.drop j) f = (if l[j].f ≤ f ∧ f < l[j].t then l[j].w else 0) + AdjL.loadAt (l.drop (j + 1)) f by rw [List.drop_eq_getElem_cons hjl, loadAt_cons])
            obtain ⟨y1, y2, y3⟩ := Lv.cells H.out hjl
            have c1 := (HBW3.out.cell (cell_lt y1)).trans y1
            have c2 := (HBW3.out.cell (cell_lt y2)).trans y2
            have c3 := (HBW3.out.cell (cell_lt y3)).trans y3
            have hby : ¬ AdjL.bad l[j] := HOK.out l[j] (List.getElem_mem hjl)
            generalize l[j] = y at c1 c2 c3 HDR hby
            clear y1 y2 y3
            obtain ⟨f', t', z'⟩ := y
            simp only at c1 c2 c3 HDR
            have hby2 : ¬ (f' < 0 ∨ t' < f' ∨ 1048576 < t' ∨ z' < 0 ∨ 1048576 < z') := hby
            have HYB := Lib.hid (Blk.new wr 37 #[.int .i64 f', .int .i64 t', .int .i64 z'])
            have HB6 := Lib.hid (HBI.out.alloc HBI.out.size (.cells #[.int .i64 f', .int .i64 t', .int .i64 z'] 37))
            have HX6 := Lib.hid (HX3.out.alloc (.cells #[.int .i64 f', .int .i64 t', .int .i64 z'] 37))
            obtain ⟨W6, hW6⟩ : ∃ W6, wr.alloc (.cells #[.int .i64 f', .int .i64 t', .int .i64 z'] 37) = W6 := ⟨_, rfl⟩
            rw [hW6] at HYB HB6 HX6
            have x0 := HX6.out.cell 0
            have z0 := HYB.out.cell 0
            have z1 := HYB.out.cell 1
            have z2 := HYB.out.cell 2
            clear hby
            by_cases e1 : f' ≤ f
            · by_cases e2 : f < t'
              · rw [if_pos ⟨e1, e2⟩] at HDR
                have HN2 := Lib.hid (show AdjL.loadAt l f = s + (z') + AdjL.loadAt (l.drop (j + 1)) f by rw [HS.out, HDR.out]; omega)
                go_wp2_with fail
                go_roundw
                case rel => exact ⟨j + 1, s + (z'), by go_num, by first | rfl | (congr 1; omega), by omega, HN2.out, by omega, by omega, HB6.out⟩
                case measure => simp [intOf]; omega
              · rw [if_neg (fun h => e2 h.2)] at HDR
                have d2 : decide (f < t') = false := by simpa using e2
                have HN2 := Lib.hid (show AdjL.loadAt l f = s + (0) + AdjL.loadAt (l.drop (j + 1)) f by rw [HS.out, HDR.out]; omega)
                go_wp2_with fail
                go_roundw
                case rel => exact ⟨j + 1, s + (0), by go_num, by first | rfl | (congr 1; omega), by omega, HN2.out, by omega, by omega, HB6.out⟩
                case measure => simp [intOf]; omega
            · rw [if_neg (fun h => e1 h.1)] at HDR
              have d1 : decide (f' ≤ f) = false := by simpa using e1
              have HN2 := Lib.hid (show AdjL.loadAt l f = s + (0) + AdjL.loadAt (l.drop (j + 1)) f by rw [HS.out, HDR.out]; omega)
              go_wp2_with fail
              go_roundw
              case rel => exact ⟨j + 1, s + (0), by go_num, by first | rfl | (congr 1; omega), by omega, HN2.out, by omega, by omega, HB6.out⟩
              case measure => simp [intOf]; omega
          · obtain rfl : j = n := by omega
            have HV := Lib.hid (show AdjL.loadAt l f = s by rw [HS.out, List.drop_eq_nil_of_le (by have := HN.out; omega)]; show s + 0 = s; omega)
            rw [HV.out] at HDR0
            have HB7 := Lib.hid (HB2.out.trans (HBI.out.mono HB2.out.size))
            by_cases hgt : most < s
            · rw [if_pos hgt] at HDR0
              go_wp2_with fail
              go_roundw
              case rel => exact ⟨k + 1, s, by go_num, rfl, by omega, by omega, by omega, HDR0.out, HB7.out⟩
              case measure => simp [intOf]; omega
            · rw [if_neg hgt] at HDR0
              go_wp2_with fail
              go_roundw
              case rel => exact ⟨k + 1, most, by go_num, rfl, by omega, by omega, by omega, HDR0.out, HB7.out⟩
              case measure => simp [intOf]; omega
      · obtain rfl : k = n := by omega
        have HV := Lib.hid (show AdjL.load l = most by rw [HLO.out, List.drop_eq_nil_of_le (by have := HN.out; omega)]; rfl)
        go_wp2_with fail
        go_ret2
        exact ⟨by rw [HV.out]; rfl, HBW.out⟩
  · rw [if_neg hbad]
    generalize AdjL.wrong l = q at hbad HW
    have h1 : (q == 0) = false := by simpa using hbad
    have h2 : (q != 0) = true := by simpa using hbad
    go_enter Try.func20, Try.ntmps20
    go_wp2_with fail
    ((with_reducible refine HW.out.mono ?_); rintro e w1 ⟨rfl, hb1⟩)
    have HB1 := Lib.hid hb1
    clear hb1
    go_wp2_with fail
    go_ret2
    exact ⟨rfl, HB1.out⟩

set_option maxRecDepth 100000 in
set_option maxHeartbeats 8000000 in
theorem meet_any (W : World) (x y : AdjL.Life) :
    Calls Try.prog 66 #[Lv.lifeV x, Lv.lifeV y] W fun e W' => e = .returned (.bool (AdjL.meet x y)) ∧ Below W.heap.size W W' := by
  obtain ⟨f, t, z⟩ := x
  obtain ⟨f', t', z'⟩ := y
  unfold Lv.lifeV
  simp only
  have HB := Lib.hid (((Below.refl W.heap.size W).alloc (Nat.le_refl _) (.cells #[.int .i64 f, .int .i64 t, .int .i64 z] 37)).alloc (by simp) (.cells #[.int .i64 f', .int .i64 t', .int .i64 z'] 37))
  go_enter Try.func66, Try.ntmps66
  by_cases e1 : 0 < z
  · by_cases e2 : 0 < z'
    · by_cases e3 : f < t
      · by_cases e4 : f' < t'
        · by_cases e5 : f < t'
          · by_cases e6 : f' < t
            · have HV := Lib.hid (show AdjL.meet ⟨f, t, z⟩ ⟨f', t', z'⟩ = true by unfold AdjL.meet; exact decide_eq_true ⟨e1, e2, e3, e4, e5, e6⟩)
              go_wp2_with fail
              go_ret
              exact ⟨by rw [HV.out]; rfl, HB.out⟩
            · have d6 : decide (f' < t) = false := by simpa using e6
              have HV := Lib.hid (show AdjL.meet ⟨f, t, z⟩ ⟨f', t', z'⟩ = false by unfold AdjL.meet; exact decide_eq_false (fun h => e6 h.2.2.2.2.2))
              go_wp2_with fail
              go_ret
              exact ⟨by rw [HV.out]; rfl, HB.out⟩
          · have d5 : decide (f < t') = false := by simpa using e5
            have HV := Lib.hid (show AdjL.meet ⟨f, t, z⟩ ⟨f', t', z'⟩ = false by unfold AdjL.meet; exact decide_eq_false (fun h => e5 h.2.2.2.2.1))
            go_wp2_with fail
            go_ret
            exact ⟨by rw [HV.out]; rfl, HB.out⟩
        · have d4 : decide (f' < t') = false := by simpa using e4
          have HV := Lib.hid (show AdjL.meet ⟨f, t, z⟩ ⟨f', t', z'⟩ = false by unfold AdjL.meet; exact decide_eq_false (fun h => e4 h.2.2.2.1))
          go_wp2_with fail
          go_ret
          exact ⟨by rw [HV.out]; rfl, HB.out⟩
      · have d3 : decide (f < t) = false := by simpa using e3
        have HV := Lib.hid (show AdjL.meet ⟨f, t, z⟩ ⟨f', t', z'⟩ = false by unfold AdjL.meet; exact decide_eq_false (fun h => e3 h.2.2.1))
        go_wp2_with fail
        go_ret
        exact ⟨by rw [HV.out]; rfl, HB.out⟩
    · have d2 : decide (0 < z') = false := by simpa using e2
      have HV := Lib.hid (show AdjL.meet ⟨f, t, z⟩ ⟨f', t', z'⟩ = false by unfold AdjL.meet; exact decide_eq_false (fun h => e2 h.2.1))
      go_wp2_with fail
      go_ret
      exact ⟨by rw [HV.out]; rfl, HB.out⟩
  · have d1 : decide (0 < z) = false := by simpa using e1
    have HV := Lib.hid (show AdjL.meet ⟨f, t, z⟩ ⟨f', t', z'⟩ = false by unfold AdjL.meet; exact decide_eq_false (fun h => e1 h.1))
    go_wp2_with fail
    go_ret
    exact ⟨by rw [HV.out]; rfl, HB.out⟩
end Go.Proofs.Ytkopkicdmbnpgaa
