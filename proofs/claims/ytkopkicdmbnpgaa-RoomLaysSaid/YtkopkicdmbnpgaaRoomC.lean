/-
  The walk of the reference's Peak. Conditions: the lists can be read.
-/
import Derived.Test.YtkopkicdmbnpgaaRoomB
namespace Go.Proofs.Ytkopkicdmbnpgaa
set_option linter.unusedVariables false
open Go.RowKit Adj

namespace Rm
def bools (l : List Bool) : List Value := l.map .bool
theorem bools_set (l : List Bool) (j : Nat) (x : Bool) : (bools l).toArray.setIfInBounds j (.bool x) = (bools (l.set j x)).toArray := by
  unfold bools; simp [List.map_set]
theorem bools_at (l : List Bool) (j : Nat) (h : j < l.length) : (bools l).toArray[j]? = some (.bool (l.getD j false)) := by unfold bools; simp [h]
end Rm
theorem Try.infoOf4 : (Try.prog.info? 4).map (fun i => (i.zero, i.size, i.bytes)) = some (some (.bool false), 1, 1) := by kernel_rfl
theorem made_false (c : Nat) : madeCells (Value.bool false).cells c = (Rm.bools (List.replicate c false)).toArray := by
  apply Array.ext
  · simp [size_madeCells, Rm.bools]
  · intro i h1 h2
    simp [madeCells, Rm.bools, Value.cells, Nat.mod_one]
theorem run_make_bool (c : Nat) (h : c ≤ 65536) (w : World) :
    (Instr.makeSlice 49 (.int .i64 (c : Int)) (.int .i64 (c : Int))).run Try.prog w = .ok (.slice (some ⟨w.heap.size, 0, none⟩) c c) (w.alloc (.cells (Rm.bools (List.replicate c false)).toArray 4)) := by
  rw [← made_false]
  obtain ⟨i0, hi, hz0, hz1, hz2⟩ := info_parts Try.infoOf4
  have hb : (i0.bytes : Int) * (c : Int) ≤ 281474976710656 := by rw [hz2]; omega
  have hr := run_make (P := Try.prog) w 49 4 i0 _ Try.underlying49 hi hz0 .i64 .i64 c c (by omega) (by omega) hb (by omega)
  simp only [Int.toNat_natCast, hz1, Nat.mul_one] at hr
  exact hr

set_option maxRecDepth 100000 in
set_option maxHeartbeats 8000000 in
theorem refPeak_any (w : World) (ab ws od : List Int) (A A' A'' : Option Addr) (n m q c c' c'' : Nat) (hn : ab.length = n) (hm : ws.length = m) (hq : od.length = q) (hq2 : q ≤ 9223372036854775807) (h1 : IntsAt w w.heap.size A ab) (h2 : IntsAt w w.heap.size A' ws) (h3 : IntsAt w w.heap.size A'' od) :
    Calls Try.prog 10 #[.slice A n c, .slice A' m c', .slice A'' q c''] w fun e w' => e = .returned (.tuple #[.int .i64 (AdjR.peak ab ws od).1, .int .i64 (AdjR.peak ab ws od).2]) ∧ Below w.heap.size w w' := by
  have HTR := Lib.hid (refTree_any w w.heap.size ab ws A A' n m c c' hn hm h1 h2)
  have HB0 := Lib.hid (Below.refl w.heap.size w)
  by_cases hbad : AdjR.treeBad ab ws = 0
  · have HT := Lib.hid hbad
    obtain ⟨g1, g2, g3⟩ := AdjR.treeOk hbad
    obtain rfl : m = n := by omega
    have hbig : m ≤ 4096 := by omega
    have HN := Lib.hid (And.intro hn (And.intro hm hq))
    have HOK := Lib.hid g3
    have H1 := Lib.hid h1
    have H2 := Lib.hid h2
    have H3 := Lib.hid h3
    have hmk := fun W => run_make_bool m (by omega) W
    clear hbad g1 g2 g3 hn hm hq h1 h2 h3
    go_enter Try.func10, Try.ntmps10
    go_wp2_with fail
    ((with_reducible refine HTR.out.mono ?_); rintro e w' ⟨rfl, rfl⟩)
    rw [HT.out]
    obtain ⟨bm, hbm⟩ : ∃ bm, w'.heap.size = bm := ⟨_, rfl⟩
    have HBM := Lib.hid hbm
    go_wp2_with fail
    go_loopw [10, 27] (fun mv kv wr => ∃ (k : Nat) (M : List Bool) (mo : Int), mv = .int .i64 mo ∧ kv = .int .i64 (k : Int) ∧ k ≤ q ∧ M.length = m ∧ (0 ≤ mo ∧ mo ≤ 4294967296) ∧ AdjR.peakGo ab ws od (List.replicate ab.length false) 0 = AdjR.peakGo ab ws (od.drop k) M mo ∧ Blk wr w'.heap.size 4 (Rm.bools M).toArray ∧ Below w'.heap.size w' wr) (fun _ kv _ => q - (intOf kv).toNat)
    case atStart => exact ⟨0, List.replicate m false, 0, rfl, rfl, by omega, by simp, by omega, by rw [HN.out.1]; rfl, Blk.new w' _ _, HB0.out.alloc (Nat.le_refl _) _⟩
    case round =>
      obtain ⟨k, M, mo, rfl, rfl, hk, hML, ⟨hmo1, hmo2⟩, hgo, hblk, hbel⟩ := hrel
      have HGO := Lib.hid hgo
      have HBL := Lib.hid hblk
      have HBE := Lib.hid hbel
      have HML := Lib.hid hML
      clear hgo hblk hbel hML
      by_cases hlt : k < q
      · obtain ⟨b3, off3, rfl, r3⟩ := ints_cell H3.out (by have := HN.out; omega)
        have c3 := (HBE.out.cell (cell_lt (r3 k (by have := HN.out; omega)))).trans (r3 k (by have := HN.out; omega))
        have HU := Lib.hid (show AdjR.peakGo ab ws (od.drop k) M mo = AdjR.peakGo ab ws (od.getD k 0 :: od.drop (k + 1)) M mo by
          rw [List.drop_eq_getElem_cons (by have := HN.out; omega), List.getD_eq_getElem?_getD, List.getElem?_eq_getElem (by have := HN.out; omega)]; rfl)
        generalize od.getD k 0 = i at c3 HU
        clear r3
        by_cases hi0 : i < 0
        · have HP := Lib.hid (AdjR.peak_of (r := (0, 10)) HT.out (by rw [HGO.out, HU.out]; unfold AdjR.peakGo; rw [if_pos (.inl hi0)]) (by decide))
          go_wp2_with fail
          go_ret2
          exact ⟨by rw [HP.out]; rfl, by first | exact HBE.out | (have h := HBE.out; rw [HBM.out] at h; exact h)⟩
        by_cases hin : (m : Int) ≤ i
        · have HP := Lib.hid (AdjR.peak_of (r := (0, 10)) HT.out (by rw [HGO.out, HU.out]; unfold AdjR.peakGo; rw [if_pos (.inr (.inl (by rw [HN.out.1]; exact hin)))]) (by decide))
          go_wp2_with fail
          go_ret2
          exact ⟨by rw [HP.out]; rfl, by first | exact HBE.out | (have h := HBE.out; rw [HBM.out] at h; exact h)⟩
        obtain ⟨j, rfl⟩ : ∃ j : Nat, i = (j : Int) := ⟨i.toNat, by omega⟩
        have hj : j < m := by omega
        have c4 := HBL.out.at (Rm.bools_at M j (by rw [HML.out]; exact hj))
        rw [hbm] at c4
        cases hmj : M.getD j false with
        | true =>
          have HP := Lib.hid (AdjR.peak_of (r := (0, 10)) HT.out (by rw [HGO.out, HU.out]; unfold AdjR.peakGo; rw [if_pos (.inr (.inr (by rw [Int.toNat_natCast]; exact hmj)))]) (by decide))
          rw [hmj] at c4
          clear hmj
          go_wp2_with fail
          go_ret2
          exact ⟨by rw [HP.out]; rfl, by first | exact HBE.out | (have h := HBE.out; rw [HBM.out] at h; exact h)⟩
        | false =>
          obtain ⟨M', hM'⟩ : ∃ M', M.set j true = M' := ⟨_, rfl⟩
          have HU2 := Lib.hid (show AdjR.peakGo ab ws od (List.replicate ab.length false) 0 = if AdjR.anyTo (AdjR.lacks ab M' (j : Int)) m = true then (0, 10) else AdjR.peakGo ab ws (od.drop (k + 1)) M' (if mo < AdjR.sumTo (AdjR.term ab ws M' (j : Int)) m then AdjR.sumTo (AdjR.term ab ws M' (j : Int)) m else mo) by
            rw [HGO.out, HU.out, ← hM']
            conv => lhs; unfold AdjR.peakGo
            rw [if_neg (by rw [HN.out.1, Int.toNat_natCast, hmj]; simp; omega), Int.toNat_natCast, HN.out.1])
          rw [hmj] at c4
          have f4 := HBL.out.frozen j
          rw [hbm] at f4
          obtain ⟨w2, hw2⟩ : ∃ w2, wr.setCell ⟨bm, j, none⟩ (.bool true) = w2 := ⟨_, rfl⟩
          have HB2 := Lib.hid (show Blk w2 bm 4 (Rm.bools M').toArray by
            have h := HBL.out.set_ j (.bool true)
            rw [Rm.bools_set, hM', hbm, hw2] at h
            exact h)
          have HE2 := Lib.hid (show Below w'.heap.size w' w2 by
            rw [← hw2]; exact HBE.out.setCell (p := ⟨bm, j, none⟩) (by rw [hbm]; exact Nat.le_refl _) _)
          have HML2 := Lib.hid (show M'.length = m by rw [← hM', List.length_set]; exact HML.out)
          have HHW := Lib.hid hw2
          have HSB := Lib.hid (fun x (hx : x ≤ m) => AdjR.sumTo_bound (f := AdjR.term ab ws M' (j : Int)) (n := m) (fun y hy => AdjR.term_range HT.out M' (j : Int) y (by rw [HN.out.1]; exact hy)) x hx)
          clear hmj hM'
          go_wp2_with fail
          go_loopw [13, 50] (fun nv kv wx => ∃ x : Nat, kv = .int .i64 (x : Int) ∧ x ≤ m ∧ nv = .int .i64 (AdjR.sumTo (AdjR.term ab ws M' (j : Int)) x) ∧ AdjR.anyTo (AdjR.lacks ab M' (j : Int)) x = false ∧ wx = w2) (fun _ kv _ => m - (intOf kv).toNat)
          case atStart => exact ⟨0, rfl, by omega, rfl, rfl, by first | rfl | exact HHW.out⟩
          case round =>
            obtain ⟨x, rfl, hx, rfl, hany, rfl⟩ := hrel
            have HAN := Lib.hid hany
            clear hany hw2
            have hsb := HSB.out x hx
            by_cases hxm : x < m
            · have hxx := HOK.out x (by rw [HN.out.1]; exact hxm)
              rw [HN.out.1] at hxx
              obtain ⟨b1, off1, rfl, r1⟩ := ints_cell H1.out (by have := HN.out; omega)
              obtain ⟨b2, off2, rfl, r2⟩ := ints_cell H2.out (by have := HN.out; omega)
              have d1 := (HE2.out.cell (cell_lt (r1 x (by have := HN.out; omega)))).trans (r1 x (by have := HN.out; omega))
              have d2 := (HE2.out.cell (cell_lt (r2 x (by have := HN.out; omega)))).trans (r2 x (by have := HN.out; omega))
              have d3 := HB2.out.at (Rm.bools_at M' x (by rw [HML2.out]; exact hxm))
              have HTY := Lib.hid (AdjR.term_yes (ab := ab) (ws := ws) (M := M') (i := (j : Int)) (k := x))
              have HTN := Lib.hid (AdjR.term_no (ab := ab) (ws := ws) (M := M') (i := (j : Int)) (k := x))
              have HLK := Lib.hid (show AdjR.lacks ab M' (j : Int) x = ((ab.getD x 0 == (j : Int)) && !(M'.getD x false)) from rfl)
              have HNX := Lib.hid (show AdjR.sumTo (AdjR.term ab ws M' (j : Int)) (x + 1) = AdjR.sumTo (AdjR.term ab ws M' (j : Int)) x + AdjR.term ab ws M' (j : Int) x from rfl)
              have HAX := Lib.hid (show AdjR.anyTo (AdjR.lacks ab M' (j : Int)) (x + 1) = (AdjR.anyTo (AdjR.lacks ab M' (j : Int)) x || AdjR.lacks ab M' (j : Int) x) from rfl)
              have hs1 : AdjR.sumTo (AdjR.term ab ws M' (j : Int)) x ≤ 4294967296 := by omega
              have hs0 := hsb.1
              clear hsb r1 r2
              generalize AdjR.sumTo (AdjR.term ab ws M' (j : Int)) x = S at hs0 hs1 HNX ⊢
              generalize hga : ab.getD x 0 = a at d1 HTY HTN HLK hxx
              generalize ws.getD x 0 = y at d2 HTY hxx
              obtain ⟨y1, y2, y3, y4⟩ := hxx
              clear hga
              have HGM := Lib.hid (fun z (hz : z < m) => HB2.out.at (Rm.bools_at M' z (by rw [HML2.out]; exact hz)))
              cases hmx : M'.getD x false with
              | false =>
                rw [hmx] at d3
                by_cases haj : a = (j : Int)
                · have HP := Lib.hid (AdjR.peak_of (r := (0, 10)) HT.out (by rw [HU2.out, if_pos (AdjR.anyTo_at hxm (by rw [HLK.out, hmx, haj]; simp))]) (by decide))
                  have qa : (a == (j : Int)) = true := by simpa using haj
                  clear haj hmx y1 y2
                  go_wp2_with fail
                  go_ret2
                  exact ⟨by rw [HP.out]; rfl, by first | exact HE2.out | (have h := HE2.out; rw [HBM.out] at h; exact h)⟩
                · have HL0 := Lib.hid (show AdjR.lacks ab M' (j : Int) x = false by rw [HLK.out]; simp [haj])
                  have HT0 := Lib.hid (HTN.out (by rw [hmx]; simp))
                  have qa : (a == (j : Int)) = false := by simpa using haj
                  clear haj hmx y1 y2
                  go_wp2_with fail
                  go_roundw
                  case rel => exact ⟨x + 1, by go_num, by omega, by rw [HNX.out, HT0.out, Int.add_zero], by rw [HAX.out, HAN.out, HL0.out]; rfl, by trivial⟩
                  case measure => simp [intOf]; omega
              | true =>
                rw [hmx] at d3
                have HL0 := Lib.hid (show AdjR.lacks ab M' (j : Int) x = false by rw [HLK.out, hmx]; simp)
                by_cases hxj : x = j
                · have HT0 := Lib.hid (HTY.out hmx (.inl (by rw [hxj])))
                  have qa : (a == (j : Int)) = false := by simp; omega
                  have qx : ((x : Int) == (j : Int)) = true := by simp [hxj]
                  clear hxj hmx y1 y2
                  go_wp2_with fail
                  go_roundw
                  case rel => exact ⟨x + 1, by go_num, by omega, by rw [HNX.out, HT0.out], by rw [HAX.out, HAN.out, HL0.out]; rfl, by trivial⟩
                  case measure => simp [intOf]; omega
                have qx : ((x : Int) == (j : Int)) = false := by simp; omega
                by_cases haj : a = (j : Int)
                · have HT0 := Lib.hid (HTY.out hmx (.inr (.inl haj)))
                  have qa : (a == (j : Int)) = true := by simpa using haj
                  clear haj hmx y1 y2
                  go_wp2_with fail
                  go_roundw
                  case rel => exact ⟨x + 1, by go_num, by omega, by rw [HNX.out, HT0.out], by rw [HAX.out, HAN.out, HL0.out]; rfl, by trivial⟩
                  case measure => simp [intOf]; omega
                have qa : (a == (j : Int)) = false := by simpa using haj
                by_cases hneg : a < 0
                · have HT0 := Lib.hid (HTY.out hmx (.inr (.inr (.inl hneg))))
                  clear haj hmx y1 y2
                  go_wp2_with fail
                  go_roundw
                  case rel => exact ⟨x + 1, by go_num, by omega, by rw [HNX.out, HT0.out], by rw [HAX.out, HAN.out, HL0.out]; rfl, by trivial⟩
                  case measure => simp [intOf]; omega
                obtain ⟨z, rfl⟩ : ∃ z : Nat, a = (z : Int) := ⟨a.toNat, by omega⟩
                have hz : z < m := by omega
                have d5 := HGM.out z hz
                have hzn : ¬ (z : Int) < 0 := by omega
                cases hmz : M'.getD z false with
                | false =>
                  rw [hmz] at d5
                  have HT0 := Lib.hid (HTY.out hmx (.inr (.inr (.inr (by rw [Int.toNat_natCast]; exact hmz)))))
                  clear haj hmx hmz y1 y2 hneg
                  go_wp2_with fail
                  go_roundw
                  case rel => exact ⟨x + 1, by go_num, by omega, by rw [HNX.out, HT0.out], by rw [HAX.out, HAN.out, HL0.out]; rfl, by trivial⟩
                  case measure => simp [intOf]; omega
                | true =>
                  rw [hmz] at d5
                  have HT0 := Lib.hid (HTN.out (by rw [Int.toNat_natCast, hmz]; simp; omega))
                  clear haj hmx hmz y1 y2 hneg
                  go_wp2_with fail
                  go_roundw
                  case rel => exact ⟨x + 1, by go_num, by omega, by rw [HNX.out, HT0.out]; try simp, by rw [HAX.out, HAN.out, HL0.out]; rfl, by trivial⟩
                  case measure => simp [intOf]; omega
            · obtain rfl : x = m := by omega
              have hs1 : AdjR.sumTo (AdjR.term ab ws M' (j : Int)) x ≤ 4294967296 := by omega
              have hs0 := hsb.1
              have HU3 := Lib.hid (HU2.out.trans (if_neg (by rw [HAN.out]; decide)))
              clear hsb hxm
              generalize AdjR.sumTo (AdjR.term ab ws M' (j : Int)) x = S at hs0 hs1 HU3 ⊢
              by_cases hgt : mo < S
              · have HU4 := Lib.hid (HU3.out.trans (by rw [if_pos hgt]))
                go_wp2_with fail
                go_roundw
                case rel => exact ⟨k + 1, M', S, rfl, by go_num, by omega, HML2.out, by omega, HU4.out, by rw [HBM.out]; exact HB2.out, HE2.out⟩
                case measure => simp [intOf]; omega
              · have HU4 := Lib.hid (HU3.out.trans (by rw [if_neg hgt]))
                go_wp2_with fail
                go_roundw
                case rel => exact ⟨k + 1, M', mo, rfl, by go_num, by omega, HML2.out, by omega, HU4.out, by rw [HBM.out]; exact HB2.out, HE2.out⟩
                case measure => simp [intOf]; omega
      · obtain rfl : k = q := by omega
        have HP := Lib.hid (AdjR.peak_len (r := (mo, 0)) HT.out (by rw [HGO.out, List.drop_eq_nil_of_le (by have := HN.out; omega)]; rfl) rfl)
        have HN2 := Lib.hid (show (od.length ≠ ab.length) = (k ≠ m) by rw [HN.out.1, HN.out.2.2])
        by_cases he : k = m
        · have HP2 := Lib.hid (HP.out.trans (if_neg (by rw [HN2.out]; simp [he])))
          subst he
          go_wp2_with fail
          go_ret2
          exact ⟨by rw [HP2.out]; rfl, by first | exact HBE.out | (have h := HBE.out; rw [HBM.out] at h; exact h)⟩
        · have HP2 := Lib.hid (HP.out.trans (if_pos (by rw [HN2.out]; exact he)))
          have q0 : ((k : Int) == (m : Int)) = false := by simp; omega
          go_wp2_with fail
          go_ret2
          exact ⟨by rw [HP2.out]; rfl, by first | exact HBE.out | (have h := HBE.out; rw [HBM.out] at h; exact h)⟩
  · have HP := Lib.hid (AdjR.peak_bad (order := od) hbad)
    clear hn hm hq h1 h2 h3
    generalize AdjR.treeBad ab ws = t at hbad HTR HP
    have t0 : (t == 0) = false := by simpa using hbad
    go_enter Try.func10, Try.ntmps10
    go_wp2_with fail
    ((with_reducible refine HTR.out.mono ?_); rintro e w' ⟨rfl, rfl⟩)
    go_wp2_with fail
    all_goals first | (exfalso; simp at *; omega) | (go_ret2; exact ⟨by rw [HP.out]; rfl, by first | exact HB0.out | (have h := HB0.out; rw [HBM.out] at h; exact h)⟩)
end Go.Proofs.Ytkopkicdmbnpgaa
