/-
  The walk of the program's Peak. Conditions: the lists can be read.
-/
import Derived.Test.YtkopkicdmbnpgaaRoomF
import Derived.Test.YtkopkicdmbnpgaaClimbPlain2
namespace Go.Proofs.Ytkopkicdmbnpgaa
set_option linter.unusedVariables false
open Go.RowKit Adj

namespace Rm
theorem Tr.get {w wr : World} {x y : Value} {bt bb n : Nat} {F : Nat → List Int} (h : Tr w x y bt bb n F wr) {s : Nat} (hs : s < n) : ∃ A c, wr.cell? ⟨bb, s, none⟩ = some (.slice A (F s).length c) ∧ IntsAt wr wr.heap.size A (F s) := by
  obtain ⟨A, c, h1, h2, _⟩ := h.ps.get hs
  exact ⟨A, c, h1, RowAt.of_own h2⟩
end Rm

set_option maxRecDepth 100000 in
set_option maxHeartbeats 8000000 in
theorem Peak_any (w : World) (ab ws od : List Int) (A A' A'' : Option Addr) (n m q c c' c'' : Nat) (hn : ab.length = n) (hm : ws.length = m) (hq : od.length = q) (hq2 : q ≤ 9223372036854775807) (h1 : IntsAt w w.heap.size A ab) (h2 : IntsAt w w.heap.size A' ws) (h3 : IntsAt w w.heap.size A'' od) :
    Calls Try.prog 9 #[.slice A n c, .slice A' m c', .slice A'' q c''] w fun e w' => e = .returned (.tuple #[.int .i64 (AdjR.peak ab ws od).1, .int .i64 (AdjR.peak ab ws od).2]) ∧ Below w.heap.size w w' := by
  have HGR := Lib.hid (grow_any w ab ws A A' n m c c' hn hm h1 h2)
  by_cases hbad : AdjR.treeBad ab ws = 0
  · have HT := Lib.hid hbad
    obtain ⟨g1, g2, g3⟩ := AdjR.treeOk hbad
    obtain rfl : m = n := by omega
    have hbig : m ≤ 4096 := by omega
    have HN := Lib.hid (And.intro hn (And.intro hm hq))
    have HOK := Lib.hid g3
    have H1 := Lib.hid h1
    have H2 := Lib.hid h2
    have H3 := Lib.hid h3
    have hmk := fun W => run_make_bool m (by omega) W
    have hmf : ∀ (fn : Fn) (first cap : Array Value) (w : World), (Instr.makeFunc fn first cap).run Try.prog w = .ok (.func fn first cap) w := fun _ _ _ _ => rfl
    clear hbad g1 g2 g3 hn hm hq h1 h2 h3
    go_enter Try.func9, Try.ntmps9
    go_wp2_with fail
    ((with_reducible refine HGR.out.mono ?_); rintro e w1 ⟨v, rfl, hb1, htr, _⟩)
    rw [HT.out]
    obtain ⟨bt, bb, rfl, htr2⟩ := htr HT.out
    have HTR := Lib.hid htr2
    have HB1 := Lib.hid hb1
    clear htr htr2 hb1
    go_wp2_with fail
    clear hmk
    go_loopw [11, 12, 31] (fun nv mv kv wr => ∃ (k : Nat) (M : List Bool) (mo now : Int), nv = .int .i64 now ∧ mv = .int .i64 mo ∧ kv = .int .i64 (k : Int) ∧ k ≤ q ∧ M.length = m ∧ (0 ≤ mo ∧ mo ≤ 4294967296) ∧ now = AdjR.sumTo (AdjR.held ab ws M) m ∧ AdjR.Inv ab M ∧ AdjR.peakGo ab ws od (List.replicate ab.length false) 0 = AdjR.peakGo ab ws (od.drop k) M mo ∧ Blk wr w1.heap.size 4 (Rm.bools M).toArray ∧ Blk wr (w1.heap.size + 1) 49 #[.slice (some ⟨w1.heap.size, 0, none⟩) m m] ∧ Below w1.heap.size w1 wr) (fun _ _ kv _ => q - (intOf kv).toNat)
    case atStart =>
      refine ⟨0, List.replicate m false, 0, 0, rfl, rfl, rfl, by omega, by simp, by omega, ?_, AdjR.inv_zero _ _, by rw [HN.out.1]; rfl, (Blk.new w1 _ _).alloc _, ?_, ((Below.refl w1.heap.size w1).alloc (Nat.le_refl _) _).alloc (by simp) _⟩
      · have h := AdjR.held_zero ab ws m
        rw [HN.out.1] at h; exact h.symm
      · have h := Blk.new (w1.alloc (.cells (Rm.bools (List.replicate m false)).toArray 4)) 49 #[.slice (some ⟨w1.heap.size, 0, none⟩) m m]
        rw [World.size_alloc] at h
        exact h
    case round =>
      obtain ⟨k, M, mo, now, rfl, rfl, rfl, hk, hML, ⟨hmo1, hmo2⟩, hnow, hinv, hgo, hblk, hblk2, hbel⟩ := hrel
      have HGO := Lib.hid hgo
      have HBL := Lib.hid hblk
      have HBD := Lib.hid hblk2
      have HBE := Lib.hid hbel
      have HML := Lib.hid hML
      have HNOW := Lib.hid hnow
      have HINV := Lib.hid hinv
      clear hgo hblk hblk2 hbel hML hnow hinv
      have HOUT := Lib.hid (HB1.out.trans (HBE.out.mono HB1.out.size))
      have hwr : w1.heap.size + 1 < wr.heap.size := HBD.out.lt
      by_cases hlt : k < q
      · obtain ⟨b3, off3, rfl, r3⟩ := ints_cell H3.out (by have := HN.out; omega)
        have c3 := (HOUT.out.cell (cell_lt (r3 k (by have := HN.out; omega)))).trans (r3 k (by have := HN.out; omega))
        have HU := Lib.hid (show AdjR.peakGo ab ws (od.drop k) M mo = AdjR.peakGo ab ws (od.getD k 0 :: od.drop (k + 1)) M mo by
          rw [List.drop_eq_getElem_cons (by have := HN.out; omega), List.getD_eq_getElem?_getD, List.getElem?_eq_getElem (by have := HN.out; omega)]; rfl)
        generalize od.getD k 0 = i at c3 HU
        clear r3
        by_cases hi0 : i < 0
        · have HP := Lib.hid (AdjR.peak_of (r := (0, 10)) HT.out (by rw [HGO.out, HU.out]; unfold AdjR.peakGo; rw [if_pos (.inl hi0)]) (by decide))
          go_wp2_with fail
          go_ret2
          exact ⟨by rw [HP.out]; rfl, HOUT.out⟩
        by_cases hin : (m : Int) ≤ i
        · have HP := Lib.hid (AdjR.peak_of (r := (0, 10)) HT.out (by rw [HGO.out, HU.out]; unfold AdjR.peakGo; rw [if_pos (.inr (.inl (by rw [HN.out.1]; exact hin)))]) (by decide))
          go_wp2_with fail
          go_ret2
          exact ⟨by rw [HP.out]; rfl, HOUT.out⟩
        obtain ⟨j, rfl⟩ : ∃ j : Nat, i = (j : Int) := ⟨i.toNat, by omega⟩
        have hj : j < m := by omega
        have c4 := HBL.out.at (Rm.bools_at M j (by rw [HML.out]; exact hj))
        have c5 : wr.cell? ⟨w1.heap.size + 1, 0, none⟩ = some (.slice (some ⟨w1.heap.size, 0, none⟩) m m) := HBD.out.cell 0
        cases hmj : M.getD j false with
        | true =>
          have HP := Lib.hid (AdjR.peak_of (r := (0, 10)) HT.out (by rw [HGO.out, HU.out]; unfold AdjR.peakGo; rw [if_pos (.inr (.inr (by rw [Int.toNat_natCast]; exact hmj)))]) (by decide))
          rw [hmj] at c4
          clear hmj
          go_wp2_with fail
          go_ret2
          exact ⟨by rw [HP.out]; rfl, HOUT.out⟩
        | false =>
          have HMJ := Lib.hid hmj
          have HANY := Lib.hid (AdjR.any_eq HT.out (by rw [HML.out, HN.out.1]) (by rw [HN.out.1]; exact hj) hmj)
          have HU2 := Lib.hid (show AdjR.peakGo ab ws od (List.replicate ab.length false) 0 = if (AdjR.belowTo ab m j).any (fun x => !(M.getD x.toNat false)) = true then (0, 10) else AdjR.peakGo ab ws (od.drop (k + 1)) (M.set j true) (if mo < AdjR.sumTo (AdjR.term ab ws (M.set j true) (j : Int)) m then AdjR.sumTo (AdjR.term ab ws (M.set j true) (j : Int)) m else mo) by
            have h := HANY.out
            rw [HN.out.1] at h
            rw [HGO.out, HU.out, ← h]
            conv => lhs; unfold AdjR.peakGo
            rw [if_neg (by rw [HN.out.1, Int.toNat_natCast, hmj]; simp; omega), Int.toNat_natCast, HN.out.1])
          rw [hmj] at c4
          obtain ⟨AL, cL, hcL, hiL⟩ := HTR.out.get hj
          have d2 : wr.cell? ⟨bt, 2, none⟩ = some (.slice (some ⟨bb, 0, none⟩) m m) := (HTR.out.tree.below HBE.out HTR.out.tree.lt).cell 2
          have d3 := (HBE.out.cell (cell_lt hcL)).trans hcL
          have hLl := AdjR.belowTo_length ab m j
          have HLM := Lib.hid (fun x (hx : x ∈ AdjR.belowTo ab m j) => AdjR.belowTo_mem.1 hx)
          obtain ⟨L, hL⟩ : ∃ L, AdjR.belowTo ab m j = L := ⟨_, rfl⟩
          rw [hL] at d3 hiL hLl HLM HU2
          have HL := Lib.hid hL
          have HIL1 := Lib.hid hiL
          have HIL := Lib.hid ((hiL.below HBE.out).up HBE.out.size)
          have HCF := Lib.hid (containsFunc_any wr 27 #[.pointer (some ⟨w1.heap.size + 1, 0, none⟩)] (fun x => !(M.getD x.toNat false)) (fun x => 0 ≤ x ∧ x < m) AL L L.length cL rfl (by omega) (peakAsk wr (w1.heap.size + 1) w1.heap.size m M HML.out (HBD.out.cell 0) HBL.out) (fun x hx => by obtain ⟨i, rfl, h1, _⟩ := HLM.out x hx; omega) HIL.out)
          clear hmj hL hcL hiL
          go_wp2_with fail
          ((with_reducible refine HCF.out.mono ?_); rintro e w5 ⟨rfl, hb5⟩)
          have HB5 := Lib.hid hb5
          clear hb5
          cases hany : L.any (fun x => !(M.getD x.toNat false)) with
          | true =>
            have HP := Lib.hid (AdjR.peak_of (r := (0, 10)) HT.out (by rw [HU2.out, if_pos hany]) (by decide))
            clear hany
            go_wp2_with fail
            go_ret2
            exact ⟨by rw [HP.out]; rfl, HOUT.out.trans (HB5.out.mono HOUT.out.size)⟩
          | false =>
            have HALL := Lib.hid (show ∀ z, z < ab.length → ab.getD z 0 = (j : Int) → M.getD z false = true from fun z hz hzj => by
              have h1 : (z : Int) ∈ L := by rw [← HL.out, AdjR.belowTo_mem]; exact ⟨z, rfl, by rw [← HN.out.1]; exact hz, hzj⟩
              have h2 := List.any_eq_false.1 hany _ h1
              rw [Int.toNat_natCast] at h2
              cases hz2 : M.getD z false with
              | true => rfl
              | false => rw [hz2] at h2; simp at h2)
            have HML1 := Lib.hid (show M.length = ab.length by rw [HML.out, HN.out.1])
            have HJA := Lib.hid (show j < ab.length by rw [HN.out.1]; exact hj)
            have HNEED := Lib.hid (AdjR.need_eq HT.out HML1.out HJA.out HMJ.out HALL.out)
            have HNXT := Lib.hid (AdjR.held_next HT.out HML1.out HJA.out HMJ.out HINV.out HALL.out)
            have HINV2 := Lib.hid (AdjR.inv_next HML1.out HJA.out HINV.out HALL.out)
            have HSL := Lib.hid (AdjR.sumL_below ab ws j m)
            have hsb := AdjR.sumTo_bound (f := AdjR.term ab ws (M.set j true) (j : Int)) (n := m) (fun y hy => AdjR.term_range HT.out (M.set j true) (j : Int) y (by rw [HN.out.1]; exact hy)) m (Nat.le_refl _)
            have HU3 := Lib.hid (HU2.out.trans (if_neg (by rw [hany]; decide)))
            rw [HN.out.1] at HNEED HNXT
            rw [HL.out] at HSL
            have hnx := HNEED.out
            rw [← HNOW.out] at hnx
            have hjx := HOK.out j HJA.out
            obtain ⟨b2, off2, rfl, r2⟩ := ints_cell H2.out (by have := HN.out; omega)
            have HO5 := Lib.hid (HOUT.out.trans (HB5.out.mono HOUT.out.size))
            have HE5 := Lib.hid (HBE.out.trans (HB5.out.mono HBE.out.size))
            have d4 := (HO5.out.cell (cell_lt (r2 j (by have := HN.out; omega)))).trans (r2 j (by have := HN.out; omega))
            have HBL5 := Lib.hid (HBL.out.below HB5.out HBL.out.lt)
            have HBD5 := Lib.hid (HBD.out.below HB5.out HBD.out.lt)
            have d5 : w5.cell? ⟨w1.heap.size + 1, 0, none⟩ = some (.slice (some ⟨w1.heap.size, 0, none⟩) m m) := HBD5.out.cell 0
            have d6 := HBL5.out.at (Rm.bools_at M j (by rw [HML.out]; exact hj))
            have f6 := HBL5.out.frozen j
            obtain ⟨S, hS⟩ : ∃ S, AdjR.sumTo (AdjR.term ab ws (M.set j true) (j : Int)) m = S := ⟨_, rfl⟩
            rw [hS] at HNXT hsb HU3 hnx
            obtain ⟨hs0, hs1⟩ := hsb
            have hs2 : S ≤ 4294967296 := by omega
            obtain ⟨hx1, hx2, hx3, hx4⟩ := hjx
            generalize hwj : ws.getD j 0 = xj at d4 hx3 hx4 hnx
            have e1 : now + xj = S := by omega
            have HR2 := Lib.hid r2
            have HDT := Lib.hid ((HTR.out.tree.below HE5.out HTR.out.tree.lt).cell 2)
            obtain ⟨w6, hw6⟩ : ∃ w6, w5.setCell ⟨w1.heap.size, j, none⟩ (.bool true) = w6 := ⟨_, rfl⟩
            have HE6 := Lib.hid (show Below w1.heap.size w1 w6 by rw [← hw6]; exact HE5.out.setCell (p := ⟨w1.heap.size, j, none⟩) (Nat.le_refl _) _)
            have HBL6 := Lib.hid (show Blk w6 w1.heap.size 4 (Rm.bools (M.set j true)).toArray by
              have h := HBL5.out.set_ j (.bool true)
              rw [Rm.bools_set, hw6] at h; exact h)
            have HBD6 := Lib.hid (show Blk w6 (w1.heap.size + 1) 49 #[.slice (some ⟨w1.heap.size, 0, none⟩) m m] by
              rw [← hw6]; exact HBD5.out.far (p := ⟨w1.heap.size, j, none⟩) (by simp) _)
            have d7 : w6.cell? ⟨bt, 2, none⟩ = some (.slice (some ⟨bb, 0, none⟩) m m) := (HTR.out.tree.below HE6.out HTR.out.tree.lt).cell 2
            have d8 : w6.cell? ⟨bb, j, none⟩ = some (.slice AL L.length cL) := by
              obtain ⟨A0, c0, k1, k2⟩ := HTR.out.get hj
              have h5 := (HBE.out.cell (cell_lt k1)).symm.trans d3
              exact (HE6.out.cell (cell_lt k1)).trans h5
            have HIL6 := Lib.hid ((HIL1.out.below HE6.out).up HE6.out.size)
            have HW6 := Lib.hid hw6
            have HO6 := Lib.hid (HB1.out.trans (HE6.out.mono HB1.out.size))
            have d9 := (HO6.out.cell (cell_lt (r2 j (by have := HN.out; omega)))).trans (r2 j (by have := HN.out; omega))
            rw [hwj] at d9
            have hmo3 : 0 ≤ mo := hmo1
            clear hnx hwj r2 hany hS hx1 hx2
            clear hw6
            by_cases hgt : mo < S
            · have hmax : max mo S = S := by omega
              have HUZ := Lib.hid (HU3.out.trans (by rw [if_pos hgt]))
              have hw6 := HW6.out
              go_wp2_with fail
              clear hw6
              go_loopw [11, 80] (fun nv kv wx => ∃ (x : Nat) (p : Int), kv = .int .i64 (x : Int) ∧ nv = .int .i64 (S - p) ∧ x ≤ L.length ∧ p = AdjR.sumL ws (L.take x) ∧ (0 ≤ p ∧ p ≤ (x : Int) * 1048576) ∧ wx = w6) (fun _ kv _ => L.length - (intOf kv).toNat)
              case atStart => exact ⟨0, 0, rfl, by rw [Int.sub_zero], by omega, rfl, by omega, by first | rfl | exact HW6.out⟩
              case round =>
                obtain ⟨x, p, rfl, rfl, hx, hp, ⟨hp0, hp1⟩, hwx⟩ := hrel
                subst hwx
                have HP := Lib.hid hp
                have hp2 : p ≤ 4294967296 := by omega
                clear hp
                by_cases hxl : x < L.length
                · obtain ⟨b4, off4, rfl, r4⟩ := ints_cell HIL6.out (by omega)
                  have c7 := r4 x hxl
                  obtain ⟨y, hy, hym, hyy⟩ := HLM.out L[x] (List.getElem_mem hxl)
                  have hgy : L.getD x 0 = (y : Int) := by rw [List.getD_eq_getElem?_getD, List.getElem?_eq_getElem hxl]; exact hy
                  rw [hgy] at c7
                  have d10 := (HO6.out.cell (cell_lt (HR2.out y (by have := HN.out; omega)))).trans (HR2.out y (by have := HN.out; omega))
                  have hoy := (HOK.out y (by rw [HN.out.1]; exact hym)).2.2
                  have HTK := Lib.hid (show AdjR.sumL ws (L.take (x + 1)) = AdjR.sumL ws (L.take x) + ws.getD y 0 by
                    rw [List.take_succ_eq_append_getElem hxl, AdjR.sumL_snoc, hy, Int.toNat_natCast])
                  generalize ws.getD y 0 = wy at d10 hoy HTK
                  obtain ⟨hy0, hy1⟩ := hoy
                  clear r4 hy hyy hgy
                  go_wp2_with fail
                  go_roundw
                  case rel => exact ⟨x + 1, p + wy, by go_num, congrArg (Value.int .i64) (by omega), by omega, by rw [HTK.out, ← HP.out], ⟨by omega, by omega⟩, by trivial⟩
                  case measure => simp [intOf]; omega
                · have HPE := Lib.hid (show S - p = AdjR.sumTo (AdjR.held ab ws (M.set j true)) m by
                    have h1 := HP.out
                    rw [List.take_of_length_le (by omega), HSL.out] at h1
                    have h2 := HNXT.out
                    omega)
                  go_wp2_with fail
                  go_roundw
                  case rel => exact ⟨k + 1, M.set j true, S, S - p, rfl, rfl, by go_num, by omega, by rw [List.length_set]; exact HML.out, by omega, HPE.out, HINV2.out, HUZ.out, HBL6.out, HBD6.out, HE6.out⟩
                  case measure => simp [intOf]; omega
            · have hmax : max mo S = mo := by omega
              have HUZ := Lib.hid (HU3.out.trans (by rw [if_neg hgt]))
              have hw6 := HW6.out
              go_wp2_with fail
              clear hw6
              go_loopw [11, 80] (fun nv kv wx => ∃ (x : Nat) (p : Int), kv = .int .i64 (x : Int) ∧ nv = .int .i64 (S - p) ∧ x ≤ L.length ∧ p = AdjR.sumL ws (L.take x) ∧ (0 ≤ p ∧ p ≤ (x : Int) * 1048576) ∧ wx = w6) (fun _ kv _ => L.length - (intOf kv).toNat)
              case atStart => exact ⟨0, 0, rfl, by rw [Int.sub_zero], by omega, rfl, by omega, by first | rfl | exact HW6.out⟩
              case round =>
                obtain ⟨x, p, rfl, rfl, hx, hp, ⟨hp0, hp1⟩, hwx⟩ := hrel
                subst hwx
                have HP := Lib.hid hp
                have hp2 : p ≤ 4294967296 := by omega
                clear hp
                by_cases hxl : x < L.length
                · obtain ⟨b4, off4, rfl, r4⟩ := ints_cell HIL6.out (by omega)
                  have c7 := r4 x hxl
                  obtain ⟨y, hy, hym, hyy⟩ := HLM.out L[x] (List.getElem_mem hxl)
                  have hgy : L.getD x 0 = (y : Int) := by rw [List.getD_eq_getElem?_getD, List.getElem?_eq_getElem hxl]; exact hy
                  rw [hgy] at c7
                  have d10 := (HO6.out.cell (cell_lt (HR2.out y (by have := HN.out; omega)))).trans (HR2.out y (by have := HN.out; omega))
                  have hoy := (HOK.out y (by rw [HN.out.1]; exact hym)).2.2
                  have HTK := Lib.hid (show AdjR.sumL ws (L.take (x + 1)) = AdjR.sumL ws (L.take x) + ws.getD y 0 by
                    rw [List.take_succ_eq_append_getElem hxl, AdjR.sumL_snoc, hy, Int.toNat_natCast])
                  generalize ws.getD y 0 = wy at d10 hoy HTK
                  obtain ⟨hy0, hy1⟩ := hoy
                  clear r4 hy hyy hgy
                  go_wp2_with fail
                  go_roundw
                  case rel => exact ⟨x + 1, p + wy, by go_num, congrArg (Value.int .i64) (by omega), by omega, by rw [HTK.out, ← HP.out], ⟨by omega, by omega⟩, by trivial⟩
                  case measure => simp [intOf]; omega
                · have HPE := Lib.hid (show S - p = AdjR.sumTo (AdjR.held ab ws (M.set j true)) m by
                    have h1 := HP.out
                    rw [List.take_of_length_le (by omega), HSL.out] at h1
                    have h2 := HNXT.out
                    omega)
                  go_wp2_with fail
                  go_roundw
                  case rel => exact ⟨k + 1, M.set j true, mo, S - p, rfl, rfl, by go_num, by omega, by rw [List.length_set]; exact HML.out, by omega, HPE.out, HINV2.out, HUZ.out, HBL6.out, HBD6.out, HE6.out⟩
                  case measure => simp [intOf]; omega
      · obtain rfl : k = q := by omega
        have HP := Lib.hid (AdjR.peak_len (r := (mo, 0)) HT.out (by rw [HGO.out, List.drop_eq_nil_of_le (by have := HN.out; omega)]; rfl) rfl)
        have HN2 := Lib.hid (show (od.length ≠ ab.length) = (k ≠ m) by rw [HN.out.1, HN.out.2.2])
        by_cases he : k = m
        · have HP2 := Lib.hid (HP.out.trans (if_neg (by rw [HN2.out]; simp [he])))
          subst he
          go_wp2_with fail
          go_ret2
          exact ⟨by rw [HP2.out]; rfl, HOUT.out⟩
        · have HP2 := Lib.hid (HP.out.trans (if_pos (by rw [HN2.out]; exact he)))
          have q0 : ((k : Int) == (m : Int)) = false := by simp; omega
          go_wp2_with fail
          go_ret2
          exact ⟨by rw [HP2.out]; rfl, HOUT.out⟩
  · have HP := Lib.hid (AdjR.peak_bad (order := od) hbad)
    clear hn hm hq h1 h2 h3
    generalize AdjR.treeBad ab ws = t at hbad HGR HP
    have t0 : (t == 0) = false := by simpa using hbad
    go_enter Try.func9, Try.ntmps9
    go_wp2_with fail
    ((with_reducible refine HGR.out.mono ?_); rintro e w1 ⟨v, rfl, hb1, _⟩)
    have HB1 := Lib.hid hb1
    clear hb1
    go_wp2_with fail
    all_goals first | (exfalso; simp at *; omega) | (go_ret2; exact ⟨by rw [HP.out]; rfl, HB1.out⟩)
end Go.Proofs.Ytkopkicdmbnpgaa
