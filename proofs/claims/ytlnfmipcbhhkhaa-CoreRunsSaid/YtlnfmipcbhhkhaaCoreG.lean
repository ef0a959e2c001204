/-
  The walks of the reference's uses and Wrong. Conditions: the code can be read.
-/
import Derived.Test.YtlnfmipcbhhkhaaCoreF
import Derived.Test.YtlnfmipcbhhkhaaCoreD
namespace Go.Proofs.Ytlnfmipcbhhkhaa
set_option linter.unusedVariables false
open Go.RowKit Adj

set_option maxRecDepth 100000 in
set_option maxHeartbeats 4000000 in
theorem uses_any (A : Option Addr) (n : Nat) (l : List AdjC.I) (d s : Int) (B : Nat) (w : World) (hB : B ≤ w.heap.size) (hl : l.length ≤ n) (hn : n ≤ 9223372036854775807) (hm : IntsAt w B A (AdjC.flat l)) :
    Calls Try.prog 26 #[.slice A l.length n, .int .i64 d, .int .i64 s] w fun e w' => e = .returned (.bool (AdjC.uses l d s)) ∧ Below w.heap.size w w' := by
  have HM := Lib.hid hm
  clear hm
  go_enter Try.func26, Try.ntmps26
  go_wp2_with fail
  go_loopw [11] (fun i wr => ∃ k : Nat, k ≤ l.length ∧ i = .int .i64 k ∧ Below w.heap.size w wr ∧ AdjC.uses (l.take k) d s = false) (fun i _ => l.length - (intOf i).toNat)
  case atStart => exact ⟨0, by omega, rfl, Below.refl _ _, rfl⟩
  case round =>
    obtain ⟨k, hk, rfl, hb, hu⟩ := hrel
    have HB := Lib.hid hb
    have HU := Lib.hid hu
    clear hb hu
    by_cases hlt : k < l.length
    · obtain ⟨b, off, rfl, hbl⟩ := HM.out.spot (by rw [AdjC.flat_length]; omega)
      obtain ⟨x, hx⟩ : ∃ x, l[k] = x := ⟨_, rfl⟩
      obtain ⟨x0, x1, x2, x3, x4, x5⟩ := Cr.six_cells (HM.out.below (HB.out.mono hB)) hlt hx
      have HTK := Lib.hid (show l.take (k + 1) = l.take k ++ [x] by rw [← hx]; exact List.take_succ_eq_append_getElem hlt)
      have HNX := Lib.hid (show AdjC.uses (l.take (k + 1)) d s = (x.d == d && x.a == s) by rw [HTK.out, AdjC.uses_snoc, HU.out, Bool.false_or])
      have hsz := HB.out.size
      have HBA := Lib.hid (fun o => HB.out.alloc hsz o)
      have HX := Lib.hid hx
      clear hx
      by_cases h1 : x.d = d
      · by_cases h2 : x.a = s
        · have HIN := Lib.hid (show AdjC.uses l d s = true by
            unfold AdjC.uses
            rw [List.any_eq_true]
            exact ⟨x, by rw [← HX.out]; exact List.getElem_mem hlt, by simp [h1, h2]⟩)
          subst h1 h2
          go_wp2_with fail
          go_ret
          exact ⟨ret_bool HIN.out.symm, HBA.out _⟩
        · have t1 : (x.d == d) = true := by simpa using h1
          have t2 : (x.a == s) = false := by simpa using h2
          have HNY := Lib.hid (show AdjC.uses (l.take (k + 1)) d s = false by rw [HNX.out, t2, Bool.and_false])
          clear h1 h2
          go_wp2_with fail
          go_roundw
          case rel => exact ⟨k + 1, by omega, by go_num, HBA.out _, HNY.out⟩
          case measure => simp [intOf]; omega
      · have t1 : (x.d == d) = false := by simpa using h1
        have HNY := Lib.hid (show AdjC.uses (l.take (k + 1)) d s = false by rw [HNX.out, t1, Bool.false_and])
        clear h1
        go_wp2_with fail
        go_roundw
        case rel => exact ⟨k + 1, by omega, by go_num, HBA.out _, HNY.out⟩
        case measure => simp [intOf]; omega
    · have hkk : k = l.length := by omega
      subst hkk
      have HU2 := Lib.hid (show AdjC.uses l d s = false by have h := HU.out; rwa [List.take_of_length_le (Nat.le_refl _)] at h)
      go_wp2_with fail
      go_ret
      exact ⟨ret_bool HU2.out.symm, HB.out⟩

set_option maxRecDepth 100000 in
set_option maxHeartbeats 8000000 in
theorem refWrong_any (val : Value) (c : AdjC.Code) (w : World) (h : Cr.CodeAt w w.heap.size val c) : Calls Try.prog 12 #[val] w fun e w' => e = .returned (.int .i64 (AdjC.wrong c)) ∧ Below w.heap.size w w' := by
  obtain ⟨pad, mem, mo, mk⟩ := c
  obtain ⟨A, n, A', n', rfl, hA, hA', m1, m2, m1', m2'⟩ := h
  simp only at *
  have HA := Lib.hid hA
  have HA' := Lib.hid hA'
  have HE1 := Lib.hid (AdjC.wrong_ends (c := ⟨pad, mem, mo, mk⟩))
  have HE2 := Lib.hid (AdjC.wrong_many (c := ⟨pad, mem, mo, mk⟩))
  have HB0 := Lib.hid (fun o => (Below.refl w.heap.size w).alloc (Nat.le_refl _) o)
  have HR := Lib.hid (And.intro (HB0.out (.cells #[.int .i64 pad, .int .i64 mem, .slice A mo.length n, .slice A' mk.length n'] 24)) (Blk.new w 24 #[.int .i64 pad, .int .i64 mem, .slice A mo.length n, .slice A' mk.length n']))
  have HU3 := Lib.hid (fun (s : Int) (W : World) (hb : Below w.heap.size w W) => uses_any A n mo 3 s w.heap.size W hb.size m1 m2 (HA.out.below hb))
  have HV3 := Lib.hid (fun (s : Int) (W : World) (hb : Below w.heap.size w W) => uses_any A' n' mk 3 s w.heap.size W hb.size m1' m2' (HA'.out.below hb))
  have HU4 := Lib.hid (fun (s : Int) (W : World) (hb : Below w.heap.size w W) => uses_any A n mo 4 s w.heap.size W hb.size m1 m2 (HA.out.below hb))
  have HV4 := Lib.hid (fun (s : Int) (W : World) (hb : Below w.heap.size w W) => uses_any A' n' mk 4 s w.heap.size W hb.size m1' m2' (HA'.out.below hb))
  clear hA hA'
  go_enter Try.func12, Try.ntmps12
  go_upto_region 5 with (fail)
  all_goals first | (go_ret; exact ⟨ret_int (by first | exact (HE1.out (by first | omega | (simp only; omega))).symm | exact (HE2.out (by first | omega | (simp only; omega)) (by first | omega | (simp only; omega))).symm), HB0.out _⟩) | skip
  have hr1 : ¬ (pad < 0 ∨ 4096 < pad ∨ mem < 0 ∨ 1048576 < mem) := by omega
  have hr2 : ¬ (262144 < mo.length ∨ 262144 < mk.length) := by omega
  go_wp2_with fail
  generalize w.alloc (.cells #[.int .i64 pad, .int .i64 mem, .slice A mo.length n, .slice A' mk.length n'] 24) = W1 at HR ⊢
  clear HE1 HE2
  go_loopw [45] (fun i wr => ∃ k : Nat, k ≤ mo.length ∧ i = .int .i64 k ∧ (Below w.heap.size w wr ∧ Blk wr w.heap.size 24 #[.int .i64 pad, .int .i64 mem, .slice A mo.length n, .slice A' mk.length n']) ∧ AdjC.firstBad (AdjC.wrongI pad mem true) (mo.take k) = 0) (fun i _ => mo.length - (intOf i).toNat)
  case atStart => exact ⟨0, by omega, rfl, HR.out, rfl⟩
  case round =>
    obtain ⟨k, hk, rfl, hwr, hfb⟩ := hrel
    have HK := Lib.hid hwr
    have HFB := Lib.hid hfb
    clear hwr hfb
    by_cases hlt : k < mo.length
    · obtain ⟨b, off, rfl, hbl⟩ := HA.out.spot (by rw [AdjC.flat_length]; omega)
      obtain ⟨x, hx⟩ : ∃ x, mo[k] = x := ⟨_, rfl⟩
      obtain ⟨x0, x1, x2, x3, x4, x5⟩ := Cr.six_cells (HA.out.below HK.out.1) hlt hx
      have HTK := Lib.hid (show mo.take (k + 1) = mo.take k ++ [x] by rw [← hx]; exact List.take_succ_eq_append_getElem hlt)
      have HWI := Lib.hid (fun V2 V3 W => ins_mover pad mem V2 V3 x W)
      simp only [Cr.insV] at HWI
      have hzr := HK.out.2.lt
      have y0 := fun o => (HK.out.2.alloc o).cell 0
      have y1 := fun o => (HK.out.2.alloc o).cell 1
      have y2 := fun o => (HK.out.2.alloc o).cell 2
      have y3 := fun o => (HK.out.2.alloc o).cell 3
      have HX := Lib.hid hx
      clear hx
      go_wp2_with fail
      ((with_reducible refine (HWI.out _ _ _).mono ?_); rintro e w5 ⟨rfl, hb5⟩)
      have HK5 := Lib.hid (And.intro ((HK.out.1.alloc (by omega) _).trans (hb5.mono (by simp; omega))) ((HK.out.2.alloc _).below hb5 (by simp; omega)))
      clear x0 x1 x2 x3 x4 x5 y0 y1 y2 y3 hb5
      by_cases hz : AdjC.wrongI pad mem true x = 0
      · rw [hz]
        have HFB2 := Lib.hid (show AdjC.firstBad (AdjC.wrongI pad mem true) (mo.take (k + 1)) = 0 by rw [HTK.out]; exact AdjC.firstBad_snoc HFB.out hz)
        clear hz
        go_wp2_with fail
        go_roundw
        case rel => exact ⟨k + 1, by omega, by go_num, HK5.out, HFB2.out⟩
        case measure => simp [intOf]; omega
      · have HW := Lib.hid (show AdjC.wrong ⟨pad, mem, mo, mk⟩ = AdjC.wrongI pad mem true x by
          have hb := AdjC.firstBad_at hlt HFB.out (by rw [HX.out]; exact hz)
          rw [HX.out] at hb
          rw [← hb]
          exact AdjC.wrong_mover hr1 hr2 (by rw [hb]; exact hz))
        have hq : (AdjC.wrongI pad mem true x != 0) = true := by simpa using hz
        clear hz
        go_wp2_with fail
        go_ret
        exact ⟨ret_int HW.out.symm, HK5.out.1⟩
    · have hkk : k = mo.length := by omega
      subst hkk
      have HF0 := Lib.hid (show AdjC.firstBad (AdjC.wrongI pad mem true) mo = 0 by have h := HFB.out; rwa [List.take_of_length_le (Nat.le_refl _)] at h)
      have HR := HK
      have e2 := HR.out.2.cell 2
      have e3 := HR.out.2.cell 3
      clear HFB
      go_wp2_with fail
      clear e2 e3
      obtain ⟨W2, hwo⟩ : ∃ wo : World, wo = wr := ⟨_, rfl⟩
      rw [← hwo] at HR ⊢
      clear hwo HK wr
      go_loopw [59] (fun i wr => ∃ k : Nat, k ≤ mk.length ∧ i = .int .i64 k ∧ (Below w.heap.size w wr ∧ Blk wr w.heap.size 24 #[.int .i64 pad, .int .i64 mem, .slice A mo.length n, .slice A' mk.length n']) ∧ AdjC.firstBad (AdjC.wrongI pad mem false) (mk.take k) = 0) (fun i _ => mk.length - (intOf i).toNat)
      case atStart => exact ⟨0, by omega, rfl, HR.out, rfl⟩
      case round =>
        obtain ⟨k, hk, rfl, hwr, hfb⟩ := hrel
        have HK := Lib.hid hwr
        have HFB := Lib.hid hfb
        clear hwr hfb
        by_cases hlt : k < mk.length
        · obtain ⟨b, off, rfl, hbl⟩ := HA'.out.spot (by rw [AdjC.flat_length]; omega)
          obtain ⟨x, hx⟩ : ∃ x, mk[k] = x := ⟨_, rfl⟩
          obtain ⟨x0, x1, x2, x3, x4, x5⟩ := Cr.six_cells (HA'.out.below HK.out.1) hlt hx
          have HTK := Lib.hid (show mk.take (k + 1) = mk.take k ++ [x] by rw [← hx]; exact List.take_succ_eq_append_getElem hlt)
          have HWI := Lib.hid (fun V2 V3 W => ins_maker pad mem V2 V3 x W)
          simp only [Cr.insV] at HWI
          have hzr := HK.out.2.lt
          have y0 := fun o => (HK.out.2.alloc o).cell 0
          have y1 := fun o => (HK.out.2.alloc o).cell 1
          have y2 := fun o => (HK.out.2.alloc o).cell 2
          have y3 := fun o => (HK.out.2.alloc o).cell 3
          have HX := Lib.hid hx
          clear hx
          go_wp2_with fail
          ((with_reducible refine (HWI.out _ _ _).mono ?_); rintro e w5 ⟨rfl, hb5⟩)
          have HK5 := Lib.hid (And.intro ((HK.out.1.alloc (by omega) _).trans (hb5.mono (by simp; omega))) ((HK.out.2.alloc _).below hb5 (by simp; omega)))
          clear x0 x1 x2 x3 x4 x5 y0 y1 y2 y3 hb5
          by_cases hz : AdjC.wrongI pad mem false x = 0
          · rw [hz]
            have HFB2 := Lib.hid (show AdjC.firstBad (AdjC.wrongI pad mem false) (mk.take (k + 1)) = 0 by rw [HTK.out]; exact AdjC.firstBad_snoc HFB.out hz)
            clear hz
            go_wp2_with fail
            go_roundw
            case rel => exact ⟨k + 1, by omega, by go_num, HK5.out, HFB2.out⟩
            case measure => simp [intOf]; omega
          · have HW := Lib.hid (show AdjC.wrong ⟨pad, mem, mo, mk⟩ = AdjC.wrongI pad mem false x by
              have hb := AdjC.firstBad_at hlt HFB.out (by rw [HX.out]; exact hz)
              rw [HX.out] at hb
              rw [← hb]
              exact AdjC.wrong_maker hr1 hr2 HF0.out (by rw [hb]; exact hz))
            have hq : (AdjC.wrongI pad mem false x != 0) = true := by simpa using hz
            clear hz
            go_wp2_with fail
            go_ret
            exact ⟨ret_int HW.out.symm, HK5.out.1⟩
        · have hkk : k = mk.length := by omega
          subst hkk
          have HF1 := Lib.hid (show AdjC.firstBad (AdjC.wrongI pad mem false) mk = 0 by have h := HFB.out; rwa [List.take_of_length_le (Nat.le_refl _)] at h)
          have HR := HK
          have e2 := HR.out.2.cell 2
          have e3 := HR.out.2.cell 3
          clear HFB
          go_wp2_with fail
          clear e2 e3
          obtain ⟨W3, hwo⟩ : ∃ wo : World, wo = wr := ⟨_, rfl⟩
          rw [← hwo] at HR ⊢
          clear hwo HK wr
          have HE := Lib.hid (AdjC.wrong_last (c := ⟨pad, mem, mo, mk⟩) hr1 hr2 HF0.out HF1.out)
          go_loopw [9] (fun i wr => ∃ k : Nat, k ≤ 16 ∧ i = .int .i64 k ∧ (Below w.heap.size w wr ∧ Blk wr w.heap.size 24 #[.int .i64 pad, .int .i64 mem, .slice A mo.length n, .slice A' mk.length n']) ∧ ∀ j : Nat, j < k → AdjC.tangled ⟨pad, mem, mo, mk⟩ (j : Int) = false) (fun i _ => 16 - (intOf i).toNat)
          case atStart => exact ⟨0, by omega, rfl, HR.out, fun j hj => by omega⟩
          case round =>
            obtain ⟨k, hk, rfl, hwr, hno⟩ := hrel
            have HK := Lib.hid hwr
            have HNO := Lib.hid hno
            clear hwr hno
            by_cases hlt : k < 16
            · have hT : AdjC.tangled ⟨pad, mem, mo, mk⟩ (k : Int) = (AdjC.uses mo 3 k && AdjC.uses mk 3 k || (AdjC.uses mo 4 k && AdjC.uses mk 4 k || (AdjC.uses mo 3 k && AdjC.uses mo 4 k || AdjC.uses mk 3 k && AdjC.uses mk 4 k))) := rfl
              obtain ⟨tg, htg⟩ : ∃ tg, AdjC.tangled ⟨pad, mem, mo, mk⟩ (k : Int) = tg := ⟨_, rfl⟩
              rw [htg] at hT
              have HTG := Lib.hid htg
              clear htg
              have G0 := Lib.hid (fun (W : World) (hb : Below w.heap.size w W) => HU3.out (k : Int) W hb)
              have G1 := Lib.hid (fun (W : World) (hb : Below w.heap.size w W) => HV3.out (k : Int) W hb)
              have G2 := Lib.hid (fun (W : World) (hb : Below w.heap.size w W) => HU4.out (k : Int) W hb)
              have G3 := Lib.hid (fun (W : World) (hb : Below w.heap.size w W) => HV4.out (k : Int) W hb)
              generalize AdjC.uses mo 3 (k : Int) = p0 at hT G0
              generalize AdjC.uses mk 3 (k : Int) = p1 at hT G1
              generalize AdjC.uses mo 4 (k : Int) = w0 at hT G2
              generalize AdjC.uses mk 4 (k : Int) = w1 at hT G3
              have HT := Lib.hid hT
              clear hT HU3 HV3 HU4 HV4
              go_upto_region 22 with (fail)
              go_cut [10, 11] (fun s10 s11 wx => s10 = .bool p0 ∧ s11 = .bool p1 ∧ (Below w.heap.size w wx ∧ Blk wx w.heap.size 24 #[.int .i64 pad, .int .i64 mem, .slice A mo.length n, .slice A' mk.length n']))
              case first =>
                refine wp_region_T (fun w' => w'.cell? ⟨w.heap.size, 2, none⟩ = some (.slice A mo.length n) ∧ w'.cell? ⟨w.heap.size, 3, none⟩ = some (.slice A' mk.length n')) 9 (fun _ => True) 9 10 rfl (by kernel_rfl) ⟨⟨HK.out.2.cell 2, HK.out.2.cell 3⟩, trivial⟩ (fun hHeld => ?_)
                simp only [List.replicate_succ, List.replicate_zero]
                refine wpT_take 0 74 (v := ?_) hHeld.1 hHeld.2 rfl rfl (by kernel_rfl) (fun _ _ _ h => h) rfl ?_ ?_
                rotate_left
                · (intro w hSw; (try dsimp only at hSw); go_simp; try with_reducible rfl)
                try simp only [Act.put, List.setIfInBounds_toArray, List.set_cons_zero, List.set_cons_succ]
                refine wpT_take 1 75 (v := ?_) hHeld.1 hHeld.2 rfl rfl (by kernel_rfl) (fun _ _ _ h => h) rfl ?_ ?_
                rotate_left
                · (intro w hSw; (try dsimp only at hSw); go_simp; try with_reducible rfl)
                try simp only [Act.put, List.setIfInBounds_toArray, List.set_cons_zero, List.set_cons_succ]
                refine wpT_take 2 76 (v := ?_) hHeld.1 hHeld.2 rfl rfl (by kernel_rfl) (fun _ _ _ h => h) rfl ?_ ?_
                rotate_left
                · (intro w hSw; (try dsimp only at hSw); go_simp; try with_reducible rfl)
                try simp only [Act.put, List.setIfInBounds_toArray, List.set_cons_zero, List.set_cons_succ]
                refine wpT_take 4 78 (v := ?_) hHeld.1 hHeld.2 rfl rfl (by kernel_rfl) (fun _ _ _ h => h) rfl ?_ ?_
                rotate_left
                · (intro w hSw; (try dsimp only at hSw); go_simp; try with_reducible rfl)
                try simp only [Act.put, List.setIfInBounds_toArray, List.set_cons_zero, List.set_cons_succ]
                refine wpT_take 5 79 (v := ?_) hHeld.1 hHeld.2 rfl rfl (by kernel_rfl) (fun _ _ _ h => h) rfl ?_ ?_
                rotate_left
                · (intro w hSw; (try dsimp only at hSw); go_simp; try with_reducible rfl)
                try simp only [Act.put, List.setIfInBounds_toArray, List.set_cons_zero, List.set_cons_succ]
                refine wpT_take 6 80 (v := ?_) hHeld.1 hHeld.2 rfl rfl (by kernel_rfl) (fun _ _ _ h => h) rfl ?_ ?_
                rotate_left
                · (intro w hSw; (try dsimp only at hSw); go_simp; try with_reducible rfl)
                try simp only [Act.put, List.setIfInBounds_toArray, List.set_cons_zero, List.set_cons_succ]
                have HKd := Lib.hid (show Below w.heap.size w wr.drew ∧ Blk wr.drew w.heap.size 24 #[.int .i64 pad, .int .i64 mem, .slice A mo.length n, .slice A' mk.length n'] from ⟨HK.out.1.drew, HK.out.2.drew⟩)
                generalize wr.drew = W at HKd hHeld ⊢
                have hlW := HKd.out.2.lt
                refine wpT_one 3 (by kernel_rfl) (stepT_early rfl rfl (fun K hK => ?_))
                go_simp
                ((with_reducible refine (G0.out _ HKd.out.1).mono ?_); rintro e w4 ⟨rfl, hb⟩)
                have HKe := Lib.hid (And.intro (HKd.out.1.trans (hb.mono HKd.out.1.size)) (HKd.out.2.below hb HKd.out.2.lt))
                have hltw4 := HKe.out.2.lt
                try go_simp
                refine hK.out _ _ ⟨⟨(hb.cell (p := ⟨w.heap.size, 2, none⟩) (by first | omega | (simp; omega))).trans hHeld.1.1, (hb.cell (p := ⟨w.heap.size, 3, none⟩) (by first | omega | (simp; omega))).trans hHeld.1.2⟩, trivial⟩ (fun hHeld2 => ?_)
                clear hK K hHeld
                have hHeld := hHeld2
                clear hHeld2
                try simp only [List.setIfInBounds_toArray, List.set_cons_zero, List.set_cons_succ]
                clear hb
                refine wpT_one 7 (by kernel_rfl) (stepT_early rfl rfl (fun K hK => ?_))
                go_simp
                ((with_reducible refine (G1.out _ HKe.out.1).mono ?_); rintro e w5 ⟨rfl, hb⟩)
                have HKf := Lib.hid (And.intro (HKe.out.1.trans (hb.mono HKe.out.1.size)) (HKe.out.2.below hb HKe.out.2.lt))
                have hltw5 := HKf.out.2.lt
                try go_simp
                refine hK.out _ _ ⟨⟨(hb.cell (p := ⟨w.heap.size, 2, none⟩) (by first | omega | (simp; omega))).trans hHeld.1.1, (hb.cell (p := ⟨w.heap.size, 3, none⟩) (by first | omega | (simp; omega))).trans hHeld.1.2⟩, trivial⟩ (fun hHeld2 => ?_)
                clear hK K hHeld
                have hHeld := hHeld2
                clear hHeld2
                try simp only [List.setIfInBounds_toArray, List.set_cons_zero, List.set_cons_succ]
                clear hb
                refine wpT_one 8 (by kernel_rfl) (stepT_early rfl rfl (fun K hK => ?_))
                go_simp
                refine hK.out _ _ hHeld (fun hHeld2 => ?_)
                clear hK K
                try simp only [List.setIfInBounds_toArray, List.set_cons_zero, List.set_cons_succ]
                refine wpT_tail [_] 9 [] rfl (by kernel_rfl) ?_
                go_wp2_with fail
                go_meet
                case rel => exact ⟨rfl, rfl, HKf.out⟩
              case rest =>
                obtain ⟨rfl, rfl, hc⟩ := hcut
                have HL := Lib.hid hc
                clear hc HK
                go_upto_region 23 with (fail)
                go_cut [12, 13] (fun s12 s13 wx => s12 = .bool w0 ∧ s13 = .bool w1 ∧ (Below w.heap.size w wx ∧ Blk wx w.heap.size 24 #[.int .i64 pad, .int .i64 mem, .slice A mo.length n, .slice A' mk.length n']))
                case first =>
                  refine wp_region_T (fun w' => w'.cell? ⟨w.heap.size, 2, none⟩ = some (.slice A mo.length n) ∧ w'.cell? ⟨w.heap.size, 3, none⟩ = some (.slice A' mk.length n')) 9 (fun _ => True) 9 10 rfl (by kernel_rfl) ⟨⟨HL.out.2.cell 2, HL.out.2.cell 3⟩, trivial⟩ (fun hHeld => ?_)
                  simp only [List.replicate_succ, List.replicate_zero]
                  refine wpT_take 0 82 (v := ?_) hHeld.1 hHeld.2 rfl rfl (by kernel_rfl) (fun _ _ _ h => h) rfl ?_ ?_
                  rotate_left
                  · (intro w hSw; (try dsimp only at hSw); go_simp; try with_reducible rfl)
                  try simp only [Act.put, List.setIfInBounds_toArray, List.set_cons_zero, List.set_cons_succ]
                  refine wpT_take 1 83 (v := ?_) hHeld.1 hHeld.2 rfl rfl (by kernel_rfl) (fun _ _ _ h => h) rfl ?_ ?_
                  rotate_left
                  · (intro w hSw; (try dsimp only at hSw); go_simp; try with_reducible rfl)
                  try simp only [Act.put, List.setIfInBounds_toArray, List.set_cons_zero, List.set_cons_succ]
                  refine wpT_take 2 84 (v := ?_) hHeld.1 hHeld.2 rfl rfl (by kernel_rfl) (fun _ _ _ h => h) rfl ?_ ?_
                  rotate_left
                  · (intro w hSw; (try dsimp only at hSw); go_simp; try with_reducible rfl)
                  try simp only [Act.put, List.setIfInBounds_toArray, List.set_cons_zero, List.set_cons_succ]
                  refine wpT_take 4 86 (v := ?_) hHeld.1 hHeld.2 rfl rfl (by kernel_rfl) (fun _ _ _ h => h) rfl ?_ ?_
                  rotate_left
                  · (intro w hSw; (try dsimp only at hSw); go_simp; try with_reducible rfl)
                  try simp only [Act.put, List.setIfInBounds_toArray, List.set_cons_zero, List.set_cons_succ]
                  refine wpT_take 5 87 (v := ?_) hHeld.1 hHeld.2 rfl rfl (by kernel_rfl) (fun _ _ _ h => h) rfl ?_ ?_
                  rotate_left
                  · (intro w hSw; (try dsimp only at hSw); go_simp; try with_reducible rfl)
                  try simp only [Act.put, List.setIfInBounds_toArray, List.set_cons_zero, List.set_cons_succ]
                  refine wpT_take 6 88 (v := ?_) hHeld.1 hHeld.2 rfl rfl (by kernel_rfl) (fun _ _ _ h => h) rfl ?_ ?_
                  rotate_left
                  · (intro w hSw; (try dsimp only at hSw); go_simp; try with_reducible rfl)
                  try simp only [Act.put, List.setIfInBounds_toArray, List.set_cons_zero, List.set_cons_succ]
                  have HKd := Lib.hid (show Below w.heap.size w wc.drew ∧ Blk wc.drew w.heap.size 24 #[.int .i64 pad, .int .i64 mem, .slice A mo.length n, .slice A' mk.length n'] from ⟨HL.out.1.drew, HL.out.2.drew⟩)
                  generalize wc.drew = W at HKd hHeld ⊢
                  have hlW := HKd.out.2.lt
                  refine wpT_one 3 (by kernel_rfl) (stepT_early rfl rfl (fun K hK => ?_))
                  go_simp
                  ((with_reducible refine (G2.out _ HKd.out.1).mono ?_); rintro e w4 ⟨rfl, hb⟩)
                  have HKe := Lib.hid (And.intro (HKd.out.1.trans (hb.mono HKd.out.1.size)) (HKd.out.2.below hb HKd.out.2.lt))
                  have hltw4 := HKe.out.2.lt
                  try go_simp
                  refine hK.out _ _ ⟨⟨(hb.cell (p := ⟨w.heap.size, 2, none⟩) (by first | omega | (simp; omega))).trans hHeld.1.1, (hb.cell (p := ⟨w.heap.size, 3, none⟩) (by first | omega | (simp; omega))).trans hHeld.1.2⟩, trivial⟩ (fun hHeld2 => ?_)
                  clear hK K hHeld
                  have hHeld := hHeld2
                  clear hHeld2
                  try simp only [List.setIfInBounds_toArray, List.set_cons_zero, List.set_cons_succ]
                  clear hb
                  refine wpT_one 7 (by kernel_rfl) (stepT_early rfl rfl (fun K hK => ?_))
                  go_simp
                  ((with_reducible refine (G3.out _ HKe.out.1).mono ?_); rintro e w5 ⟨rfl, hb⟩)
                  have HKf := Lib.hid (And.intro (HKe.out.1.trans (hb.mono HKe.out.1.size)) (HKe.out.2.below hb HKe.out.2.lt))
                  have hltw5 := HKf.out.2.lt
                  try go_simp
                  refine hK.out _ _ ⟨⟨(hb.cell (p := ⟨w.heap.size, 2, none⟩) (by first | omega | (simp; omega))).trans hHeld.1.1, (hb.cell (p := ⟨w.heap.size, 3, none⟩) (by first | omega | (simp; omega))).trans hHeld.1.2⟩, trivial⟩ (fun hHeld2 => ?_)
                  clear hK K hHeld
                  have hHeld := hHeld2
                  clear hHeld2
                  try simp only [List.setIfInBounds_toArray, List.set_cons_zero, List.set_cons_succ]
                  clear hb
                  refine wpT_one 8 (by kernel_rfl) (stepT_early rfl rfl (fun K hK => ?_))
                  go_simp
                  refine hK.out _ _ hHeld (fun hHeld2 => ?_)
                  clear hK K
                  try simp only [List.setIfInBounds_toArray, List.set_cons_zero, List.set_cons_succ]
                  refine wpT_tail [_] 9 [] rfl (by kernel_rfl) ?_
                  go_wp2_with fail
                  go_meet
                  case rel => exact ⟨rfl, rfl, HKf.out⟩
                case rest =>
                  obtain ⟨rfl, rfl, hc⟩ := hcut
                  have HM := Lib.hid hc
                  clear hc HL G0 G1 G2 G3
                  have HT2 := HT.out
                  clear HT
                  by_cases ht : tg = true
                  · have HE2 := Lib.hid (show AdjC.wrong ⟨pad, mem, mo, mk⟩ = 11 by rw [HE.out, if_pos (AdjC.tangled_any hlt (by rw [HTG.out]; exact ht))])
                    rw [ht] at HT2
                    clear ht
                    cases p0 <;> cases p1 <;> cases w0 <;> cases w1 <;> first | (exact absurd HT2 (by decide)) | skip
                    all_goals
                      clear HT2
                      go_wp2_with fail
                      go_ret
                      exact ⟨ret_int HE2.out.symm, HM.out.1⟩
                  · have ht0 : tg = false := by simpa using ht
                    have HNO2 := Lib.hid (show ∀ j : Nat, j < k + 1 → AdjC.tangled ⟨pad, mem, mo, mk⟩ (j : Int) = false from fun j hj => by
                      by_cases e : j = k
                      · subst e; rw [HTG.out]; exact ht0
                      · exact HNO.out j (by omega))
                    rw [ht0] at HT2
                    clear ht ht0
                    cases p0 <;> cases p1 <;> cases w0 <;> cases w1 <;> first | (exact absurd HT2 (by decide)) | skip
                    all_goals
                      clear HT2
                      go_wp2_with fail
                      go_roundw
                      case rel => exact ⟨k + 1, by omega, by go_num, HM.out, HNO2.out⟩
                      case measure => simp [intOf]; omega
            · have hkk : k = 16 := by omega
              subst hkk
              have HE2 := Lib.hid (show AdjC.wrong ⟨pad, mem, mo, mk⟩ = 0 by rw [HE.out, if_neg (by rw [AdjC.tangled_none HNO.out]; decide)])
              go_wp2_with fail
              go_ret
              exact ⟨ret_int HE2.out.symm, HK.out.1⟩
end Go.Proofs.Ytlnfmipcbhhkhaa
