/-
  The walk of the reference's Best. Conditions: the tree is right; both lists can be read.
-/
import Derived.Test.YtkopkicdmbnpgaaRoomN
namespace Go.Proofs.Ytkopkicdmbnpgaa
set_option linter.unusedVariables false
open Go.RowKit Adj

set_option maxRecDepth 100000 in
set_option maxHeartbeats 8000000 in
theorem Best_any (w : World) (ab ws : List Int) (A A' : Option Addr) (n c c' : Nat) (hT : AdjR.treeBad ab ws = 0) (hn : ab.length = n) (h1 : IntsAt w w.heap.size A ab) (h2 : IntsAt w w.heap.size A' ws) :
    ∀ i, i < n → ∀ W, Below w.heap.size w W → Calls Try.prog 32 #[.slice A n c, .slice A' n c', .int .i64 (i : Int)] W fun e W' => ∃ v, e = .returned (.tuple #[v, .int .i64 ((AdjR.pks ab ws).getD i 0)]) ∧ Below W.heap.size W W' ∧
      W'.ownsRow W.heap.size 3 1 v (AdjR.visit (AdjR.lows ab ws) i i).length (Adj.ints (AdjR.visit (AdjR.lows ab ws) i i)) := by
  intro i
  induction i using Nat.strongRecOn with
  | ind i ih =>
  intro hi W hbw
  have IH := Lib.hid (fun (z : Nat) (hz : z < i) => ih z hz (by omega))
  have HT := Lib.hid hT
  have HN := Lib.hid hn
  have hbig : n ≤ 4096 := by have := (AdjR.treeOk hT).2.1; omega
  have H1 := Lib.hid h1
  have H2 := Lib.hid h2
  have HBW := Lib.hid hbw
  have HM := Lib.hid (show ws.length = n by rw [(AdjR.treeOk hT).1, hn])
  have HOK := Lib.hid (fun s (hs : s < n) => (AdjR.treeOk hT).2.2 s (by rw [hn]; exact hs))
  obtain ⟨P, hP⟩ : ∃ P, AdjR.pks ab ws = P := ⟨_, rfl⟩
  obtain ⟨F, hF⟩ : ∃ F, AdjR.lows ab ws = F := ⟨_, rfl⟩
  have HPE := Lib.hid (AdjR.pks_eq hT (i := i) (by omega))
  have HPR := Lib.hid (fun s (hs : s < n) => AdjR.pks_range hT (i := s) (by omega))
  have HFP := Lib.hid (AdjR.lows_perm (ab := ab) (ws := ws) i)
  have HFS := Lib.hid (AdjR.lows_srt hT (i := i) (by omega))
  have HFL := Lib.hid (AdjR.lows_lt hT (ws := ws))
  have HVL := Lib.hid (fun s (hs : s < n) => AdjR.lows_visit hT (ws := ws) (i := s) (by omega))
  have hmk := fun W => fun q (hq : q ≤ 65536) => run_make_bool q hq W
  rw [hP, hF] at IH
  rw [hP, hF]
  rw [hP] at HPE HPR HFS
  rw [hF] at HPE HFP HFS HFL HVL
  clear ih h1 h2 hbw hT hn hP hF
  obtain ⟨i0, hi0, hz0, hz1, hz2⟩ := info_parts Try.infoNum
  obtain ⟨j0, hj0, hy0, hy1, hy2⟩ := info_parts Try.infoRow
  have HI0 := Lib.hid (And.intro hi0 (And.intro hz0 (And.intro hz1 hz2)))
  have HJ0 := Lib.hid (And.intro hj0 (And.intro hy0 (And.intro hy1 hy2)))
  clear hi0 hz0 hz1 hz2 hj0 hy0 hy1 hy2
  go_enter Try.func32, Try.ntmps32
  go_wp2_with fail
  go_loopw [8, 9, 10, 23] (fun vo vp vw kv wr => ∃ (k : Nat) (sl : List Value), kv = .int .i64 (k : Int) ∧ k ≤ n ∧ Rm.Bt W P ws F sl (AdjR.belowTo ab k i) (AdjR.belowTo ab k i) (AdjR.belowTo ab k i) vo vp vw wr) (fun _ _ _ kv _ => n - (intOf kv).toNat)
  case atStart => exact ⟨0, [], rfl, by omega, Rm.Bt.start⟩
  case round =>
    obtain ⟨k, sl, rfl, hk, hbt⟩ := hrel
    have HBT := Lib.hid hbt
    have HO := Lib.hid (HBW.out.trans (hbt.bel.mono HBW.out.size))
    clear hbt
    by_cases hlt : k < n
    · obtain ⟨b1, off1, rfl, r1⟩ := ints_cell H1.out (by have := HN.out; omega)
      obtain ⟨b2, off2, rfl, r2⟩ := ints_cell H2.out (by have := HM.out; omega)
      have c1 := (HO.out.cell (cell_lt (r1 k (by have := HN.out; omega)))).trans (r1 k (by have := HN.out; omega))
      have c2 := (HO.out.cell (cell_lt (r2 k (by have := HM.out; omega)))).trans (r2 k (by have := HM.out; omega))
      have HBN := Lib.hid (show AdjR.belowTo ab (k + 1) i = if ab.getD k 0 = (i : Int) then AdjR.belowTo ab k i ++ [(k : Int)] else AdjR.belowTo ab k i from rfl)
      have HKL := Lib.hid (HOK.out k hlt)
      have hdl := AdjR.belowTo_length ab k i
      have HWK := Lib.hid (fun (w6 : World) (hb : Below w.heap.size w w6) => (hb.cell (cell_lt (r2 k (by have := HM.out; omega)))).trans (r2 k (by have := HM.out; omega)))
      obtain ⟨D, hD⟩ : ∃ D, AdjR.belowTo ab k i = D := ⟨_, rfl⟩
      rw [hD] at HBT HBN hdl
      clear hD r1 r2
      by_cases hab : ab.getD k 0 = (i : Int)
      · have hki : k < i := by
          have h := HKL.out
          have := HN.out
          by_cases e : k + 1 = ab.length
          · have := h.1 e; omega
          · have := (h.2.1 (by omega)).1; omega
        have HIH := Lib.hid (IH.out k hki _ HO.out)
        obtain ⟨pk, hpk⟩ : ∃ q, P.getD k 0 = q := ⟨_, rfl⟩
        rw [hpk] at HIH
        have HPK := Lib.hid hpk
        clear hpk
        have HBN := Lib.hid (HBN.out.trans (if_pos hab))
        rw [hab] at c1
        clear hab
        obtain ⟨Ao, co, rfl⟩ := Rm.own_form HBT.out.op
        obtain ⟨Ap, cp, rfl⟩ := Rm.own_form HBT.out.pp
        obtain ⟨Aw, cw, rfl⟩ := Rm.own_form HBT.out.ww
        go_wp2_with fail
        ((with_reducible refine HIH.out.mono ?_); rintro e w5 ⟨v, rfl, hb5, hov⟩)
        have hov : w5.ownsRow wr.heap.size 3 1 v (Rm.vis F (k : Int)).length (Adj.ints (Rm.vis F (k : Int))) := hov
        have HV5 := Lib.hid hov
        have HB5 := Lib.hid (HBT.out.below hb5)
        have HS5 := Lib.hid hb5.size
        clear hb5
        obtain ⟨Av, cv, rfl⟩ := Rm.own_form hov
        clear hov
        obtain ⟨lv, hlv⟩ : ∃ q, (Rm.vis F (k : Int)).length = q := ⟨_, rfl⟩
        have HLV := Lib.hid hlv
        rw [hlv] at HV5
        rw [hlv]
        clear hlv
        obtain ⟨g1, g2, g3, g4⟩ := HJ0.out
        go_wp2_with (at_builtin; refine wpList_append_own _ rfl _ _ 51 rfl W.heap.size 22 j0 (.slice none 0 0) 1 24 Try.underlying51 g1 g2 g3 g4 rfl (by decide) _ _ _ rfl (HB5.out.op.alloc _) ⟨w5.heap.size, 0, none⟩ 1 1 [.slice Av lv cv] rfl rfl (cell_one_new _ _ _) (by intro u hu; rw [List.mem_singleton.1 hu]; rfl) (by unfold maxLen; omega) (by omega) (by have := HB5.out.bel.size; simp; omega) ?_)
        intro vo' w6 how hgr _
        have HBO := Lib.hid (Rm.Bt.push_o (x := (k : Int)) (HB5.out.alloc (.cells #[.slice Av lv cv] 22)) (v := .slice Av lv cv) (by rw [HLV.out]; exact Rm.own_base (HV5.out.alloc _) HBT.out.bel.size) (fun g hg hg2 => by have := (HV5.out.lt g hg).1; have := (HBT.out.pp.lt g hg2).2; omega) (fun g hg hg2 => by have := (HV5.out.lt g hg).1; have := (HBT.out.ww.lt g hg2).2; omega) how hgr)
        obtain ⟨Ao', co', rfl⟩ := Rm.own_form how
        clear how hgr g1 g2 g3 g4
        obtain ⟨g1, g2, g3, g4⟩ := HI0.out
        go_wp2_with (at_builtin; refine wpList_append_any _ rfl _ _ 22 rfl W.heap.size 3 i0 (.int .i64 0) 1 8 Try.underlying22 g1 g2 g3 g4 rfl (by decide) _ _ _ rfl (HBO.out.pp.alloc _) _ (some ⟨w6.heap.size, 0, none⟩) 1 1 [.int .i64 pk] rfl (Rm.reads_one (Blk.new _ 3 _)) (one_one _ _) (by unfold maxLen; omega) (by omega) (by have := HBO.out.bel.size; simp; omega) ?_)
        intro vp' w7 how hgr hnw
        have HBP := Lib.hid (Rm.Bt.push_p (x := (k : Int)) (HBO.out.alloc (.cells #[.int .i64 pk] 3)) (by rw [Int.toNat_natCast, HPK.out]; exact how) hgr (by rw [World.size_alloc]; exact hnw))
        obtain ⟨Ap', cp', rfl⟩ := Rm.own_form how
        clear how hgr hnw
        have cw7 := HWK.out w7 (HBW.out.trans (HBP.out.bel.mono HBW.out.size))
        obtain ⟨wk, hwk⟩ : ∃ q, ws.getD k 0 = q := ⟨_, rfl⟩
        rw [hwk] at cw7
        have HWV := Lib.hid hwk
        clear hwk c2
        go_wp2_with (at_builtin; refine wpList_append_any _ rfl _ _ 22 rfl W.heap.size 3 i0 (.int .i64 0) 1 8 Try.underlying22 g1 g2 g3 g4 rfl (by decide) _ _ _ rfl (HBP.out.ww.alloc _) _ (some ⟨w7.heap.size, 0, none⟩) 1 1 [.int .i64 wk] rfl (Rm.reads_one (Blk.new _ 3 _)) (one_one _ _) (by unfold maxLen; omega) (by omega) (by have := HBP.out.bel.size; simp; omega) ?_)
        intro vw' w8 how hgr hnw
        have HBQ := Lib.hid (Rm.Bt.push_w (x := (k : Int)) (HBP.out.alloc (.cells #[.int .i64 wk] 3)) (by rw [Int.toNat_natCast, HWV.out]; exact how) hgr (by rw [World.size_alloc]; exact hnw))
        obtain ⟨Aw', cw', rfl⟩ := Rm.own_form how
        clear how hgr hnw cw7
        have HBR := Lib.hid (show Rm.Bt W P ws F (sl ++ [.slice Av lv cv]) (AdjR.belowTo ab (k + 1) i) (AdjR.belowTo ab (k + 1) i) (AdjR.belowTo ab (k + 1) i) _ _ _ w8 by rw [HBN.out]; exact HBQ.out)
        go_wp2_with fail
        go_roundw
        case rel => exact ⟨k + 1, _, by go_num, by omega, HBR.out⟩
        case measure => simp [intOf]; omega
      · have HBT2 := Lib.hid (show Rm.Bt W P ws F sl (AdjR.belowTo ab (k + 1) i) (AdjR.belowTo ab (k + 1) i) (AdjR.belowTo ab (k + 1) i) _ _ _ _ by rw [HBN.out, if_neg hab]; exact HBT.out)
        clear HBN
        generalize ab.getD k 0 = a at c1 hab
        have q0 : (a == (i : Int)) = false := by simpa using hab
        go_wp2_with fail
        go_roundw
        case rel => exact ⟨k + 1, sl, by go_num, by omega, HBT2.out⟩
        case measure => simp [intOf]; omega
    · obtain rfl : k = n := by omega
      obtain ⟨wp, hwp⟩ : ∃ wp, wp = wr := ⟨_, rfl⟩
      subst hwp
      have HDP := Lib.hid (show (F i).Perm (AdjR.belowTo ab k i) by have h := HFP.out; rwa [HN.out] at h)
      have HDA := Lib.hid (AdjR.belowTo_asc ab k i)
      have HDM := Lib.hid (fun x (hx : x ∈ AdjR.belowTo ab k i) => HFL.out i x (HDP.out.symm.subset hx))
      have hdl := AdjR.belowTo_length ab k i
      have HVI := Lib.hid (show AdjR.visit F i i = ((F i).map (Rm.vis F)).flatten ++ [(i : Int)] from AdjR.visit_one HFL.out i)
      have HVB := Lib.hid (show (AdjR.visit F i i).length ≤ 4096 by have := HVL.out i hi; omega)
      have hki := HOK.out i hi
      obtain ⟨b2, off2, rfl, r2⟩ := ints_cell H2.out (by have := HM.out; omega)
      have HWC := Lib.hid (fun (w6 : World) (hb : Below w.heap.size w w6) => (hb.cell (cell_lt (r2 i (by have := HM.out; omega)))).trans (r2 i (by have := HM.out; omega)))
      obtain ⟨T, hT⟩ : ∃ T, F i = T := ⟨_, rfl⟩
      rw [hT] at HDP HFS HPE HVI
      obtain ⟨D, hD⟩ : ∃ D, AdjR.belowTo ab k i = D := ⟨_, rfl⟩
      rw [hD] at HBT HDP HDA HDM hdl
      obtain ⟨L, hL⟩ : ∃ L, D.length = L := ⟨_, rfl⟩
      have HL := Lib.hid hL
      have HTL := Lib.hid (show T.length = L by rw [HDP.out.length_eq, hL])
      rw [hL] at hdl
      generalize ws.getD i 0 = own at hki HPE HWC
      obtain ⟨_, _, ho0, ho1⟩ := hki
      clear hT hD r2 HFP HFL
      obtain ⟨Ao, co, rfl⟩ := Rm.own_form HBT.out.op
      obtain ⟨Ap, cp, rfl⟩ := Rm.own_form HBT.out.pp
      obtain ⟨Aw, cw, rfl⟩ := Rm.own_form HBT.out.ww
      rw [hL] at HBT ⊢
      have hmk2 := hmk wp L (by omega)
      clear hL hmk
      go_wp2_with fail
      go_loopw [15, 16, 17, 59] (fun vr hv mv rv wr => ∃ (r : Nat) (M : List Bool) (h p : Int), rv = .int .i64 (r : Int) ∧ hv = .int .i64 h ∧ mv = .int .i64 p ∧ r ≤ L ∧ M.length = L ∧ (0 ≤ h ∧ h ≤ (r : Int) * 1048576) ∧ (0 ≤ p ∧ p ≤ 140737488355328) ∧ (∀ j, j < L → M.getD j false = decide (D.getD j 0 ∈ T.take r)) ∧ AdjR.peakOf P ws own T 0 0 = AdjR.peakOf P ws own (T.drop r) h p ∧ Below wp.heap.size wp wr ∧ Blk wr wp.heap.size 4 (Rm.bools M).toArray ∧ wr.ownsRow wp.heap.size 3 1 vr ((T.take r).map (Rm.vis F)).flatten.length (Adj.ints ((T.take r).map (Rm.vis F)).flatten)) (fun _ _ _ rv _ => L - (intOf rv).toNat)
      case atStart => exact ⟨0, List.replicate L false, 0, 0, rfl, rfl, rfl, by omega, by simp, by omega, by omega, fun j hj => by rw [List.getD_eq_getElem?_getD, List.getElem?_replicate, if_pos hj]; simp, rfl, (Below.refl _ _).alloc (Nat.le_refl _) _, Blk.new _ _ _, rfl, .inl ⟨rfl, rfl⟩⟩
      case round =>
        obtain ⟨r, M, h, p, rfl, rfl, rfl, hr, hML, ⟨hh0, hh1⟩, ⟨hp0, hp1⟩, hMS, hpk, hbel, hblk, hovr⟩ := hrel
        have HML := Lib.hid hML
        have HMS := Lib.hid hMS
        have HPK := Lib.hid hpk
        have HBE := Lib.hid hbel
        have HBL := Lib.hid hblk
        have HVR := Lib.hid hovr
        have HOW := Lib.hid (HBW.out.trans ((HBT.out.bel.mono HBW.out.size).trans (hbel.mono (Nat.le_trans HBW.out.size HBT.out.bel.size))))
        obtain ⟨Ar, cr, rfl⟩ := Rm.own_form hovr
        obtain ⟨lr, hlr⟩ : ∃ q, ((T.take r).map (Rm.vis F)).flatten.length = q := ⟨_, rfl⟩
        have HLR := Lib.hid hlr
        rw [hlr] at HVR
        rw [hlr]
        have hlr2 : lr ≤ 4096 := by
          have h1 := Rm.flat_le (Rm.vis F) T r
          have h2 := HVB.out
          rw [HVI.out, List.length_append] at h2
          omega
        clear hML hMS hpk hbel hblk hovr hlr
        by_cases hrL : r < L
        · obtain ⟨go, hAo⟩ : ∃ go, Ao = some ⟨go, 0, none⟩ := by
            obtain ⟨g, cap, hv, _⟩ := HBT.out.op.form (by have := HL.out; omega)
            injection hv with e; exact ⟨g, e⟩
          obtain ⟨gp, hAp⟩ : ∃ go, Ap = some ⟨go, 0, none⟩ := by
            obtain ⟨g, cap, hv, _⟩ := HBT.out.pp.form (by have := HL.out; omega)
            injection hv with e; exact ⟨g, e⟩
          obtain ⟨gw, hAw⟩ : ∃ go, Aw = some ⟨go, 0, none⟩ := by
            obtain ⟨g, cap, hv, _⟩ := HBT.out.ww.form (by have := HL.out; omega)
            injection hv with e; exact ⟨g, e⟩
          subst hAo hAp hAw
          have HCPP := Lib.hid (fun j (hj : j < L) => show wp.cell? ⟨gp, j, none⟩ = some (.int .i64 (P.getD (D.getD j 0).toNat 0)) by
            have hj2 : j < D.length := by have := HL.out; omega
            have h1 := HBT.out.pp
            rw [HL.out] at h1
            have h2 := Rm.ints_map D (fun x => P.getD x.toNat 0) hj2
            obtain ⟨g, e, hc⟩ := Rm.own_cell h1 h2
            injection e with e; injection e with e; subst e
            rw [List.getD_eq_getElem?_getD (l := D), List.getElem?_eq_getElem hj2]
            exact hc)
          have HCP := Lib.hid (fun j (hj : j < L) => (HBE.out.cell (cell_lt (HCPP.out j hj))).trans (HCPP.out j hj))
          have HCWP := Lib.hid (fun j (hj : j < L) => show wp.cell? ⟨gw, j, none⟩ = some (.int .i64 (ws.getD (D.getD j 0).toNat 0)) by
            have hj2 : j < D.length := by have := HL.out; omega
            have h1 := HBT.out.ww
            rw [HL.out] at h1
            have h2 := Rm.ints_map D (fun x => ws.getD x.toNat 0) hj2
            obtain ⟨g, e, hc⟩ := Rm.own_cell h1 h2
            injection e with e; injection e with e; subst e
            rw [List.getD_eq_getElem?_getD (l := D), List.getElem?_eq_getElem hj2]
            exact hc)
          have HCW := Lib.hid (fun j (hj : j < L) => (HBE.out.cell (cell_lt (HCWP.out j hj))).trans (HCWP.out j hj))
          have HCM := Lib.hid (fun j (hj : j < L) => show wr.cell? ⟨wp.heap.size, j, none⟩ = some (.bool (M.getD j false)) from HBL.out.at (Rm.bools_at M j (by rw [HML.out]; exact hj)))
          have HRG := Lib.hid (fun j (hj : j < L) => show (0 ≤ P.getD (D.getD j 0).toNat 0 ∧ P.getD (D.getD j 0).toNat 0 ≤ 35184372088832) ∧ 0 ≤ ws.getD (D.getD j 0).toNat 0 ∧ ws.getD (D.getD j 0).toNat 0 ≤ 1048576 by
            have hj2 : j < D.length := by have := HL.out; omega
            have h1 := HDM.out (D.getD j 0) (by rw [List.getD_eq_getElem?_getD, List.getElem?_eq_getElem hj2]; exact List.getElem_mem hj2)
            exact ⟨HPR.out (D.getD j 0).toNat (by omega), (HOK.out (D.getD j 0).toNat (by omega)).2.2⟩)
          have HASC := Lib.hid (fun j j' (h1 : j < j') (h2 : j' < L) => show D.getD j 0 < D.getD j' 0 by
            have e1 : j < D.length := by have := HL.out; omega
            have e2 : j' < D.length := by have := HL.out; omega
            rw [List.getD_eq_getElem?_getD, List.getElem?_eq_getElem e1, List.getD_eq_getElem?_getD, List.getElem?_eq_getElem e2]
            exact List.pairwise_iff_getElem.1 HDA.out j j' e1 e2 h1)
          obtain ⟨W6, hW6⟩ : ∃ W6, W6 = wr := ⟨_, rfl⟩
          subst hW6
          go_wp2_with fail
          go_loopw [19, 63] (fun cv kv wr => ∃ (k : Nat) (cur : Int), kv = .int .i64 (k : Int) ∧ cv = .int .i64 cur ∧ k ≤ L ∧ (∃ d, wr = W6.drewN d) ∧ ((cur = -1 ∧ ∀ j, j < k → M.getD j false = true) ∨ ∃ c : Nat, cur = (c : Int) ∧ c < k ∧ M.getD c false = false ∧ ∀ j, j < k → M.getD j false = false → j = c ∨ AdjS.lt (AdjR.keyOf P ws) (D.getD c 0) (D.getD j 0))) (fun _ kv _ => L - (intOf kv).toNat)
          case atStart => exact ⟨0, -1, rfl, rfl, by omega, ⟨0, rfl⟩, .inl ⟨rfl, fun j hj => by omega⟩⟩
          case round =>
            obtain ⟨k, cur, rfl, rfl, hk, ⟨d, hd⟩, hcur⟩ := hrel
            have HD := Lib.hid hd
            clear hd
            have HC := Lib.hid hcur
            by_cases hkL : k < L
            · have c1 : wr.cell? ⟨wp.heap.size, k, none⟩ = some (.bool (M.getD k false)) := by rw [HD.out]; exact HCM.out k hkL
              cases hmk : M.getD k false with
              | true =>
                have HN2 := Lib.hid (show (cur = -1 ∧ ∀ j, j < k + 1 → M.getD j false = true) ∨ ∃ c : Nat, cur = (c : Int) ∧ c < k + 1 ∧ M.getD c false = false ∧ ∀ j, j < k + 1 → M.getD j false = false → j = c ∨ AdjS.lt (AdjR.keyOf P ws) (D.getD c 0) (D.getD j 0) by
                  rcases HC.out with ⟨e, h1⟩ | ⟨c, e, hc, h1, h2⟩
                  · exact .inl ⟨e, fun j hj => by
                      by_cases ej : j = k
                      · rw [ej]; exact hmk
                      · exact h1 j (by omega)⟩
                  · exact .inr ⟨c, e, by omega, h1, fun j hj hf => by
                      by_cases ej : j = k
                      · rw [ej, hmk] at hf; cases hf
                      · exact h2 j (by omega) hf⟩)
                rw [hmk] at c1
                clear hmk hcur
                go_wp2_with fail
                go_quiet (fail)
                have HDQ := Lib.hid (show wr.drewN nq = W6.drewN (d + nq) by rw [HD.out, World.drewN_drewN])
                generalize wr.drewN nq = wq at HDQ ⊢
                go_wp2_with fail
                go_roundw
                case rel => exact ⟨k + 1, cur, by go_num, rfl, by omega, ⟨_, HDQ.out⟩, HN2.out⟩
                case measure => simp [intOf]; omega
              | false =>
                have HMK := Lib.hid hmk
                rw [hmk] at c1
                clear hmk hcur
                rcases HC.out with ⟨rfl, hall⟩ | ⟨c, rfl, hck, hcf, hlow⟩
                · have HN2 := Lib.hid (show ((k : Int) = -1 ∧ ∀ j, j < k + 1 → M.getD j false = true) ∨ ∃ c : Nat, (k : Int) = (c : Int) ∧ c < k + 1 ∧ M.getD c false = false ∧ ∀ j, j < k + 1 → M.getD j false = false → j = c ∨ AdjS.lt (AdjR.keyOf P ws) (D.getD c 0) (D.getD j 0) from
                    .inr ⟨k, rfl, by omega, HMK.out, fun j hj hf => by
                      by_cases ej : j = k
                      · exact .inl ej
                      · rw [hall j (by omega)] at hf; cases hf⟩)
                  clear hall
                  go_wp2_with fail
                  go_quiet (fail)
                  have HDQ := Lib.hid (show wr.drewN nq = W6.drewN (d + nq) by rw [HD.out, World.drewN_drewN])
                  generalize wr.drewN nq = wq at HDQ ⊢
                  go_wp2_with fail
                  go_roundw
                  case rel => exact ⟨k + 1, (k : Int), by go_num, rfl, by omega, ⟨_, HDQ.out⟩, HN2.out⟩
                  case measure => simp [intOf]; omega
                · have hcL : c < L := by omega
                  have c2 : wr.cell? ⟨gp, k, none⟩ = some (.int .i64 (P.getD (D.getD k 0).toNat 0)) := by rw [HD.out]; exact HCP.out k hkL
                  have c3 : wr.cell? ⟨gw, k, none⟩ = some (.int .i64 (ws.getD (D.getD k 0).toNat 0)) := by rw [HD.out]; exact HCW.out k hkL
                  have c4 : wr.cell? ⟨gp, c, none⟩ = some (.int .i64 (P.getD (D.getD c 0).toNat 0)) := by rw [HD.out]; exact HCP.out c hcL
                  have c5 : wr.cell? ⟨gw, c, none⟩ = some (.int .i64 (ws.getD (D.getD c 0).toNat 0)) := by rw [HD.out]; exact HCW.out c hcL
                  have HLT := Lib.hid (show AdjS.lt (AdjR.keyOf P ws) (D.getD k 0) (D.getD c 0) ↔ P.getD (D.getD c 0).toNat 0 - ws.getD (D.getD c 0).toNat 0 < P.getD (D.getD k 0).toNat 0 - ws.getD (D.getD k 0).toNat 0 by
                    have := HASC.out c k hck hkL
                    unfold AdjS.lt AdjR.keyOf; omega)
                  have HN1 := Lib.hid (show AdjS.lt (AdjR.keyOf P ws) (D.getD k 0) (D.getD c 0) → ((k : Int) = -1 ∧ ∀ j, j < k + 1 → M.getD j false = true) ∨ ∃ c : Nat, (k : Int) = (c : Int) ∧ c < k + 1 ∧ M.getD c false = false ∧ ∀ j, j < k + 1 → M.getD j false = false → j = c ∨ AdjS.lt (AdjR.keyOf P ws) (D.getD c 0) (D.getD j 0) from fun h => .inr ⟨k, rfl, by omega, HMK.out, fun j hj hf => by
                    by_cases ej : j = k
                    · exact .inl ej
                    · rcases hlow j (by omega) hf with e | e
                      · subst e; exact .inr h
                      · exact .inr (AdjS.lt_trans h e)⟩)
                  have HN2 := Lib.hid (show ¬ AdjS.lt (AdjR.keyOf P ws) (D.getD k 0) (D.getD c 0) → ((c : Int) = -1 ∧ ∀ j, j < k + 1 → M.getD j false = true) ∨ ∃ d : Nat, (c : Int) = (d : Int) ∧ d < k + 1 ∧ M.getD d false = false ∧ ∀ j, j < k + 1 → M.getD j false = false → j = d ∨ AdjS.lt (AdjR.keyOf P ws) (D.getD d 0) (D.getD j 0) from fun h => .inr ⟨c, rfl, by omega, hcf, fun j hj hf => by
                    by_cases ej : j = k
                    · subst ej
                      have h1 := HASC.out c j hck hkL
                      exact .inr (AdjS.lt_total (by omega) h)
                    · exact hlow j (by omega) hf⟩)
                  have hr1 := HRG.out k hkL
                  have hr2 := HRG.out c hcL
                  clear hlow hcf
                  generalize P.getD (D.getD k 0).toNat 0 = pk at c2 HLT hr1
                  generalize ws.getD (D.getD k 0).toNat 0 = wk at c3 HLT hr1
                  generalize P.getD (D.getD c 0).toNat 0 = pc at c4 HLT hr2
                  generalize ws.getD (D.getD c 0).toNat 0 = wc at c5 HLT hr2
                  obtain ⟨⟨x1, x2⟩, x3, x4⟩ := hr1
                  obtain ⟨⟨y1, y2⟩, y3, y4⟩ := hr2
                  have q1 : IntKind.i64.wrap (pk - wk) = pk - wk := IntWalk.i64_in _ (by omega)
                  have q2 : IntKind.i64.wrap (pc - wc) = pc - wc := IntWalk.i64_in _ (by omega)
                  by_cases hgt : pc - wc < pk - wk
                  · have HN3 := Lib.hid (HN1.out (HLT.out.2 hgt))
                    go_wp2_with fail
                    go_quiet (fail)
                    have HDQ := Lib.hid (show wr.drewN nq = W6.drewN (d + nq) by rw [HD.out, World.drewN_drewN])
                    generalize wr.drewN nq = wq at HDQ ⊢
                    go_wp2_with fail
                    go_roundw
                    case rel => exact ⟨k + 1, (k : Int), by go_num, rfl, by omega, ⟨_, HDQ.out⟩, HN3.out⟩
                    case measure => simp [intOf]; omega
                  · have HN3 := Lib.hid (HN2.out (fun h => hgt (HLT.out.1 h)))
                    go_wp2_with fail
                    go_quiet (fail)
                    have HDQ := Lib.hid (show wr.drewN nq = W6.drewN (d + nq) by rw [HD.out, World.drewN_drewN])
                    generalize wr.drewN nq = wq at HDQ ⊢
                    go_wp2_with fail
                    go_roundw
                    case rel => exact ⟨k + 1, (c : Int), by go_num, rfl, by omega, ⟨_, HDQ.out⟩, HN3.out⟩
                    case measure => simp [intOf]; omega
            · obtain rfl : k = L := by omega
              have hrT : r < T.length := by have := HTL.out; omega
              have HLO := Lib.hid (AdjR.left_over HDP.out.symm.symm (HDA.out.imp (fun h => by omega)) hrT)
              have HAT := Lib.hid (fun x (hx : x ∈ D) => show ∃ j, j < k ∧ D.getD j 0 = x by
                obtain ⟨j, hj, e⟩ := List.getElem_of_mem hx
                exact ⟨j, by have := HL.out; omega, by rw [List.getD_eq_getElem?_getD, List.getElem?_eq_getElem hj]; exact e⟩)
              obtain ⟨c, rfl, hck, hcf, hlow⟩ : ∃ c : Nat, cur = (c : Int) ∧ c < k ∧ M.getD c false = false ∧ ∀ j, j < k → M.getD j false = false → j = c ∨ AdjS.lt (AdjR.keyOf P ws) (D.getD c 0) (D.getD j 0) := by
                rcases HC.out with ⟨e, h1⟩ | h1
                · exfalso
                  obtain ⟨j, hj, e2⟩ := HAT.out _ HLO.out.1
                  have h2 := h1 j hj
                  rw [HMS.out j hj, e2] at h2
                  exact HLO.out.2 (of_decide_eq_true h2)
                · exact h1
              clear hcur HC
              have hcD : c < D.length := by have := HL.out; omega
              have HX := Lib.hid (show T[r] = D.getD c 0 from AdjR.pick_eq HDP.out HFS.out hrT (by
                  rw [List.getD_eq_getElem?_getD, List.getElem?_eq_getElem hcD]; exact List.getElem_mem hcD) (fun hm => by
                  rw [HMS.out c hck] at hcf
                  exact of_decide_eq_false hcf hm) (fun y hy hny => by
                  obtain ⟨j, hj, e2⟩ := HAT.out y hy
                  rcases hlow j hj (by rw [HMS.out j hj, e2]; exact decide_eq_false hny) with e | e
                  · subst e; exact .inl e2.symm
                  · rw [e2] at e; exact .inr e))
              have HND := Lib.hid (show D.Nodup from HDA.out.imp (fun h => by omega))
              have HM2 := Lib.hid (fun j (hj : j < k) => show (M.set c true).getD j false = decide (D.getD j 0 ∈ T.take (r + 1)) by
                rw [AdjR.getD_set M c j (by rw [HML.out]; exact hck)]
                by_cases e : j = c
                · subst e
                  rw [if_pos rfl]
                  exact (decide_eq_true ((AdjR.taken_next hrT _).2 (.inr HX.out.symm))).symm
                · rw [if_neg e, HMS.out j hj]
                  congr 1
                  rw [AdjR.taken_next hrT, HX.out]
                  refine propext ⟨.inl, fun h => h.elim id (fun h => ?_)⟩
                  exfalso
                  rcases Nat.lt_or_gt_of_ne e with e1 | e1
                  · have := HASC.out j c e1 hck; omega
                  · have := HASC.out c j e1 hj; omega)
              have HFT := Lib.hid (show ((T.take (r + 1)).map (Rm.vis F)).flatten = ((T.take r).map (Rm.vis F)).flatten ++ Rm.vis F (D.getD c 0) by rw [Rm.flat_take (Rm.vis F) T hrT, HX.out])
              have HDR := Lib.hid (show T.drop r = D.getD c 0 :: T.drop (r + 1) by rw [← HX.out]; exact List.drop_eq_getElem_cons hrT)
              have HPO := Lib.hid (show AdjR.peakOf P ws own T 0 0 = AdjR.peakOf P ws own (T.drop (r + 1)) (h + ws.getD (D.getD c 0).toNat 0) (max p (h + P.getD (D.getD c 0).toNat 0)) by
                rw [HPK.out, HDR.out]; rfl)
              obtain ⟨vc, hvc, hvo, _, _⟩ := HBT.out.each c (D.getD c 0) (by rw [List.getD_eq_getElem?_getD, List.getElem?_eq_getElem hcD]; rfl)
              have HBW6 := Lib.hid (show Below wp.heap.size wp wr by rw [HD.out]; exact below_drewN HBE.out d)
              obtain ⟨Av, cv, rfl⟩ := Rm.own_form hvo
              have HRD := Lib.hid (fun (w6 : World) (hb : Below wp.heap.size wp w6) => ((Adj.Reads.of_own hvo).below hb).more hb.size)
              have hco : wr.cell? ⟨go, c, none⟩ = some (.slice Av (Rm.vis F (D.getD c 0)).length cv) := by
                have h1 := HBT.out.op
                rw [HL.out] at h1
                obtain ⟨g, e, hc⟩ := Rm.own_cell h1 hvc
                injection e with e; injection e with e; subst e
                exact (HBW6.out.cell (cell_lt hc)).trans hc
              have HC3 := Lib.hid (fun (w6 : World) (hb : Below wp.heap.size wp w6) => (hb.cell (cell_lt (HCPP.out c hck))).trans (HCPP.out c hck))
              have HC4 := Lib.hid (fun (w6 : World) (hb : Below wp.heap.size wp w6) => (hb.cell (cell_lt (HCWP.out c hck))).trans (HCWP.out c hck))
              have hrg := HRG.out c hck
              have HLV := Lib.hid (show lr + (Rm.vis F (D.getD c 0)).length ≤ 4096 by
                have h1 := Rm.flat_le (Rm.vis F) T (r + 1)
                have h2 := HVB.out
                rw [HVI.out, List.length_append] at h2
                rw [HFT.out, List.length_append, HLR.out] at h1
                omega)
              obtain ⟨B, hB⟩ : ∃ B, Rm.vis F (D.getD c 0) = B := ⟨_, rfl⟩
              rw [hB] at hco HRD HFT HLV
              generalize P.getD (D.getD c 0).toNat 0 = pk at HC3 HPO hrg
              generalize ws.getD (D.getD c 0).toNat 0 = wk at HC4 HPO hrg
              clear hvc hvo hB hlow hcf hcD
              obtain ⟨⟨hp1, hp2⟩, hw1, hw2⟩ := hrg
              have hlv := HLV.out
              have HBR := Lib.hid (show Blk wr wp.heap.size 4 (Rm.bools M).toArray by rw [HD.out]; exact HBL.out)
              have hfz : wr.frozen? ⟨wp.heap.size, c, none⟩ = false := HBR.out.frozen c
              have hcb : wr.cell? ⟨wp.heap.size, c, none⟩ = some (.bool (M.getD c false)) := HBR.out.at (Rm.bools_at M c (by rw [HML.out]; exact hck))
              have HVW := Lib.hid (show wr.ownsRow wp.heap.size 3 1 (.slice Ar lr cr) lr (Adj.ints ((T.take r).map (Rm.vis F)).flatten) by rw [HD.out]; exact HVR.out)
              have HBL7 := Lib.hid (show Blk (wr.setCell ⟨wp.heap.size, c, none⟩ (.bool true)) wp.heap.size 4 (Rm.bools (M.set c true)).toArray by
                have h := HBR.out.set_ c (.bool true)
                rwa [Rm.bools_set] at h)
              have HVR7 := Lib.hid (show (wr.setCell ⟨wp.heap.size, c, none⟩ (.bool true)).ownsRow wp.heap.size 3 1 (.slice Ar lr cr) lr (Adj.ints ((T.take r).map (Rm.vis F)).flatten) from
                Rm.own_keep HVW.out (fun g hg => Below.heap_setCell _ _ _ _ (fun e => (Rm.own_blk_ne HVW.out HBR.out (by decide)) (by rw [hg, e]))))
              have HBW7 := Lib.hid (HBW6.out.setCell (p := ⟨wp.heap.size, c, none⟩) (Nat.le_refl _) (.bool true))
              obtain ⟨w7, hw7⟩ : ∃ w7, wr.setCell ⟨wp.heap.size, c, none⟩ (.bool true) = w7 := ⟨_, rfl⟩
              rw [hw7] at HBL7 HVR7 HBW7
              have hco7 : w7.cell? ⟨go, c, none⟩ = some (.slice Av B.length cv) := by
                rw [← hco, ← hw7]
                exact World.cell?_setCell_other _ _ _ _ (fun e => by
                  have e2 : go = wp.heap.size := (congrArg Addr.block e).symm
                  obtain ⟨g, cap, hv, h3, h4⟩ := HBT.out.op.form (by have := HL.out; omega)
                  injection hv with e3; injection e3 with e3; injection e3 with e3
                  omega)
              obtain ⟨g1, g2, g3, g4⟩ := HI0.out
              go_wp2_with (at_builtin; refine wpList_append_any _ rfl _ _ 22 rfl wp.heap.size 3 i0 (.int .i64 0) 1 8 Try.underlying22 g1 g2 g3 g4 rfl (by decide) _ _ _ rfl HVR7.out _ Av B.length cv (ints B) rfl (HRD.out w7 HBW7.out) (by intro u hu; unfold Adj.ints at hu; obtain ⟨x, _, rfl⟩ := List.mem_map.1 hu; rfl) (by unfold maxLen; omega) (by omega) (by have := HBW7.out.size; omega) ?_)
              intro vr' w8 how hgr hnw
              have HBL8 := Lib.hid (HBL7.out.grown hgr (fun e => (Rm.own_blk_ne HVR7.out HBL7.out (by decide)) e.symm))
              have HBW8 := Lib.hid (HBW7.out.grown hgr HBW7.out.size (fun g hg => (HVR7.out.lt g hg).1))
              have HV8 := Lib.hid (show w8.ownsRow wp.heap.size 3 1 vr' ((T.take (r + 1)).map (Rm.vis F)).flatten.length (Adj.ints ((T.take (r + 1)).map (Rm.vis F)).flatten) by
                rw [HFT.out, List.length_append, HLR.out]
                unfold Adj.ints at how ⊢
                rw [List.map_append]; first | exact how | (rw [List.map_take]; exact how))
              have d1 := HC3.out w8 HBW8.out
              have d2 := HC4.out w8 HBW8.out
              obtain ⟨Ar', cr', rfl⟩ := Rm.own_form how
              clear how hgr hnw hco7 hco hw7 hfz hcb
              have HPM : ∃ p', max p (h + pk) = p' := ⟨_, rfl⟩
              by_cases hgt : p < h + pk
              · have HPO2 := Lib.hid (show AdjR.peakOf P ws own T 0 0 = AdjR.peakOf P ws own (T.drop (r + 1)) (h + wk) (h + pk) by rw [HPO.out, show max p (h + pk) = h + pk from by omega])
                go_wp2_with fail
                go_roundw
                case rel => exact ⟨r + 1, M.set c true, h + wk, h + pk, by go_num, rfl, rfl, by omega, by rw [List.length_set]; exact HML.out, by omega, by omega, HM2.out, HPO2.out, HBW8.out, HBL8.out, HV8.out⟩
                case measure => simp [intOf]; omega
              · have HPO2 := Lib.hid (show AdjR.peakOf P ws own T 0 0 = AdjR.peakOf P ws own (T.drop (r + 1)) (h + wk) p by rw [HPO.out, show max p (h + pk) = p from by omega])
                go_wp2_with fail
                go_roundw
                case rel => exact ⟨r + 1, M.set c true, h + wk, p, by go_num, rfl, rfl, by omega, by rw [List.length_set]; exact HML.out, by omega, by omega, HM2.out, HPO2.out, HBW8.out, HBL8.out, HV8.out⟩
                case measure => simp [intOf]; omega
        · obtain rfl : r = L := by omega
          have HPO := Lib.hid (show P.getD i 0 = max p (h + own) by
            rw [HPE.out, HPK.out, List.drop_eq_nil_of_le (by have := HTL.out; omega)]; rfl)
          have HRES := Lib.hid (show AdjR.visit F i i = ((T.take r).map (Rm.vis F)).flatten ++ [(i : Int)] by rw [HVI.out, List.take_of_length_le (by have := HTL.out; omega)])
          have cwi := HWC.out wr HOW.out
          have HBW8 := Lib.hid (HBT.out.bel.trans (HBE.out.mono HBT.out.bel.size))
          obtain ⟨g1, g2, g3, g4⟩ := HI0.out
          by_cases hgt : p < h + own
          · have HPO2 := Lib.hid (HPO.out.trans (show max p (h + own) = h + own by omega))
            go_wp2_with (at_builtin; refine wpList_append_any _ rfl _ _ 22 rfl wp.heap.size 3 i0 (.int .i64 0) 1 8 Try.underlying22 g1 g2 g3 g4 rfl (by decide) _ _ _ rfl (HVR.out.alloc _) _ (some ⟨wr.heap.size, 0, none⟩) 1 1 [.int .i64 (i : Int)] rfl (Rm.reads_one (Blk.new _ 3 _)) (one_one _ _) (by unfold maxLen; omega) (by omega) (by have := HBE.out.size; simp; omega) ?_)
            intro vr' w8 how hgr hnw
            have HBZ := Lib.hid (HBW8.out.trans ((((Below.refl wr.heap.size wr).alloc (Nat.le_refl _) (.cells #[.int .i64 (i : Int)] 3)).mono HBW8.out.size).grown hgr (by have := HBW8.out.size; simp; omega) (fun g hg => by have := (HVR.out.lt g hg).1; have := HBT.out.bel.size; omega)))
            have HV8 := Lib.hid (show w8.ownsRow W.heap.size 3 1 vr' (AdjR.visit F i i).length (Adj.ints (AdjR.visit F i i)) by
              rw [HRES.out, List.length_append, HLR.out, Rm.ints_snoc2]
              exact Rm.own_base (by first | exact how | (rw [List.map_take]; exact how)) HBT.out.bel.size)
            clear how hgr hnw
            go_wp2_with fail
            go_ret2
            exact ⟨_, by rw [HPO2.out]; rfl, HBZ.out, HV8.out⟩
          · have HPO2 := Lib.hid (HPO.out.trans (show max p (h + own) = p by omega))
            go_wp2_with (at_builtin; refine wpList_append_any _ rfl _ _ 22 rfl wp.heap.size 3 i0 (.int .i64 0) 1 8 Try.underlying22 g1 g2 g3 g4 rfl (by decide) _ _ _ rfl (HVR.out.alloc _) _ (some ⟨wr.heap.size, 0, none⟩) 1 1 [.int .i64 (i : Int)] rfl (Rm.reads_one (Blk.new _ 3 _)) (one_one _ _) (by unfold maxLen; omega) (by omega) (by have := HBE.out.size; simp; omega) ?_)
            intro vr' w8 how hgr hnw
            have HBZ := Lib.hid (HBW8.out.trans ((((Below.refl wr.heap.size wr).alloc (Nat.le_refl _) (.cells #[.int .i64 (i : Int)] 3)).mono HBW8.out.size).grown hgr (by have := HBW8.out.size; simp; omega) (fun g hg => by have := (HVR.out.lt g hg).1; have := HBT.out.bel.size; omega)))
            have HV8 := Lib.hid (show w8.ownsRow W.heap.size 3 1 vr' (AdjR.visit F i i).length (Adj.ints (AdjR.visit F i i)) by
              rw [HRES.out, List.length_append, HLR.out, Rm.ints_snoc2]
              exact Rm.own_base (by first | exact how | (rw [List.map_take]; exact how)) HBT.out.bel.size)
            clear how hgr hnw
            go_wp2_with fail
            go_ret2
            exact ⟨_, by rw [HPO2.out]; rfl, HBZ.out, HV8.out⟩
end Go.Proofs.Ytkopkicdmbnpgaa
