/-
  The walks of slices.Clone, rising, Rising; The walk of the reference's Flip. Conditions: where the theorems name them.
-/
import Derived.Test.YtapedmpbkffopaaZ02
import Derived.Test.YtapedmpbkffopaaZ04
section
namespace Go.Proofs.Ytapedmpbkffopaa
set_option linter.unusedVariables false
open Go.RowKit Adj
theorem Vw.own_base {w : World} {base base' : Nat} {v : Value} {n : Nat} {xs : List Value} {e : TypeId} (h : w.ownsRow base e 1 v n xs) (hb : base' ≤ base) : w.ownsRow base' e 1 v n xs := by
 refine ⟨h.1, ?_⟩
 rcases h.2 with h2 | ⟨g, cap, cur, h1, h2, h3⟩
 ·exact .inl h2
 ·exact .inr ⟨g, cap, cur, h1, by omega, h3⟩
theorem Vw.news {W : World} {B : Nat} {a : Addr} {l : List Int} (h : Vw.IntsAt W B (some a) l) : ∀ j u, (ints l)[j]? = some u → W.cell? (a.add j) = some u := by
 intro j u hu
 have hj : j < l.length := by
  rcases Nat.lt_or_ge j l.length with h2 | h2
  ·exact h2
  ·rw [List.getElem?_eq_none (by rw [ints_length]; exact h2)] at hu; cases hu
 obtain ⟨b, off, hA, _, hc⟩ := h (by omega)
 cases hA
 rw [Addr.add_lit]
 rw [ints_at l j hj] at hu
 rw [← hu]
 exact hc j hj
theorem Vw.ints_one (l : List Int) : ∀ u ∈ ints l, u.oneCell' = true := by
 intro u hu
 obtain ⟨x, _, rfl⟩ := List.mem_map.1 hu
 rfl
set_option maxHeartbeats 2000000 in
theorem Clone_any (A : Option Addr) (cap : Nat) (l : List Int) (B : Nat) (w : World) (hl : l.length ≤ 1099511627776) (hm : Vw.IntsAt w B A l) (hB : B ≤ w.heap.size) :
    Calls Try.prog 13 #[.slice A l.length cap] w fun e w' => ∃ v, e = .returned v ∧ w'.ownsRow w.heap.size 3 1 v l.length (ints l) ∧ Below w.heap.size w w' := by
 cases A with
 | none =>
  obtain rfl : l = [] := by
   rcases Nat.eq_zero_or_pos l.length with h | h
   ·exact List.length_eq_zero_iff.1 h
   ·obtain ⟨b, off, hA, _⟩ := hm h; cases hA
  clear hm
  have hnil := fun W => Lib.run_eql_slice_nil (P := Try.prog) W
  go_enter Try.func13, Try.ntmps13
  go_wp2_with fail
  go_ret
  exact ⟨_, rfl, World.ownsRow_nil _ _ _ _, Below.refl _ _⟩
 | some a =>
  obtain ⟨i0, hi, hz0, hz1, hz2⟩ := info_parts Try.infoOf3
  have HM := Lib.hid hm
  have hnil := fun W => Lib.run_eql_slice_nil (P := Try.prog) W
  clear hm
  go_enter Try.func13, Try.ntmps13
  go_wp2_with (at_builtin; refine wpList_append_own _ rfl _ _ 23 rfl w.heap.size 3 i0 (.int .i64 0) 1 8 Try.underlying23 hi hz0 hz1 hz2 rfl (by decide) _ _ _ rfl (Vw.own_nothing w 3) a l.length cap (ints l) rfl (by rw [ints_length, Nat.mul_one]) (Vw.news (HM.out.below (((Below.refl w.heap.size w).alloc (Nat.le_refl _) _).mono hB))) (Vw.ints_one l) (by unfold maxLen; omega) (by omega) (by simp) ?_)
  intro v' w1 hown' hgrow _
  have HF := Lib.hid (And.intro hown' (((Below.refl w.heap.size w).alloc (Nat.le_refl _) (.cells #[] 3)).grown hgrow (by simp) (fun k hk => by simp [Value.ownBlock] at hk; omega)))
  clear hown' hgrow
  go_wp2_with fail
  go_ret
  exact ⟨_, rfl, HF.out.1, HF.out.2⟩
set_option maxHeartbeats 1000000 in
theorem rising_any (A : Option Addr) (cap : Nat) (l : List Int) (n : Nat) (B : Nat) (w : World) (hl : l.length ≤ 9223372036854775807) (hn : n ≤ 9223372036854775807) (hm : Vw.IntsAt w B A l) :
    Calls Try.prog 71 #[.slice A l.length cap, .int .i64 (n : Int)] w fun e w' => e = .returned (.bool (AdjV.riseB n l)) ∧ w = w' := by
 have HM := Lib.hid hm
 clear hm
 go_enter Try.func71, Try.ntmps71
 go_wp2_with fail
 go_loop [5, 7, 10] (fun last _ i => ∃ k : Nat, k ≤ l.length ∧ i = .int .i64 (k : Int) ∧ last = .int .i64 (AdjV.prev l k) ∧ ∀ i (hi : i < l.length), i < k → AdjV.prev l i < l[i] ∧ l[i] < (n : Int)) (fun _ _ i => l.length + 1 - (intOf i).toNat)
 case atStart => exact ⟨0, by omega, rfl, rfl, fun i hi h => by omega⟩
 case round =>
  obtain ⟨k, hk, rfl, rfl, hin⟩ := hrel
  have HIN := Lib.hid hin
  clear hin
  by_cases hlt : k < l.length
  ·obtain ⟨b, off, rfl, hb, hc⟩ := HM.out (by omega)
   have hck := hc k hlt
   have hi1 : (0 : Int) ≤ (k : Int) := by omega
   have hi2 : (k : Int) < (l.length : Int) := by omega
   clear hc
   have HP := Lib.hid (AdjV.prev_next l k hlt)
   have HBAD := Lib.hid (AdjV.riseB_bad (n := n) hlt)
   have HX := Lib.hid (fun (h : AdjV.prev l k < l[k] ∧ l[k] < (n : Int)) => show ∀ i (hi : i < l.length), i < k + 1 → AdjV.prev l i < l[i] ∧ l[i] < (n : Int) from fun i hi h2 => by
    by_cases e : i < k
    ·exact HIN.out i hi e
    ·obtain rfl : i = k := by omega
     exact h)
   generalize l[k] = x at hck HP HBAD HX
   generalize AdjV.prev l k = pv at HBAD HX
   by_cases hx1 : x ≤ pv
   ·have HF := Lib.hid (HBAD.out (by omega))
    go_wp2_with fail
    go_ret
    exact ⟨by rw [HF.out]; rfl, rfl⟩
   by_cases hx2 : (n : Int) ≤ x
   ·have HF := Lib.hid (HBAD.out (by omega))
    go_wp2_with fail
    go_ret
    exact ⟨by rw [HF.out]; rfl, rfl⟩
   have HN := Lib.hid (HX.out (by omega))
   go_wp2_with fail
   go_round
   case rel => exact ⟨k + 1, by omega, by go_num, by rw [HP.out], HN.out⟩
   case measure => simp [intOf]; omega
  ·obtain rfl : k = l.length := by omega
   have HF := Lib.hid (AdjV.riseB_of (n := n) (fun i hi => HIN.out i hi hi))
   go_wp2_with fail
   go_ret
   exact ⟨by rw [HF.out]; rfl, rfl⟩
set_option maxHeartbeats 1000000 in
theorem Rising_any (A : Option Addr) (cap : Nat) (l : List Int) (n : Nat) (B : Nat) (w : World) (hl : l.length ≤ 9223372036854775807) (hn : n ≤ 9223372036854775807) (hm : Vw.IntsAt w B A l) :
    Calls Try.prog 27 #[.slice A l.length cap, .int .i64 (n : Int)] w fun e w' => e = .returned (.bool (AdjV.riseB n l)) ∧ w = w' := by
 have HM := Lib.hid hm
 clear hm
 go_enter Try.func27, Try.ntmps27
 go_wp2_with fail
 go_loop [5, 6, 9] (fun _ _ i => ∃ k : Nat, k ≤ l.length ∧ i = .int .i64 (k : Int) ∧ ∀ i (hi : i < l.length), i < k → AdjV.prev l i < l[i] ∧ l[i] < (n : Int)) (fun _ _ i => l.length + 1 - (intOf i).toNat)
 case atStart => exact ⟨0, by omega, rfl, fun i hi h => by omega⟩
 case round =>
  obtain ⟨k, hk, rfl, hin⟩ := hrel
  have HIN := Lib.hid hin
  clear hin
  by_cases hlt : k < l.length
  ·obtain ⟨b, off, rfl, hb, hc⟩ := HM.out (by omega)
   have hck := hc k hlt
   have hi1 : (0 : Int) ≤ (k : Int) := by omega
   have hi2 : (k : Int) < (l.length : Int) := by omega
   have HBAD := Lib.hid (AdjV.riseB_bad (n := n) hlt)
   have HX := Lib.hid (fun (h : AdjV.prev l k < l[k] ∧ l[k] < (n : Int)) => show ∀ i (hi : i < l.length), i < k + 1 → AdjV.prev l i < l[i] ∧ l[i] < (n : Int) from fun i hi h2 => by
    by_cases e : i < k
    ·exact HIN.out i hi e
    ·obtain rfl : i = k := by omega
     exact h)
   cases k with
   | zero =>
    rw [AdjV.prev_zero] at HBAD HX
    clear hc
    generalize l[0] = x at hck HBAD HX
    rw [Nat.add_zero] at hck
    have hpos : 0 < l.length := hlt
    by_cases hx1 : x < 0
    ·have HF := Lib.hid (HBAD.out (by omega))
     go_wp2_with fail
     go_ret
     exact ⟨by rw [HF.out]; rfl, rfl⟩
    by_cases hx2 : (n : Int) ≤ x
    ·have HF := Lib.hid (HBAD.out (by omega))
     go_wp2_with fail
     go_ret
     exact ⟨by rw [HF.out]; rfl, rfl⟩
    have HN := Lib.hid (HX.out (by omega))
    go_wp2_with fail
    go_round
    case rel => exact ⟨1, by omega, by go_num, HN.out⟩
    case measure => (simp [intOf] <;> omega)
   | succ k =>
    have hc1 := hc k (by omega)
    have hpv := AdjV.rise_pos_to HIN.out k (by omega) (by omega)
    rw [AdjV.prev_next l k (by omega)] at HBAD HX
    clear hc
    generalize l[k]'(by omega) = pv at hc1 HBAD HX hpv
    generalize l[k + 1] = x at hck HBAD HX
    have hi3 : (0 : Int) < (k : Int) + 1 := by omega
    have hi4 : (k : Int) < (l.length : Int) := by omega
    have hi5 : (0 : Int) ≤ (k : Int) := by omega
    have hw : IntKind.i64.wrap ((k : Int) + 1 - 1) = (k : Int) := by rw [show (k : Int) + 1 - 1 = (k : Int) by omega]; exact IntWalk.i64_in _ (by omega)
    by_cases hx1 : x < 0
    ·have HF := Lib.hid (HBAD.out (by omega))
     go_wp2_with fail
     go_ret
     exact ⟨by rw [HF.out]; rfl, rfl⟩
    by_cases hx2 : (n : Int) ≤ x
    ·have HF := Lib.hid (HBAD.out (by omega))
     go_wp2_with fail
     go_ret
     exact ⟨by rw [HF.out]; rfl, rfl⟩
    by_cases hx3 : x ≤ pv
    ·have HF := Lib.hid (HBAD.out (by omega))
     go_wp2_with fail
     go_ret
     exact ⟨by rw [HF.out]; rfl, rfl⟩
    have HN := Lib.hid (HX.out (by omega))
    go_wp2_with fail
    go_round
    case rel => exact ⟨k + 1 + 1, by omega, by go_num, HN.out⟩
    case measure => (simp [intOf] <;> omega)
  ·obtain rfl : k = l.length := by omega
   have HF := Lib.hid (AdjV.riseB_of (n := n) (fun i hi => HIN.out i hi hi))
   go_wp2_with fail
   go_ret
   exact ⟨by rw [HF.out]; rfl, rfl⟩
end Go.Proofs.Ytapedmpbkffopaa
end
section
namespace Go.Proofs.Ytapedmpbkffopaa
set_option linter.unusedVariables false
open Go.RowKit Adj
attribute [local go_sem ↓] Go.wp_at_zero Go.wp_at_succ
namespace Vw
theorem Two.start3 (W1 : World) (st : Int) (u1 : Value) : Two W1.heap.size W1.heap.size W1 st u1 (.slice none 0 0) (.slice none 0 0) (.slice none 0 0) [] [] (W1.alloc (.cells #[.int .i64 st, u1, .slice none 0 0] 68)) :=
 ⟨Blk.new W1 _ _, World.ownsRow_nil _ _ _ _, World.ownsRow_nil _ _ _ _, fun b h => by simp [Value.ownBlock] at h, (Below.refl _ _).alloc (Nat.le_refl _) _, Nat.le_refl _⟩
end Vw
set_option maxRecDepth 100000 in
set_option maxHeartbeats 8000000 in
theorem refFlip_any (val : Value) (v : AdjV.V) (P : Option Addr) (cp : Nat) (p : List Int) (B : Nat) (w : World) (hB : B ≤ w.heap.size) (h : Vw.ViewAt w B val v) (hp : Vw.IntsAt w B P p) (hp1 : p.length ≤ cp) (hp2 : cp ≤ 9223372036854775807) :
    Calls Try.prog 49 #[val, .slice P p.length cp] w fun e w' => Vw.ViewOut B w w' (AdjV.flip v p) e ∧ Below w.heap.size w w' := by
 have HW := Lib.hid (fun (W : World) (hb : Below w.heap.size w W) => refWrong_any val v B W (Nat.le_trans hB hb.size) (h.below (hb.mono hB)))
 have HP := Lib.hid hp
 obtain ⟨A, c, A', c', rfl, hd, hs, c1, c2, c3, c4⟩ := h
 have HD := Lib.hid hd
 have HS := Lib.hid hs
 have HB := Lib.hid ((((Below.refl w.heap.size w).alloc (Nat.le_refl _) (.cells #[.int .i64 v.st, .slice A v.dims.length c, .slice A' v.steps.length c'] 68))).alloc (by simp) (.cells #[.int .i64 0, .slice none 0 0, .slice none 0 0] 68))
 clear hd hs hp
 by_cases h0 : AdjV.wrong v = 0
 ·have H0 := Lib.hid h0
  obtain ⟨z1, z2, z3, z4⟩ := AdjV.wrong_fine h0
  have hn6 : v.dims.length ≤ 6 := (AdjV.size_fine z1).1
  have HLS := Lib.hid z2
  clear h0 z1 z2 z4
  by_cases hri : AdjV.riseB v.dims.length p = true
  ·have HRI := Lib.hid hri
   clear hri
   go_enter Try.func49, Try.ntmps49
   go_wp2_with fail
   refine (HW.out _ HB.out).mono ?_
   rintro e w1 ⟨rfl, hb1⟩
   rw [H0.out]
   have hx := ((Blk.new w 68 #[.int .i64 v.st, .slice A v.dims.length c, .slice A' v.steps.length c']).alloc (.cells #[.int .i64 0, .slice none 0 0, .slice none 0 0] 68)).below hb1 (by simp; omega)
   have hr := (Vw.blk2 w (.cells #[.int .i64 v.st, .slice A v.dims.length c, .slice A' v.steps.length c'] 68) 68 #[.int .i64 0, .slice none 0 0, .slice none 0 0]).below hb1 (by simp)
   have HX := Lib.hid hx
   have HR := Lib.hid hr
   have HB1 := Lib.hid (HB.out.trans (hb1.mono HB.out.size))
   have hz : w.heap.size + 1 < w1.heap.size := by have := hb1.size; simp at this; omega
   have x1 : w1.cell? ⟨w.heap.size, 1, none⟩ = some (.slice A v.dims.length c) := hx.cell 1
   have x2 : w1.cell? ⟨w.heap.size, 2, none⟩ = some (.slice A' v.steps.length c') := hx.cell 2
   have x0 : w1.cell? ⟨w.heap.size, 0, none⟩ = some (.int .i64 v.st) := hx.cell 0
   have x2a : ∀ o, (w1.alloc o).cell? ⟨w.heap.size, 2, none⟩ = some (.slice A' v.steps.length c') := fun o => (HX.out.alloc o).cell 2
   obtain ⟨i0, hi, hz0, hz1, hz2⟩ := info_parts Try.infoOf3
   have HRC := Lib.hid (Rising_any P cp p v.dims.length B w1 (by omega) (by omega) (HP.out.below (HB1.out.mono hB)))
   clear hb1 hx hr
   go_wp2_with fail
   refine HRC.out.mono ?_
   rintro e w2 ⟨rfl, rfl⟩
   rw [HRI.out]
   go_wp2_with fail
   go_loopw [8, 9, 31] (fun _ _ i wr => ∃ (k : Nat) (v2 : Value), k ≤ v.dims.length ∧ i = .int .i64 (k : Int) ∧ Vw.Two w1.heap.size w1.heap.size w1 (AdjV.flSt v p k) (.slice A v.dims.length c) v2 (.slice none 0 0) v2 [] ((AdjV.flSteps v p v.dims.length).take k) wr) (fun _ _ i _ => v.dims.length + 1 - (intOf i).toNat)
   case atStart => exact ⟨0, _, by omega, rfl, Vw.Two.start3 w1 v.st _⟩
   case round =>
    obtain ⟨k, v2, hk, rfl, htwo⟩ := hrel
    obtain ⟨wo, rfl⟩ : ∃ wo : World, wo = wr := ⟨_, rfl⟩
    have HT := Lib.hid htwo
    have HBO := Lib.hid htwo.below
    have hsz : w1.heap.size < wo.heap.size := htwo.blk.lt
    have hlsN : v.steps.length = v.dims.length := HLS.out
    by_cases hlt : k < v.dims.length
    ·obtain ⟨A2, n2, rfl, hn2⟩ := Vw.own_any htwo.own2
     have hlk : ((AdjV.flSteps v p v.dims.length).take k).length = k := by rw [List.length_take, AdjV.flSteps_length]; omega
     obtain ⟨b, off, rfl, hb, hc⟩ := HD.out (by omega)
     obtain ⟨b', off', rfl, hb', hc'⟩ := HS.out (by omega)
     have hcq := hc k hlt
     have hcq' := hc' k (by omega)
     have hps := AdjV.part_small H0.out hlt (by omega)
     have hfs := AdjV.flSt_small H0.out p k (by omega)
     have HFN := Lib.hid (AdjV.flSt_next (v := v) (l := p) hlt (by omega))
     have HFS := Lib.hid (AdjV.flSt_same (v := v) (l := p) (q := k))
     have HM2 := Lib.hid (AdjV.take_next (AdjV.flSteps v p v.dims.length) k (by rw [AdjV.flSteps_length]; omega))
     have hat := AdjV.flSteps_at v p v.dims.length k (by rw [AdjV.flSteps_length]; omega)
     rw [AdjV.getD_at _ _ (show k < v.steps.length by omega)] at hat
     have HAT := Lib.hid hat
     clear hc hc' hat htwo
     generalize (AdjV.flSteps v p v.dims.length)[k]'(by rw [AdjV.flSteps_length]; omega) = y at HM2 HAT
     generalize v.dims[k] = d at hcq hps HFN
     generalize v.steps[k]'(by omega) = s at hcq' hps HFN HAT
     generalize (AdjV.flSteps v p v.dims.length).take k = ys at hlk HM2 HT
     generalize AdjV.flSt v p k = st at hfs HFN HFS HT
     have HL2 := Lib.hid hlk
     clear hlk hlsN
     have i1 : (0 : Int) ≤ (k : Int) := by omega
     have i2 : (k : Int) < (v.dims.length : Int) := by omega
     have i3 : (k : Int) < (v.steps.length : Int) := by have := HLS.out; omega
     have e1 : wo.cell? ⟨w1.heap.size, 2, none⟩ = some (.slice A2 k n2) := by rw [← HL2.out]; exact HT.out.blk.cell 2
     have e2 : wo.cell? ⟨w1.heap.size, 0, none⟩ = some (.int .i64 st) := HT.out.blk.cell 0
     have e3 : wo.cell? ⟨w.heap.size, 1, none⟩ = some (.slice (some ⟨b, off, none⟩) v.dims.length c) := (HBO.out.cell (p := ⟨w.heap.size, 1, none⟩) (by simp; omega)).trans x1
     have e5 : wo.cell? ⟨b, off + k, none⟩ = some (.int .i64 d) := (HBO.out.cell (p := ⟨b, off + k, none⟩) (by simp; omega)).trans ((HB1.out.cell (p := ⟨b, off + k, none⟩) (by simp; omega)).trans hcq)
     have e6 : wo.cell? ⟨b', off' + k, none⟩ = some (.int .i64 s) := (HBO.out.cell (p := ⟨b', off' + k, none⟩) (by simp; omega)).trans ((HB1.out.cell (p := ⟨b', off' + k, none⟩) (by simp; omega)).trans hcq')
     have g0 := HT.out.blk.frozen 0
     have g2 := HT.out.blk.frozen 2
     have HH := Lib.hid (has_any P cp p (k : Int) B wo (by omega) (HP.out.below ((HB1.out.trans (HBO.out.mono HB1.out.size)).mono hB)))
     clear hcq hcq'
     by_cases hmem : (k : Int) ∈ p
     ·have HME := Lib.hid hmem
      have HDT := Lib.hid (show decide ((k : Int) ∈ p) = true by simpa using hmem)
      have HY := Lib.hid (show y = -s by rw [HAT.out, if_pos ⟨hlt, hmem⟩])
      clear hmem
      by_cases hd0 : 0 < d
      ·have HN := Lib.hid (show AdjV.flSt v p (k + 1) = st + (d - 1) * s by rw [HFN.out HME.out, if_pos hd0])
       go_wp2_with fail
       refine HH.out.mono ?_
       rintro e w2 ⟨rfl, rfl⟩
       rw [HDT.out]
       have hsm : -4503599627370496 ≤ (d - 1) * s ∧ (d - 1) * s ≤ 4503599627370496 := ⟨hps.2.2.2.2.1, hps.2.2.2.2.2⟩
       go_wp2_with fail
       generalize hP : (d - 1) * s = pr at *
       refine wp_region_T (fun w' => w'.cell? ⟨w1.heap.size, 0, none⟩ = some (.int .i64 st) ∧ w'.cell? ⟨w.heap.size, 1, none⟩ = some (.slice (some ⟨b, off, none⟩) v.dims.length c) ∧ w'.cell? ⟨b, off + k, none⟩ = some (.int .i64 d)) 11 (fun _ => True) 11 13 rfl (by kernel_rfl) ⟨⟨e2, e3, e5⟩, trivial⟩ (fun hHeld => ?_)
       simp only [List.replicate_succ, List.replicate_zero]
       refine tk (v := ?_) [] 0 45 hHeld ?_ ?_; rotate_left; (intro w h; (try dsimp only at h); go_simp; try with_reducible rfl); try simp only [Act.put, zA, zB, zC]
       refine tk (v := ?_) [] 1 46 hHeld ?_ ?_; rotate_left; (intro w h; (try dsimp only at h); go_simp; try with_reducible rfl); try simp only [Act.put, zA, zB, zC]
       refine tk (v := ?_) [] 2 47 hHeld ?_ ?_; rotate_left; (intro w h; (try dsimp only at h); go_simp; try with_reducible rfl); try simp only [Act.put, zA, zB, zC]
       refine tk (v := ?_) [] 3 48 hHeld ?_ ?_; rotate_left; (intro w h; (try dsimp only at h); go_simp; try with_reducible rfl); try simp only [Act.put, zA, zB, zC]
       refine tk (v := ?_) [] 4 49 hHeld ?_ ?_; rotate_left; (intro w h; (try dsimp only at h); go_simp; try with_reducible rfl); try simp only [Act.put, zA, zB, zC]
       refine tk (v := ?_) [] 5 50 hHeld ?_ ?_; rotate_left; (intro w h; (try dsimp only at h); go_simp; try with_reducible rfl); try simp only [Act.put, zA, zB, zC]
       refine tk (v := ?_) [] 6 51 hHeld ?_ ?_; rotate_left; (intro w h; (try dsimp only at h); go_simp; try with_reducible rfl); try simp only [Act.put, zA, zB, zC]
       refine tk (v := ?_) [] 7 52 hHeld ?_ ?_; rotate_left; (intro w h; (try dsimp only at h); go_simp; try with_reducible rfl); try simp only [Act.put, zA, zB, zC]
       refine tk (v := ?_) [] 8 53 hHeld ?_ ?_; rotate_left; (intro w h; (try dsimp only at h); go_simp; try with_reducible rfl); try simp only [Act.put, zA, zB, zC]
       refine tk (v := ?_) [] 9 54 hHeld ?_ ?_; rotate_left; (intro w h; (try dsimp only at h); go_simp; try with_reducible rfl); try simp only [Act.put, zA, zB, zC]
       refine tk (v := ?_) [] 10 55 hHeld ?_ ?_; rotate_left; (intro w h; (try dsimp only at h); go_simp; try with_reducible rfl); try simp only [Act.put, zA, zB, zC]
       refine wpT_tail [_, _] 11 [12] rfl (by kernel_rfl) ?_
       have HTW := Lib.hid (HT.out.set0 (st + pr))
       have hkW : w1.heap.size < (wo.setCell ⟨w1.heap.size, 0, none⟩ (.int .i64 (st + pr))).heap.size := HTW.out.blk.lt
       have aw1 : (wo.setCell ⟨w1.heap.size, 0, none⟩ (.int .i64 (st + pr))).cell? ⟨w1.heap.size, 2, none⟩ = some (.slice A2 k n2) := by rw [← HL2.out]; exact HTW.out.blk.cell 2
       have aw2 := HTW.out.blk.frozen 2
       have hO2 := (HTW.out.alloc (.cells #[.int .i64 (-s)] 3)).drew.own2
       rw [HL2.out] at hO2
       have HO2 := Lib.hid hO2
       clear hO2
       go_wp2_with (at_builtin; refine wpList_append_lies _ rfl _ _ _ rfl (w1.heap.size + 1) 3 i0 (.int .i64 0) 1 8 Try.underlying23 hi hz0 hz1 hz2 rfl (by omega) (.slice A2 k n2) k (ints ys) rfl HO2.out ⟨wo.heap.size, 0, none⟩ 1 1 [.int .i64 (-s)] rfl rfl (World.news_of_block (cs := #[.int .i64 (-s)]) (t := 3) (fr := (0, 0)) ((Vw.blkn (wo.setCell ⟨w1.heap.size, 0, none⟩ (.int .i64 (st + pr))) wo.heap.size (by first | rfl | simp) 3 #[.int .i64 (-s)]).drew)) (Adj.one_one _ _) (by omega) (by unfold maxLen; omega) (by omega) (by simp; omega) (wo.heap.size + 1) (by simp) ?_)
       intro gg capg w3 hown1 hgrow hat hltg
       rw [← HL2.out] at hown1 hgrow hat
       have HTA := Lib.hid ((HTW.out.alloc _).drew.app2 hown1 hgrow hat (by simp))
       have hkW3 : w1.heap.size < w3.heap.size := HTA.out.blk.lt
       have b1 : w3.cell? ⟨w1.heap.size, 2, none⟩ = some (.slice A2 k n2) := by rw [← HL2.out]; exact HTA.out.blk.cell 2
       have b2 := HTA.out.blk.frozen 2
       have HTB := Lib.hid (HTA.out.set2 (.slice (some ⟨gg, 0, none⟩) (ys.length + 1) capg))
       rw [HL2.out] at HTB
       clear hown1 hgrow hat
       go_wp2_with fail
       first
        | exact ⟨⟨k + 1, _, by omega, by go_num, by rw [HM2.out, HY.out, HN.out]; exact HTB.out⟩, by simp [intOf]; omega⟩
        | (go_roundw
           case rel => exact ⟨k + 1, _, by omega, by go_num, by rw [HM2.out, HY.out, HN.out]; exact HTB.out⟩
           case measure => simp [intOf]; omega)
      ·have hd00 : d = 0 := by omega
       have HN := Lib.hid (show AdjV.flSt v p (k + 1) = st by rw [HFN.out HME.out, if_neg hd0, Int.add_zero])
       clear hd00
       go_wp2_with fail
       refine HH.out.mono ?_
       rintro e w2 ⟨rfl, rfl⟩
       rw [HDT.out]
       have hkW : w1.heap.size < wo.heap.size := HT.out.blk.lt
       have aw1 : wo.cell? ⟨w1.heap.size, 2, none⟩ = some (.slice A2 k n2) := by rw [← HL2.out]; exact HT.out.blk.cell 2
       have aw2 := HT.out.blk.frozen 2
       have hO2 := (HT.out.alloc (.cells #[.int .i64 (-s)] 3)).own2
       rw [HL2.out] at hO2
       have HO2 := Lib.hid hO2
       clear hO2
       go_wp2_with (at_builtin; refine wpList_append_lies _ rfl _ _ _ rfl (w1.heap.size + 1) 3 i0 (.int .i64 0) 1 8 Try.underlying23 hi hz0 hz1 hz2 rfl (by omega) (.slice A2 k n2) k (ints ys) rfl HO2.out ⟨wo.heap.size, 0, none⟩ 1 1 [.int .i64 (-s)] rfl rfl (World.news_of_block (cs := #[.int .i64 (-s)]) (t := 3) (fr := (0, 0)) ((Vw.blkn wo wo.heap.size (by first | rfl | simp) 3 #[.int .i64 (-s)]))) (Adj.one_one _ _) (by omega) (by unfold maxLen; omega) (by omega) (by simp; omega) (wo.heap.size + 1) (by simp) ?_)
       intro gg capg w3 hown1 hgrow hat hltg
       rw [← HL2.out] at hown1 hgrow hat
       have HTA := Lib.hid ((HT.out.alloc _).app2 hown1 hgrow hat (by simp))
       have hkW3 : w1.heap.size < w3.heap.size := HTA.out.blk.lt
       have b1 : w3.cell? ⟨w1.heap.size, 2, none⟩ = some (.slice A2 k n2) := by rw [← HL2.out]; exact HTA.out.blk.cell 2
       have b2 := HTA.out.blk.frozen 2
       have HTB := Lib.hid (HTA.out.set2 (.slice (some ⟨gg, 0, none⟩) (ys.length + 1) capg))
       rw [HL2.out] at HTB
       clear hown1 hgrow hat
       go_wp2_with fail
       first
        | exact ⟨⟨k + 1, _, by omega, by go_num, by rw [HM2.out, HY.out, HN.out]; exact HTB.out⟩, by simp [intOf]; omega⟩
        | (go_roundw
           case rel => exact ⟨k + 1, _, by omega, by go_num, by rw [HM2.out, HY.out, HN.out]; exact HTB.out⟩
           case measure => simp [intOf]; omega)
     ·have HDT := Lib.hid (show decide ((k : Int) ∈ p) = false by simpa using hmem)
      have HY := Lib.hid (show y = s by rw [HAT.out, if_neg (fun hh => hmem hh.2)])
      have HN := Lib.hid (show AdjV.flSt v p (k + 1) = st from HFS.out hmem)
      clear hmem
      go_wp2_with fail
      refine HH.out.mono ?_
      rintro e w2 ⟨rfl, rfl⟩
      rw [HDT.out]
      have hkW : w1.heap.size < wo.heap.size := HT.out.blk.lt
      have aw1 : wo.cell? ⟨w1.heap.size, 2, none⟩ = some (.slice A2 k n2) := by rw [← HL2.out]; exact HT.out.blk.cell 2
      have aw2 := HT.out.blk.frozen 2
      have hO2 := (HT.out.alloc (.cells #[.int .i64 s] 3)).own2
      rw [HL2.out] at hO2
      have HO2 := Lib.hid hO2
      clear hO2
      go_wp2_with (at_builtin; refine wpList_append_lies _ rfl _ _ _ rfl (w1.heap.size + 1) 3 i0 (.int .i64 0) 1 8 Try.underlying23 hi hz0 hz1 hz2 rfl (by omega) (.slice A2 k n2) k (ints ys) rfl HO2.out ⟨wo.heap.size, 0, none⟩ 1 1 [.int .i64 s] rfl rfl (World.news_of_block (cs := #[.int .i64 s]) (t := 3) (fr := (0, 0)) ((Vw.blkn wo wo.heap.size (by first | rfl | simp) 3 #[.int .i64 s]))) (Adj.one_one _ _) (by omega) (by unfold maxLen; omega) (by omega) (by simp; omega) (wo.heap.size + 1) (by simp) ?_)
      intro gg capg w3 hown1 hgrow hat hltg
      rw [← HL2.out] at hown1 hgrow hat
      have HTA := Lib.hid ((HT.out.alloc _).app2 hown1 hgrow hat (by simp))
      have hkW3 : w1.heap.size < w3.heap.size := HTA.out.blk.lt
      have b1 : w3.cell? ⟨w1.heap.size, 2, none⟩ = some (.slice A2 k n2) := by rw [← HL2.out]; exact HTA.out.blk.cell 2
      have b2 := HTA.out.blk.frozen 2
      have HTB := Lib.hid (HTA.out.set2 (.slice (some ⟨gg, 0, none⟩) (ys.length + 1) capg))
      rw [HL2.out] at HTB
      clear hown1 hgrow hat
      go_wp2_with fail
      first
       | exact ⟨⟨k + 1, _, by omega, by go_num, by rw [HM2.out, HY.out, HN.out]; exact HTB.out⟩, by simp [intOf]; omega⟩
       | (go_roundw
          case rel => exact ⟨k + 1, _, by omega, by go_num, by rw [HM2.out, HY.out, HN.out]; exact HTB.out⟩
          case measure => simp [intOf]; omega)
    ·obtain rfl : k = v.dims.length := by omega
     rw [List.take_of_length_le (by rw [AdjV.flSteps_length]; omega)] at htwo
     have HFL := Lib.hid (AdjV.flip_ok (p := p) H0.out HRI.out)
     obtain ⟨A2, n2, hv2, ia2, la2, ma2, ga2⟩ := Vw.own_view htwo.own2
     subst hv2
     have hr := HR.out.below HBO.out (by omega)
     have e0 : wo.cell? ⟨w1.heap.size, 0, none⟩ = some (.int .i64 (AdjV.flSt v p v.dims.length)) := htwo.blk.cell 0
     have e1 : wo.cell? ⟨w1.heap.size, 1, none⟩ = some (.slice A v.dims.length c) := htwo.blk.cell 1
     have e2 : wo.cell? ⟨w1.heap.size, 2, none⟩ = some (.slice A2 (AdjV.flSteps v p v.dims.length).length n2) := htwo.blk.cell 2
     have HVA := Lib.hid (show Vw.ViewAt wo wo.heap.size (.agg #[.int .i64 (AdjV.flSt v p v.dims.length), .slice A v.dims.length c, .slice A2 (AdjV.flSteps v p v.dims.length).length n2]) ⟨AdjV.flSt v p v.dims.length, v.dims, AdjV.flSteps v p v.dims.length⟩ from
      ⟨_, _, _, _, rfl, (HD.out.below ((HB1.out.trans (HBO.out.mono HB1.out.size)).mono hB)).up (by have := HB1.out.size; omega), ia2, c1, c2, la2, ma2⟩)
     have HMD := Lib.hid (made_any _ _ _ wo (Nat.le_refl _) HVA.out (AdjV.flip_two H0.out p _ _))
     have HBF := Lib.hid (HB1.out.trans (HBO.out.mono HB1.out.size))
     have HRR := Lib.hid hr
     have HA2 := Lib.hid (And.intro ia2 ga2)
     clear htwo hr ia2 ga2 HT
     have HMK := Lib.hid (fun (h : AdjV.wrong ⟨AdjV.flSt v p v.dims.length, v.dims, AdjV.flSteps v p v.dims.length⟩ = 4) => HFL.out.trans (if_pos h))
     have HMK' := Lib.hid (fun (h : AdjV.wrong ⟨AdjV.flSt v p v.dims.length, v.dims, AdjV.flSteps v p v.dims.length⟩ ≠ 4) => HFL.out.trans (if_neg h))
     generalize AdjV.flSt v p v.dims.length = st' at *
     generalize AdjV.flSteps v p v.dims.length = ys at *
     go_wp2_with fail
     refine HMD.out.mono ?_
     rintro e w4 ⟨rfl, hb4⟩
     have hr4 := HRR.out.below hb4 (by omega)
     have r0 : w4.cell? ⟨w.heap.size + 1, 0, none⟩ = some (.int .i64 0) := hr4.cell 0
     have r1 : w4.cell? ⟨w.heap.size + 1, 1, none⟩ = some (.slice none 0 0) := hr4.cell 1
     have r2 : w4.cell? ⟨w.heap.size + 1, 2, none⟩ = some (.slice none 0 0) := hr4.cell 2
     have f0 := hr4.frozen 0
     have f1 := hr4.frozen 1
     have f2 := hr4.frozen 2
     have HBX := Lib.hid (fun x y z => Vw.three (HBF.out.trans (hb4.mono HBF.out.size)) (Nat.le_succ w.heap.size) x y z)
     have HID := Lib.hid (HD.out.below ((HB1.out.trans (HBO.out.mono HB1.out.size)).mono hB))
     have HI4 := Lib.hid (And.intro (HID.out.below (hb4.mono (by omega))) (HA2.out.1.below hb4))
     have hlt4 : wo.heap.size ≤ w4.heap.size := hb4.size
     clear hr4 hb4
     by_cases h4 : AdjV.wrong ⟨st', v.dims, ys⟩ = 4
     ·have HX4 := Lib.hid (HMK.out h4)
      rw [show Vw.madeR (.agg #[.int .i64 st', .slice A v.dims.length c, .slice A2 ys.length n2]) ⟨st', v.dims, ys⟩ = .tuple #[.agg #[.int .i64 0, .slice none 0 0, .slice none 0 0], .int .i64 5] from if_pos h4]
      clear h4
      go_wp2_with fail
      refine bodyPost_ret (v := .tuple #[.agg #[.int .i64 0, .slice none 0 0, .slice none 0 0], .int .i64 5]) (by simp [results, Try.results49, go_sem, r0, r1, r2]) rfl ⟨?_, HBX.out _ _ _⟩
      rw [HX4.out]; exact Vw.out_none _ _ _ _
     ·have HX4 := Lib.hid (HMK'.out h4)
      rw [show Vw.madeR (.agg #[.int .i64 st', .slice A v.dims.length c, .slice A2 ys.length n2]) ⟨st', v.dims, ys⟩ = .tuple #[.agg #[.int .i64 st', .slice A v.dims.length c, .slice A2 ys.length n2], .int .i64 0] from if_neg h4]
      clear h4
      go_wp2_with fail
      refine bodyPost_ret (v := .tuple #[.agg #[.int .i64 st', .slice A v.dims.length c, .slice A2 ys.length n2], .int .i64 0]) (by simp [results, Try.results49, go_sem, r0, r1, r2]) rfl ⟨?_, HBX.out _ _ _⟩
      rw [HX4.out]
      refine Vw.out_mk ⟨A, c, A2, n2, rfl, ?_, ?_, c1, c2, la2, ma2⟩ ?_ ?_
      ·exact (HI4.out.1.set3 (fun b off e hp => by obtain ⟨b2, o2, e2, hlt2, _⟩ := HD.out hp; rw [e] at e2; injection e2 with e2; injection e2 with e2; omega) _ _ _).up (by simp; omega)
      ·exact (HI4.out.2.set3 (fun b off e hp => by have := HA2.out.2 b off e hp; omega) _ _ _).up (by simp; omega)
      ·exact fun b off e hp => by obtain ⟨b2, o2, e2, hlt2, _⟩ := HD.out hp; rw [e] at e2; injection e2 with e2; injection e2 with e2; omega
      ·exact fun b off e hp => by have := HA2.out.2 b off e hp; omega
  ·have HT := Lib.hid (AdjV.flip_bad H0.out (by simpa using hri))
   have HRI := Lib.hid (show AdjV.riseB v.dims.length p = false by simpa using hri)
   clear hri
   go_enter Try.func49, Try.ntmps49
   go_wp2_with fail
   refine (HW.out _ HB.out).mono ?_
   rintro e w1 ⟨rfl, hb1⟩
   rw [H0.out]
   have HRC := Lib.hid (Rising_any P cp p v.dims.length B w1 (by omega) (by omega) (HP.out.below ((HB.out.trans (hb1.mono HB.out.size)).mono hB)))
   obtain ⟨hc, hf⟩ := bcell hb1
   have hz : w.heap.size + 1 < w1.heap.size := by have := hb1.size; simp at this; omega
   go_wp2_with fail
   refine HRC.out.mono ?_
   rintro e w2 ⟨rfl, rfl⟩
   rw [HRI.out]
   go_wp2_with fail
   refine bodyPost_ret (v := .tuple #[.agg #[.int .i64 0, .slice none 0 0, .slice none 0 0], .int .i64 6]) (by simp [results, Try.results49, go_sem, hc]) rfl ⟨?_, ?_⟩
   ·rw [HT.out]; exact Vw.out_none _ _ _ _
   ·exact Vw.three (HB.out.trans (hb1.mono HB.out.size)) (Nat.le_succ _) _ _ _
 ·have HT := Lib.hid (AdjV.flip_wrong (p := p) h0)
  have hq : (AdjV.wrong v != 0) = true := by simpa using h0
  clear h0
  go_enter Try.func49, Try.ntmps49
  go_wp2_with fail
  refine (HW.out _ HB.out).mono ?_
  rintro e w1 ⟨rfl, hb1⟩
  obtain ⟨hc, hf⟩ := bcell hb1
  have hz : w.heap.size + 1 < w1.heap.size := by have := hb1.size; simp at this; omega
  go_wp2_with fail
  refine bodyPost_ret (v := .tuple #[.agg #[.int .i64 0, .slice none 0 0, .slice none 0 0], .int .i64 (AdjV.wrong v)]) (by simp [results, Try.results49, go_sem, hc]) rfl ⟨?_, ?_⟩
  ·rw [HT.out]; exact Vw.out_none _ _ _ _
  ·exact Vw.three (HB.out.trans (hb1.mono HB.out.size)) (Nat.le_succ _) _ _ _
end Go.Proofs.Ytapedmpbkffopaa
end
