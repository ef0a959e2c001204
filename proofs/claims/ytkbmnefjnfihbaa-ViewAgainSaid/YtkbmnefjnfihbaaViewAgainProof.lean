/-
  PROVED: ViewAgainSaid: for every view and every three lists the law ViewAgain returns true: what is turned can be turned back; what is flipped twice is as it was; an array that lies whole can be read in all dimensions that fit. No condition.
-/
import Derived.Test.YtkbmnefjnfihbaaRowMajor
import Derived.Test.YtkbmnefjnfihbaaViewAlive
import Derived.Test.YtkbmnefjnfihbaaViewOpen
import Derived.Test.YtkbmnefjnfihbaaLawRow
import Derived.Deep.DeepCutAuto
namespace Go.Proofs.Ytkbmnefjnfihbaa.viewAgain
open Go.ChangeShapes Go.WideShapes Go.ChangeAt Go.RowKit Adj
set_option linter.unusedVariables false
attribute [local go_sem ↓] Go.wp_at_zero Go.wp_at_succ

theorem trodAll_four {H : Type} {enc : TypeId × Value → H} {P : Program} {w : World} {base : Nat} {spare : Bool} {held : Nat → Bool} {t0 t1 t2 t3 : TypeId} {args : Array Value} {ds : List (DataW H)} {ps : List MemPlace} (h : DataW.TrodAll enc P w base held spare [t0, t1, t2, t3] args.toList ds ps) :
    ∃ v0 v1 v2 v3 d0 d1 d2 d3 p0 p1 p2 p3, args = #[v0, v1, v2, v3] ∧ ds = [d0, d1, d2, d3] ∧ ps = p0 ++ p1 ++ p2 ++ p3 ∧ DataW.Trod enc P w base held spare t0 v0 d0 p0 ∧ DataW.Trod enc P w base held spare t1 v1 d1 p1 ∧ DataW.Trod enc P w base held spare t2 v2 d2 p2 ∧ DataW.Trod enc P w base held spare t3 v3 d3 p3 := by
  obtain ⟨v, vs, d, ds', p, q, hargs, rfl, rfl, hd, hrest⟩ := trodAll_cons h
  obtain ⟨v1, vs1, d1, ds1, p1, q1, rfl, rfl, rfl, hd1, hrest1⟩ := trodAll_cons hrest
  obtain ⟨v2, vs2, d2, ds2, p2, q2, rfl, rfl, rfl, hd2, hrest2⟩ := trodAll_cons hrest1
  obtain ⟨v3, vs3, d3, ds3, p3, q3, rfl, rfl, rfl, hd3, hrest3⟩ := trodAll_cons hrest2
  obtain ⟨rfl, rfl, rfl⟩ := trodAll_nil hrest3
  exact ⟨v, v1, v2, v3, d, d1, d2, d3, p, p1, p2, p3, by cases args; simp_all, rfl, by simp, hd, hd1, hd2, hd3⟩

theorem own : ownKnob Try.prog.godebug = none := by kernel_rfl
theorem laid : laidOutB Try.prog = true := by kernel_rfl

theorem turn_fine {v : AdjV.V} {p : List Int} {r : AdjV.V × Int} (hr : AdjV.turn v p = r) (h : r.2 = 0) : p.length ≤ 6 ∧ AdjV.permOK p.length p = true := by
  subst hr
  by_cases hw : AdjV.wrong v = 0
  · by_cases hp : AdjV.permOK v.dims.length p = true
    · have h1 := (AdjV.permOK_true hp).1
      have h2 := (AdjV.size_fine (AdjV.wrong_fine hw).1).1
      exact ⟨by omega, by rw [h1]; exact hp⟩
    · rw [AdjV.turn_bad hw (by simpa using hp)] at h; cases h
  · rw [AdjV.turn_wrong hw] at h; exact absurd h hw

theorem perm_at {p : List Int} (h : AdjV.permOK p.length p = true) {k : Nat} (hk : k < p.length) : ∃ q : Nat, p[k] = (q : Int) ∧ q < p.length := by
  have := (AdjV.permOK_true h).2.2.1 p[k] (List.getElem_mem hk)
  exact ⟨p[k].toNat, by omega, by omega⟩

theorem blk_ints {w : World} {g : Nat} {l : List Int} (h : Adj.Blk w g 3 (ints l).toArray) : Vw.IntsAt w w.heap.size (some ⟨g, 0, none⟩) l := fun _ =>
  ⟨g, 0, rfl, h.lt, fun i hi => by rw [h.cell]; simpa using Adj.ints_at l i hi⟩

set_option maxRecDepth 100000 in
set_option maxHeartbeats 8000000 in
theorem walk (val : Value) (v : AdjV.V) (P T DA : Option Addr) (cp ct cdi : Nat) (p at_ dims : List Int) (w : World) (hv : Vw.ViewAt w w.heap.size val v)
    (mp : p.length ≤ cp) (mp2 : cp ≤ 9223372036854775807) (mt : at_.length ≤ ct) (mt2 : ct ≤ 9223372036854775807) (md : dims.length ≤ cdi) (md2 : cdi ≤ 9223372036854775807) 
    (hp : Vw.IntsAt w w.heap.size P p) (ht : Vw.IntsAt w w.heap.size T at_) (hdi : Vw.IntsAt w w.heap.size DA dims) :
    Calls Try.prog 9 #[val, .slice P p.length cp, .slice T at_.length ct, .slice DA dims.length cdi] w fun e w' => e = .returned (.bool true) ∧ Below w.heap.size w w' := by
  have HT := Lib.hid (fun (W : World) (hb : Below w.heap.size w W) => Turn_any val v P cp p w.heap.size W hb.size (hv.below hb) (hp.below hb) mp mp2)
  have HT' := Lib.hid (fun (W : World) (hb : Below w.heap.size w W) => refTurn_any val v P cp p w.heap.size W hb.size (hv.below hb) (hp.below hb) mp mp2)
  have HTT := Lib.hid (fun (a : Value) (u : AdjV.V) (Q : Option Addr) (cq : Nat) (q : List Int) (W : World) (ha : Vw.ViewAt W W.heap.size a u) (hq : Vw.IntsAt W W.heap.size Q q) (m1 : q.length ≤ cq) (m2 : cq ≤ 9223372036854775807) => Turn_any a u Q cq q W.heap.size W (Nat.le_refl _) ha hq m1 m2)
  have HF := Lib.hid (fun (W : World) (hb : Below w.heap.size w W) => Flip_any val v T ct at_ w.heap.size W hb.size (hv.below hb) (ht.below hb) mt mt2)
  have HF' := Lib.hid (fun (W : World) (hb : Below w.heap.size w W) => refFlip_any val v T ct at_ w.heap.size W hb.size (hv.below hb) (ht.below hb) mt mt2)
  have HFF := Lib.hid (fun (a : Value) (u : AdjV.V) (W : World) (hb : Below w.heap.size w W) (ha : Vw.ViewAt W W.heap.size a u) => Flip_any a u T ct at_ W.heap.size W (Nat.le_refl _) ha ((ht.below hb).up hb.size) mt mt2)
  have HRF := Lib.hid (fun (a : Value) (u : AdjV.V) (W : World) (hb : Below w.heap.size w W) (ha : Vw.ViewAt W W.heap.size a u) => Reform_any a u DA cdi dims W.heap.size W (Nat.le_refl _) ha ((hdi.below hb).up hb.size) md md2)
  have HSD := Lib.hid (fun (W : World) (hb : Below w.heap.size w W) => Size_any DA cdi dims w.heap.size W (by omega) (hdi.below hb))
  have HS := Lib.hid (fun (a b : Value) (u : AdjV.V) (W : World) (ha : Vw.ViewAt W W.heap.size a u) (hb : Vw.ViewAt W W.heap.size b u) => sameView_eq a b u W.heap.size W (Nat.le_refl _) ha hb)
  have HV := Lib.hid hv
  have HP := Lib.hid hp
  obtain ⟨D, dn, D', dn', rfl, hvd, hvs, hc1, hc2, hc3, hc4⟩ := hv
  have HWH := Lib.hid (fun (W : World) (hb : Below w.heap.size w W) => Whole_any D dn v.dims w.heap.size W hb.size (hvd.below hb) hc1 hc2)
  have HSV := Lib.hid (fun (W : World) (hb : Below w.heap.size w W) => Size_any D dn v.dims w.heap.size W (by omega) (hvd.below hb))
  have HB0 := Lib.hid (((Below.refl w.heap.size w).alloc (Nat.le_refl _) (.cells #[.int .i64 v.st, .slice D v.dims.length dn, .slice D' v.steps.length dn'] 34)))
  have HX0 := Lib.hid (Adj.Blk.new w 34 #[.int .i64 v.st, .slice D v.dims.length dn, .slice D' v.steps.length dn'])
  clear hp ht hdi hvd hvs
  go_enter Try.func9, Try.ntmps9
  go_wp2_with fail
  refine (alive _).mono ?_
  rintro e w1 ⟨rfl, hb1⟩
  have HB1 := Lib.hid (HB0.out.trans (hb1.mono HB0.out.size))
  have HX1 := Lib.hid (HX0.out.below hb1 HX0.out.lt)
  clear hb1
  have a0 : w1.cell? ⟨w.heap.size, 0, none⟩ = some (.int .i64 v.st) := HX1.out.cell 0
  have a1 : w1.cell? ⟨w.heap.size, 1, none⟩ = some (.slice D v.dims.length dn) := HX1.out.cell 1
  have a2 : w1.cell? ⟨w.heap.size, 2, none⟩ = some (.slice D' v.steps.length dn') := HX1.out.cell 2
  have hlt1 : w.heap.size < w1.heap.size := HX1.out.lt
  go_wp2_with fail
  refine (HT'.out _ HB1.out).mono ?_
  rintro e w2 ⟨⟨val2, rfl, hv2, _⟩, hb2⟩
  have HX2 := Lib.hid (HX1.out.below hb2 HX1.out.lt)
  have HB2 := Lib.hid (HB1.out.trans (hb2.mono HB1.out.size))
  have HV2 := Lib.hid hv2
  obtain ⟨E2, en2, E2', en2', rfl, _, _, _⟩ := hv2
  have hlt2 : w.heap.size < w2.heap.size := HX2.out.lt
  clear hb2 a0 a1 a2 hlt1 HX1 HB1
  obtain ⟨r, hr⟩ : ∃ r, AdjV.turn v p = r := ⟨_, rfl⟩
  rw [hr] at HV2 HT HT'
  simp only [hr]
  have HR := Lib.hid hr
  clear hr
  obtain ⟨W2, hW2⟩ : ∃ W2, w2.alloc (.cells #[.int .i64 r.1.st, .slice E2 r.1.dims.length en2, .slice E2' r.1.steps.length en2'] 34) = W2 := ⟨_, rfl⟩
  have HB2 := Lib.hid (show Below w.heap.size w W2 by rw [← hW2]; exact HB2.out.alloc (Nat.le_of_lt hlt2) _)
  have HX2 := Lib.hid (show Adj.Blk W2 w.heap.size 34 #[.int .i64 v.st, .slice D v.dims.length dn, .slice D' v.steps.length dn'] by rw [← hW2]; exact HX2.out.alloc _)
  go_upto_if 38 with (fail)
  try rw [hW2]
  clear hW2 hlt2 HV2
  go_cut [] (fun wx => Below w.heap.size w wx ∧ Adj.Blk wx w.heap.size 34 #[.int .i64 v.st, .slice D v.dims.length dn, .slice D' v.steps.length dn'])
  case first =>
    by_cases h0 : r.2 = 0
    · have hq : (r.2 == 0) = true := by simp [h0]
      have hq2 : (r.2 != 0) = false := by simp [h0]
      have HBK := Lib.hid (AdjV.turn_back (by rw [HR.out]; exact h0 : (AdjV.turn v p).2 = 0))
      have cx0 : W2.cell? ⟨w.heap.size, 0, none⟩ = some (.int .i64 v.st) := HX2.out.cell 0
      have cx1 : W2.cell? ⟨w.heap.size, 1, none⟩ = some (.slice D v.dims.length dn) := HX2.out.cell 1
      have cx2 : W2.cell? ⟨w.heap.size, 2, none⟩ = some (.slice D' v.steps.length dn') := HX2.out.cell 2
      have H0 := Lib.hid h0
      clear h0
      go_wp2_with fail
      refine (HT.out _ HB2.out).mono ?_
      rintro e w3 ⟨⟨val3, rfl, hv3, haw⟩, hb3⟩
      have HX3 := Lib.hid (HX2.out.below hb3 HX2.out.lt)
      have HB3 := Lib.hid (HB2.out.trans (hb3.mono HB2.out.size))
      have HV3 := Lib.hid hv3
      obtain ⟨E3, en3, E3', en3', rfl, _, _, _⟩ := hv3
      have hlt3 : w.heap.size < w3.heap.size := HX3.out.lt
      clear hb3 cx0 cx1 cx2 HB2 HX2 haw
      obtain ⟨hpl, hpr⟩ := turn_fine HR.out H0.out
      have hpl6 : p.length ≤ 6 := hpl
      have hmk := fun W => run_make_int p.length (by omega) W
      have HPR := Lib.hid hpr
      clear hpr hpl
      go_wp2_with fail
      clear hmk
      obtain ⟨W4, hW4⟩ : ∃ W4, (w3.alloc (.cells #[.int .i64 r.1.st, .slice E3 r.1.dims.length en3, .slice E3' r.1.steps.length en3'] 34)).alloc (.cells (ints (List.replicate p.length 0)).toArray 3) = W4 := ⟨_, rfl⟩
      have HB4 := Lib.hid (show Below (w3.heap.size + 1) (w3.alloc (.cells #[.int .i64 r.1.st, .slice E3 r.1.dims.length en3, .slice E3' r.1.steps.length en3'] 34)) W4 by rw [← hW4]; exact (Below.refl _ _).alloc (by simp) _)
      have HBK4 := Lib.hid (show Adj.Blk W4 (w3.heap.size + 1) 3 (ints (AdjV.backK p 0)).toArray by
        rw [← hW4]
        have := Adj.Blk.new (w3.alloc (.cells #[.int .i64 r.1.st, .slice E3 r.1.dims.length en3, .slice E3' r.1.steps.length en3'] 34)) 3 (ints (List.replicate p.length 0)).toArray
        rw [World.size_alloc] at this
        exact this)
      rw [hW4]
      clear hW4
      go_loopw [52] (fun i wr => ∃ k : Nat, k ≤ p.length ∧ i = .int .i64 k ∧ Adj.Blk wr (w3.heap.size + 1) 3 (ints (AdjV.backK p k)).toArray ∧ Below (w3.heap.size + 1) (w3.alloc (.cells #[.int .i64 r.1.st, .slice E3 r.1.dims.length en3, .slice E3' r.1.steps.length en3'] 34)) wr) (fun i _ => p.length - (intOf i).toNat)
      case atStart => exact ⟨0, Nat.zero_le _, rfl, HBK4.out, HB4.out⟩
      case round =>
        obtain ⟨k, hk, rfl, hbk, hbr⟩ := hrel
        have HBr := Lib.hid hbr
        have HBb := Lib.hid hbk
        clear hbr
        by_cases hlt : k < p.length
        · obtain ⟨q, hq1, hq2⟩ := perm_at HPR.out hlt
          have HN := Lib.hid (AdjV.backK_next hlt hq1)
          obtain ⟨b, off, rfl, hbl, hc⟩ := (HP.out.below (HB3.out.trans (((Below.refl w3.heap.size w3).alloc (Nat.le_refl _) _).trans (HBr.out.mono (by omega)) |>.mono (Nat.le_of_lt hlt3)))) (by omega)
          have hck : wr.cell? ⟨b, off + k, none⟩ = some (.int .i64 (q : Int)) := by rw [hc k hlt, hq1]
          have hcq := HBb.out.cell q
          have hfq := HBb.out.frozen q
          rw [show (ints (AdjV.backK p k)).toArray[q]? = some (.int .i64 ((AdjV.backK p k)[q]'(by rw [AdjV.backK_length]; exact hq2))) from by simpa using Adj.ints_at (AdjV.backK p k) q (by rw [AdjV.backK_length]; exact hq2)] at hcq
          clear hc hbk hq1
          go_wp2_with fail
          go_roundw
          case rel => exact ⟨k + 1, by omega, by go_num, by rw [HN.out, ← Adj.ints_set]; exact HBb.out.set_ q _, HBr.out.setCell (by simp) _⟩
          case measure => simp [intOf]; omega
        · have hkk : k = p.length := by omega
          subst hkk
          have HV5 := Lib.hid (show Vw.ViewAt wr wr.heap.size (.agg #[.int .i64 r.1.st, .slice E3 r.1.dims.length en3, .slice E3' r.1.steps.length en3']) r.1 from
            ((((HV3.out.below ((Below.refl _ _).alloc (Nat.le_refl _) _)).up (by simp)).below HBr.out).up (Nat.le_of_lt HBb.out.lt)))
          have HQ5 := Lib.hid (show Vw.IntsAt wr wr.heap.size (some ⟨w3.heap.size + 1, 0, none⟩) (AdjV.backK p p.length) from blk_ints HBb.out)
          have HT5 := HTT.out _ _ (some ⟨w3.heap.size + 1, 0, none⟩) p.length (AdjV.backK p p.length) wr HV5.out HQ5.out (by rw [AdjV.backK_length]; exact Nat.le_refl _) (by omega)
          rw [AdjV.backK_length] at HT5
          have HT5 := Lib.hid HT5
          have hb4 : Below w3.heap.size w3 wr := ((Below.refl w3.heap.size w3).alloc (Nat.le_refl _) _).trans (HBr.out.mono (by omega))
          have HB5 := Lib.hid (HB3.out.trans (hb4.mono (Nat.le_of_lt hlt3)))
          have HX5 := Lib.hid (HX3.out.below hb4 hlt3)
          have HV6 := Lib.hid (show Adj.Blk wr w3.heap.size 34 #[.int .i64 r.1.st, .slice E3 r.1.dims.length en3, .slice E3' r.1.steps.length en3'] from (Adj.Blk.new _ _ _).below HBr.out (by omega))
          clear hb4 hbk hlt
          have cx0 : wr.cell? ⟨w3.heap.size, 0, none⟩ = some (.int .i64 r.1.st) := HV6.out.cell 0
          have cx1 : wr.cell? ⟨w3.heap.size, 1, none⟩ = some (.slice E3 r.1.dims.length en3) := HV6.out.cell 1
          have cx2 : wr.cell? ⟨w3.heap.size, 2, none⟩ = some (.slice E3' r.1.steps.length en3') := HV6.out.cell 2
          go_wp2_with fail
          refine HT5.out.mono ?_
          clear cx0 cx1 cx2 HBr HBb HV3 HB3 HX3 HV6 HBK4 HB4
          have hbk := HBK.out
          rw [HR.out] at hbk
          rw [hbk]
          clear hbk HBK
          rintro e w6 ⟨⟨val6, rfl, hv6, _⟩, hb6⟩
          have HX6 := Lib.hid (HX5.out.below hb6 HX5.out.lt)
          have HB6 := Lib.hid (HB5.out.trans (hb6.mono HB5.out.size))
          have HV6 := Lib.hid hv6
          obtain ⟨E6, en6, E6', en6', rfl, _, _, _⟩ := hv6
          have hlt6 : w.heap.size < w6.heap.size := HX6.out.lt
          clear hb6 HT5 HV5 HQ5 HB5 HX5
          obtain ⟨W7, hW7⟩ : ∃ W7, w6.alloc (.cells #[.int .i64 v.st, .slice E6 v.dims.length en6, .slice E6' v.steps.length en6'] 34) = W7 := ⟨_, rfl⟩
          have HX7 := Lib.hid (show Adj.Blk W7 w.heap.size 34 #[.int .i64 v.st, .slice D v.dims.length dn, .slice D' v.steps.length dn'] by rw [← hW7]; exact HX6.out.alloc _)
          have HU7 := Lib.hid (show Adj.Blk W7 w6.heap.size 34 #[.int .i64 v.st, .slice E6 v.dims.length en6, .slice E6' v.steps.length en6'] by rw [← hW7]; exact Adj.Blk.new _ _ _)
          have HB7 := Lib.hid (show Below w.heap.size w W7 by rw [← hW7]; exact HB6.out.alloc (Nat.le_of_lt hlt6) _)
          have HV7 := Lib.hid (show Vw.ViewAt W7 W7.heap.size (.agg #[.int .i64 v.st, .slice E6 v.dims.length en6, .slice E6' v.steps.length en6']) v by rw [← hW7]; exact (HV6.out.below ((Below.refl _ _).alloc (Nat.le_refl _) _)).up (by simp))
          have HW7 := Lib.hid (show Vw.ViewAt W7 W7.heap.size (.agg #[.int .i64 v.st, .slice D v.dims.length dn, .slice D' v.steps.length dn']) v from (HV.out.below HB7.out).up HB7.out.size)
          have HS7 := Lib.hid (HS.out _ _ _ _ HV7.out HW7.out)
          have cx0 : W7.cell? ⟨w.heap.size, 0, none⟩ = some (.int .i64 v.st) := HX7.out.cell 0
          have cx1 : W7.cell? ⟨w.heap.size, 1, none⟩ = some (.slice D v.dims.length dn) := HX7.out.cell 1
          have cx2 : W7.cell? ⟨w.heap.size, 2, none⟩ = some (.slice D' v.steps.length dn') := HX7.out.cell 2
          have cu0 : W7.cell? ⟨w6.heap.size, 0, none⟩ = some (.int .i64 v.st) := HU7.out.cell 0
          have cu1 : W7.cell? ⟨w6.heap.size, 1, none⟩ = some (.slice E6 v.dims.length en6) := HU7.out.cell 1
          have cu2 : W7.cell? ⟨w6.heap.size, 2, none⟩ = some (.slice E6' v.steps.length en6') := HU7.out.cell 2
          clear HV6 HB6 HX6 hlt6
          go_wp2_with fail
          refine HS7.out.mono ?_
          rintro e w8 ⟨rfl, hb8⟩
          have HB8 := Lib.hid (HB7.out.trans (hb8.mono HB7.out.size))
          have HX8 := Lib.hid (HX7.out.below hb8 HX7.out.lt)
          clear hb8 cx0 cx1 cx2 cu0 cu1 cu2
          go_wp2_with fail
          go_meet
          case rel => exact ⟨HB8.out, HX8.out⟩
    · have hq : (r.2 == 0) = false := by simp [h0]
      clear h0
      go_wp2_with fail
      go_meet
      case rel => exact ⟨HB2.out, HX2.out⟩
  case rest =>
    obtain ⟨hbc, hxc⟩ := hcut
    have HB1 := Lib.hid hbc
    have HX1 := Lib.hid hxc
    have hlt1 : w.heap.size < wc.heap.size := hxc.lt
    clear hbc hxc HT HT' HTT HR
    have cx0 : wc.cell? ⟨w.heap.size, 0, none⟩ = some (.int .i64 v.st) := HX1.out.cell 0
    have cx1 : wc.cell? ⟨w.heap.size, 1, none⟩ = some (.slice D v.dims.length dn) := HX1.out.cell 1
    have cx2 : wc.cell? ⟨w.heap.size, 2, none⟩ = some (.slice D' v.steps.length dn') := HX1.out.cell 2
    go_wp2_with fail
    refine (HF'.out _ HB1.out).mono ?_
    rintro e w2 ⟨⟨val2, rfl, hv2, _⟩, hb2⟩
    have HX2 := Lib.hid (HX1.out.below hb2 HX1.out.lt)
    have HB2 := Lib.hid (HB1.out.trans (hb2.mono HB1.out.size))
    have HV2 := Lib.hid hv2
    obtain ⟨E2, en2, E2', en2', rfl, _, _, _⟩ := hv2
    have hlt2 : w.heap.size < w2.heap.size := HX2.out.lt
    clear hb2 cx0 cx1 cx2 hlt1 HX1 HB1
    obtain ⟨r, hr⟩ : ∃ r, AdjV.flip v at_ = r := ⟨_, rfl⟩
    rw [hr] at HV2 HF HF'
    simp only [hr]
    have HR := Lib.hid hr
    clear hr
    obtain ⟨W2, hW2⟩ : ∃ W2, w2.alloc (.cells #[.int .i64 r.1.st, .slice E2 r.1.dims.length en2, .slice E2' r.1.steps.length en2'] 34) = W2 := ⟨_, rfl⟩
    have HB2 := Lib.hid (show Below w.heap.size w W2 by rw [← hW2]; exact HB2.out.alloc (Nat.le_of_lt hlt2) _)
    have HX2 := Lib.hid (show Adj.Blk W2 w.heap.size 34 #[.int .i64 v.st, .slice D v.dims.length dn, .slice D' v.steps.length dn'] by rw [← hW2]; exact HX2.out.alloc _)
    go_upto_if 83 with (fail)
    try rw [hW2]
    clear hW2 hlt2 HV2
    go_cut [] (fun wx => Below w.heap.size w wx ∧ Adj.Blk wx w.heap.size 34 #[.int .i64 v.st, .slice D v.dims.length dn, .slice D' v.steps.length dn'])
    case first =>
      by_cases h0 : r.2 = 0
      · have hq : (r.2 == 0) = true := by simp [h0]
        have hq2 : (r.2 != 0) = false := by simp [h0]
        have HBK := Lib.hid (AdjV.flip_back (by rw [HR.out]; exact h0 : (AdjV.flip v at_).2 = 0))
        have cx0 : W2.cell? ⟨w.heap.size, 0, none⟩ = some (.int .i64 v.st) := HX2.out.cell 0
        have cx1 : W2.cell? ⟨w.heap.size, 1, none⟩ = some (.slice D v.dims.length dn) := HX2.out.cell 1
        have cx2 : W2.cell? ⟨w.heap.size, 2, none⟩ = some (.slice D' v.steps.length dn') := HX2.out.cell 2
        clear h0
        go_wp2_with fail
        refine (HF.out _ HB2.out).mono ?_
        rintro e w3 ⟨⟨val3, rfl, hv3, haw⟩, hb3⟩
        have HX3 := Lib.hid (HX2.out.below hb3 HX2.out.lt)
        have HB3 := Lib.hid (HB2.out.trans (hb3.mono HB2.out.size))
        have HV3 := Lib.hid hv3
        obtain ⟨E3, en3, E3', en3', rfl, _, _, _⟩ := hv3
        have hlt3 : w.heap.size < w3.heap.size := HX3.out.lt
        clear hb3 cx0 cx1 cx2 HB2 HX2 haw
        obtain ⟨W4, hW4⟩ : ∃ W4, w3.alloc (.cells #[.int .i64 r.1.st, .slice E3 r.1.dims.length en3, .slice E3' r.1.steps.length en3'] 34) = W4 := ⟨_, rfl⟩
        have HB5 := Lib.hid (show Below w.heap.size w W4 by rw [← hW4]; exact HB3.out.alloc (Nat.le_of_lt hlt3) _)
        have HX5 := Lib.hid (show Adj.Blk W4 w.heap.size 34 #[.int .i64 v.st, .slice D v.dims.length dn, .slice D' v.steps.length dn'] by rw [← hW4]; exact HX3.out.alloc _)
        have HU5 := Lib.hid (show Adj.Blk W4 w3.heap.size 34 #[.int .i64 r.1.st, .slice E3 r.1.dims.length en3, .slice E3' r.1.steps.length en3'] by rw [← hW4]; exact Adj.Blk.new _ _ _)
        have HV5 := Lib.hid (show Vw.ViewAt W4 W4.heap.size (.agg #[.int .i64 r.1.st, .slice E3 r.1.dims.length en3, .slice E3' r.1.steps.length en3']) r.1 by rw [← hW4]; exact (HV3.out.below ((Below.refl _ _).alloc (Nat.le_refl _) _)).up (by simp))
        have HT5 := Lib.hid (HFF.out _ _ W4 HB5.out HV5.out)
        have cu0 : W4.cell? ⟨w3.heap.size, 0, none⟩ = some (.int .i64 r.1.st) := HU5.out.cell 0
        have cu1 : W4.cell? ⟨w3.heap.size, 1, none⟩ = some (.slice E3 r.1.dims.length en3) := HU5.out.cell 1
        have cu2 : W4.cell? ⟨w3.heap.size, 2, none⟩ = some (.slice E3' r.1.steps.length en3') := HU5.out.cell 2
        go_wp2_with fail
        refine HT5.out.mono ?_
        clear cu0 cu1 cu2 HV3 HB3 HX3 HU5 hlt3 hW4
        have hbk := HBK.out
        rw [HR.out] at hbk
        rw [hbk]
        clear hbk HBK
        rintro e w6 ⟨⟨val6, rfl, hv6, _⟩, hb6⟩
        have HX6 := Lib.hid (HX5.out.below hb6 HX5.out.lt)
        have HB6 := Lib.hid (HB5.out.trans (hb6.mono HB5.out.size))
        have HV6 := Lib.hid hv6
        obtain ⟨E6, en6, E6', en6', rfl, _, _, _⟩ := hv6
        have hlt6 : w.heap.size < w6.heap.size := HX6.out.lt
        clear hb6 HT5 HV5 HB5 HX5
        obtain ⟨W7, hW7⟩ : ∃ W7, w6.alloc (.cells #[.int .i64 v.st, .slice E6 v.dims.length en6, .slice E6' v.steps.length en6'] 34) = W7 := ⟨_, rfl⟩
        have HX7 := Lib.hid (show Adj.Blk W7 w.heap.size 34 #[.int .i64 v.st, .slice D v.dims.length dn, .slice D' v.steps.length dn'] by rw [← hW7]; exact HX6.out.alloc _)
        have HU7 := Lib.hid (show Adj.Blk W7 w6.heap.size 34 #[.int .i64 v.st, .slice E6 v.dims.length en6, .slice E6' v.steps.length en6'] by rw [← hW7]; exact Adj.Blk.new _ _ _)
        have HB7 := Lib.hid (show Below w.heap.size w W7 by rw [← hW7]; exact HB6.out.alloc (Nat.le_of_lt hlt6) _)
        have HV7 := Lib.hid (show Vw.ViewAt W7 W7.heap.size (.agg #[.int .i64 v.st, .slice E6 v.dims.length en6, .slice E6' v.steps.length en6']) v by rw [← hW7]; exact (HV6.out.below ((Below.refl _ _).alloc (Nat.le_refl _) _)).up (by simp))
        have HW7 := Lib.hid (show Vw.ViewAt W7 W7.heap.size (.agg #[.int .i64 v.st, .slice D v.dims.length dn, .slice D' v.steps.length dn']) v from (HV.out.below HB7.out).up HB7.out.size)
        have HS7 := Lib.hid (HS.out _ _ _ _ HV7.out HW7.out)
        have cx0 : W7.cell? ⟨w.heap.size, 0, none⟩ = some (.int .i64 v.st) := HX7.out.cell 0
        have cx1 : W7.cell? ⟨w.heap.size, 1, none⟩ = some (.slice D v.dims.length dn) := HX7.out.cell 1
        have cx2 : W7.cell? ⟨w.heap.size, 2, none⟩ = some (.slice D' v.steps.length dn') := HX7.out.cell 2
        have cu0 : W7.cell? ⟨w6.heap.size, 0, none⟩ = some (.int .i64 v.st) := HU7.out.cell 0
        have cu1 : W7.cell? ⟨w6.heap.size, 1, none⟩ = some (.slice E6 v.dims.length en6) := HU7.out.cell 1
        have cu2 : W7.cell? ⟨w6.heap.size, 2, none⟩ = some (.slice E6' v.steps.length en6') := HU7.out.cell 2
        clear HV6 HB6 HX6 hlt6
        go_wp2_with fail
        refine HS7.out.mono ?_
        rintro e w8 ⟨rfl, hb8⟩
        have HB8 := Lib.hid (HB7.out.trans (hb8.mono HB7.out.size))
        have HX8 := Lib.hid (HX7.out.below hb8 HX7.out.lt)
        clear hb8 cx0 cx1 cx2 cu0 cu1 cu2
        go_wp2_with fail
        go_meet
        case rel => exact ⟨HB8.out, HX8.out⟩
      · have hq : (r.2 == 0) = false := by simp [h0]
        clear h0
        go_wp2_with fail
        go_meet
        case rel => exact ⟨HB2.out, HX2.out⟩
    case rest =>
      obtain ⟨hbc, hxc⟩ := hcut
      have HB1 := Lib.hid hbc
      have HX1 := Lib.hid hxc
      have hlt1 : w.heap.size < wc.heap.size := hxc.lt
      clear hbc hxc HF HF' HFF HR
      have cx0 : wc.cell? ⟨w.heap.size, 0, none⟩ = some (.int .i64 v.st) := HX1.out.cell 0
      have cx1 : wc.cell? ⟨w.heap.size, 1, none⟩ = some (.slice D v.dims.length dn) := HX1.out.cell 1
      have cx2 : wc.cell? ⟨w.heap.size, 2, none⟩ = some (.slice D' v.steps.length dn') := HX1.out.cell 2
      go_wp2_with fail
      refine (HWH.out _ HB1.out).mono ?_
      rintro e w2 ⟨⟨val2, rfl, hv2, _⟩, hb2⟩
      have HX2 := Lib.hid (HX1.out.below hb2 HX1.out.lt)
      have HB2 := Lib.hid (HB1.out.trans (hb2.mono HB1.out.size))
      clear hb2 cx0 cx1 cx2 hlt1 HX1 HB1
      by_cases h0 : (AdjV.size v.dims).2 = 0
      · have hwh : AdjV.whole v.dims = (⟨0, v.dims, AdjV.steps v.dims⟩, 0) := if_neg (by simp [h0])
        rw [hwh] at hv2 ⊢
        have HL := Lib.hid (AdjV.whole_reform (dims := dims) h0)
        have hR : Vw.sizeR v.dims = .tuple #[.int .i64 (AdjV.size v.dims).1, .int .i64 0] := by unfold Vw.sizeR; rw [h0]
        have HRV := Lib.hid hR
        clear hwh hR
        have HV2 := Lib.hid hv2
        obtain ⟨E2, en2, E2', en2', rfl, _, _, _⟩ := hv2
        have hlt2 : w.heap.size < w2.heap.size := HX2.out.lt
        obtain ⟨st, hst⟩ : ∃ st, AdjV.steps v.dims = st := ⟨_, rfl⟩
        rw [hst] at HV2 HL
        simp only [hst]
        clear hst h0
        obtain ⟨W2, hW2⟩ : ∃ W2, w2.alloc (.cells #[.int .i64 0, .slice E2 v.dims.length en2, .slice E2' st.length en2'] 34) = W2 := ⟨_, rfl⟩
        have HX3 := Lib.hid (show Adj.Blk W2 w.heap.size 34 #[.int .i64 v.st, .slice D v.dims.length dn, .slice D' v.steps.length dn'] by rw [← hW2]; exact HX2.out.alloc _)
        have HU3 := Lib.hid (show Adj.Blk W2 w2.heap.size 34 #[.int .i64 0, .slice E2 v.dims.length en2, .slice E2' st.length en2'] by rw [← hW2]; exact Adj.Blk.new _ _ _)
        have HB3 := Lib.hid (show Below w.heap.size w W2 by rw [← hW2]; exact HB2.out.alloc (Nat.le_of_lt hlt2) _)
        have HV3 := Lib.hid (show Vw.ViewAt W2 W2.heap.size (.agg #[.int .i64 0, .slice E2 v.dims.length en2, .slice E2' st.length en2']) ⟨0, v.dims, st⟩ by rw [← hW2]; exact (HV2.out.below ((Below.refl _ _).alloc (Nat.le_refl _) _)).up (by simp))
        have cx0 : W2.cell? ⟨w.heap.size, 0, none⟩ = some (.int .i64 v.st) := HX3.out.cell 0
        have cx1 : W2.cell? ⟨w.heap.size, 1, none⟩ = some (.slice D v.dims.length dn) := HX3.out.cell 1
        have cx2 : W2.cell? ⟨w.heap.size, 2, none⟩ = some (.slice D' v.steps.length dn') := HX3.out.cell 2
        have cu0 : W2.cell? ⟨w2.heap.size, 0, none⟩ = some (.int .i64 0) := HU3.out.cell 0
        have cu1 : W2.cell? ⟨w2.heap.size, 1, none⟩ = some (.slice E2 v.dims.length en2) := HU3.out.cell 1
        have cu2 : W2.cell? ⟨w2.heap.size, 2, none⟩ = some (.slice E2' st.length en2') := HU3.out.cell 2
        have HSV3 := Lib.hid (HSV.out _ HB3.out)
        have HSD3 := Lib.hid (HSD.out _ HB3.out)
        have HRF3 := Lib.hid (HRF.out _ _ _ HB3.out HV3.out)
        clear HX2 HB2 HV2 HSV HSD HRF
        go_wp2_with fail
        refine HSV3.out.mono ?_
        rintro e w4 ⟨rfl, rfl⟩
        rw [HRV.out]
        go_wp2_with fail
        refine HSD3.out.mono ?_
        rintro e w5 ⟨rfl, rfl⟩
        obtain ⟨nv, hnv⟩ : ∃ nv, AdjV.size v.dims = nv := ⟨_, rfl⟩
        obtain ⟨sd, hsd⟩ : ∃ sd, AdjV.size dims = sd := ⟨_, rfl⟩
        have hrd : Vw.sizeR dims = .tuple #[.int .i64 sd.1, .int .i64 sd.2] := by rw [← hsd]; rfl
        rw [hrd]
        rw [hnv, hsd] at HL
        simp only [hnv]
        clear hnv hsd hrd HSV3 HSD3 HRV
        go_wp2_with fail
        refine HRF3.out.mono ?_
        obtain ⟨rf, hrf⟩ : ∃ rf, AdjV.reform ⟨0, v.dims, st⟩ dims = rf := ⟨_, rfl⟩
        rw [hrf] at HL ⊢
        clear hrf HRF3
        rintro e w6 ⟨⟨val6, rfl, hv6, _⟩, hb6⟩
        have HB6 := Lib.hid (HB3.out.trans (hb6.mono HB3.out.size))
        have HX6 := Lib.hid (HX3.out.below hb6 HX3.out.lt)
        obtain ⟨E6, en6, E6', en6', rfl, _, _, _⟩ := hv6
        clear hb6 cx0 cx1 cx2 cu0 cu1 cu2 HX3 HU3 HB3 HV3 hW2
        have HB7 := Lib.hid (fun o => HB6.out.alloc (Nat.le_of_lt HX6.out.lt) o)
        by_cases h1 : sd.2 = 0
        · have hq1 : (sd.2 == 0) = true := by simp [h1]
          by_cases h2 : nv.1 = sd.1
          · have hq2 : (nv.1 == sd.1) = true := by simp [h2]
            have hq3 : (rf.2 == 0) = true := by simpa using HL.out.2 ⟨h1, h2⟩
            clear h1 h2
            go_wp2_with fail
            go_ret
            exact ⟨rfl, HB7.out _⟩
          · have hq2 : (nv.1 == sd.1) = false := by simp [h2]
            have hq3 : (rf.2 == 0) = false := by simpa using fun h => h2 (HL.out.1 h).2
            clear h1 h2
            go_wp2_with fail
            go_ret
            exact ⟨rfl, HB7.out _⟩
        · have hq1 : (sd.2 == 0) = false := by simp [h1]
          have hq3 : (rf.2 == 0) = false := by simpa using fun h => h1 (HL.out.1 h).1
          clear h1
          go_wp2_with fail
          go_ret
          exact ⟨rfl, HB7.out _⟩
      · have hwh : AdjV.whole v.dims = (AdjV.none_, (AdjV.size v.dims).2) := if_pos h0
        rw [hwh] at hv2 ⊢
        have hq : ((AdjV.size v.dims).2 != 0) = true := by simp [h0]
        obtain ⟨E2, en2, E2', en2', rfl, _, _, _⟩ := hv2
        clear hwh h0
        go_wp2_with fail
        go_ret
        exact ⟨rfl, HB2.out.alloc (by have := HX2.out.lt; omega) _⟩

theorem lifted (os : Os) (started : os.Started) (H : Type) (enc : TypeId × Value → H) :
    ReturnsInHanded {} Try.checked os 9 .any (Rows.viewAgainSpec.pre6 enc Try.prog Try.f9 Rows.viewAgainRow.domain false) (Rows.viewAgainSpec.post enc Try.prog Try.f9 false true false false) := by
  refine Adj.law_lifted (C := Try.checked) (s := Rows.viewAgainSpec) own started (by kernel_rfl) Try.func9 laid rfl rfl Try.underlying4
      (by rw [Try.params9]; intro t ht; simp only [List.mem_cons, List.not_mem_nil, or_false] at ht; rcases ht with rfl | rfl | rfl | rfl <;> exact ⟨by kernel_rfl, of_decide_eq_true (by kernel_rfl)⟩)
      (by intro ds hd; match ds, hd with | [d1, d2, d3, d4], _ => exact ⟨rfl, rfl, rfl⟩)
      (ChangeSpec.witness6 (enc := enc) (C := Try.checked) false ⟨#[], #[.agg #[.int .i64 0, .slice none 0 0, .slice none 0 0], .slice none 0 0, .slice none 0 0, .slice none 0 0], []⟩ 8 (by kernel_rfl) (by kernel_rfl) (by kernel_rfl) (by kernel_rfl)) ?_
  intro W base args ds before hval0 hA0 _ hz0
  have hval : ∀ (j : Nat) t v, Try.f9.params[j]? = some t → args[j]? = some v → Value.okWide Try.prog W .any base t v := hval0
  have hA : DataW.TrodAll enc Try.prog W 0 (fun _ => true) true Try.f9.params.toList args.toList ds before := hA0
  rw [Try.params9] at hA hval
  obtain ⟨v0, v1, v2, v3, d0, d1, d2, d3, p0, p1, p2, p3, rfl, rfl, rfl, h0, h1, h2, h3⟩ := trodAll_four hA
  obtain ⟨u, hu⟩ := open_view (hval 0 34 v0 rfl rfl) h0
  obtain ⟨A1, l1, c1, rfl, hm1, hb1, hd1⟩ := open_list (hval 1 22 v1 rfl rfl) h1
  obtain ⟨A2, l2, c2, rfl, hm2, hb2, hd2⟩ := open_list (hval 2 22 v2 rfl rfl) h2
  obtain ⟨A3, l3, c3, rfl, hm3, hb3, hd3⟩ := open_list (hval 3 22 v3 rfl rfl) h3
  exact walk v0 u A1 A2 A3 c1 c2 c3 l1 l2 l3 W hu hb1 hd1 hb2 hd2 hb3 hd3 hm1 hm2 hm3

theorem proved : Rows.ViewAgainSaid :=
  OpenClaim.holds_of_wide 9 Try.f9 rfl rfl rfl rfl rfl rfl rfl ⟨rfl, rfl, rfl, rfl, rfl⟩ rfl rfl rfl rfl rfl (by kernel_rfl) Try.func9 (by kernel_rfl)
    (of_decide_eq_true (by kernel_rfl)) (by unfold Func.isWrapper; first | (rw [if_pos (by decide +kernel)]; kernel_rfl) | (rw [if_neg (by decide +kernel)]; exact ⟨rfl, rfl⟩))
    (fun os started H enc _ => lifted os started H enc)
#print axioms proved
end Go.Proofs.Ytkbmnefjnfihbaa.viewAgain
