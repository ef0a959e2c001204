/-
  PROVED: ViewCutsSaid: for every view and every five lists the law ViewCuts returns true: Cut and Spread answer what the reference's answer. No condition.
-/
import Derived.Test.YtkbmnefjnfihbaaViewT
import Derived.Test.YtkbmnefjnfihbaaViewOpen
import Derived.Test.YtkbmnefjnfihbaaLawRow
namespace Go.Proofs.Ytkbmnefjnfihbaa.viewCuts
open Go.ChangeShapes Go.WideShapes Go.ChangeAt Go.RowKit
set_option linter.unusedVariables false

theorem trodAll_six {H : Type} {enc : TypeId × Value → H} {P : Program} {w : World} {base : Nat} {spare : Bool} {held : Nat → Bool} {t0 t1 t2 t3 t4 t5 : TypeId} {args : Array Value} {ds : List (DataW H)} {ps : List MemPlace} (h : DataW.TrodAll enc P w base held spare [t0, t1, t2, t3, t4, t5] args.toList ds ps) :
    ∃ v0 v1 v2 v3 v4 v5 d0 d1 d2 d3 d4 d5 p0 p1 p2 p3 p4 p5, args = #[v0, v1, v2, v3, v4, v5] ∧ ds = [d0, d1, d2, d3, d4, d5] ∧ ps = p0 ++ p1 ++ p2 ++ p3 ++ p4 ++ p5 ∧ DataW.Trod enc P w base held spare t0 v0 d0 p0 ∧ DataW.Trod enc P w base held spare t1 v1 d1 p1 ∧ DataW.Trod enc P w base held spare t2 v2 d2 p2 ∧
      DataW.Trod enc P w base held spare t3 v3 d3 p3 ∧ DataW.Trod enc P w base held spare t4 v4 d4 p4 ∧ DataW.Trod enc P w base held spare t5 v5 d5 p5 := by
  obtain ⟨v, vs, d, ds', p, q, hargs, rfl, rfl, hd, hrest⟩ := trodAll_cons h
  obtain ⟨v1, vs1, d1, ds1, p1, q1, rfl, rfl, rfl, hd1, hrest1⟩ := trodAll_cons hrest
  obtain ⟨v2, vs2, d2, ds2, p2, q2, rfl, rfl, rfl, hd2, hrest2⟩ := trodAll_cons hrest1
  obtain ⟨v3, vs3, d3, ds3, p3, q3, rfl, rfl, rfl, hd3, hrest3⟩ := trodAll_cons hrest2
  obtain ⟨v4, vs4, d4, ds4, p4, q4, rfl, rfl, rfl, hd4, hrest4⟩ := trodAll_cons hrest3
  obtain ⟨v5, vs5, d5, ds5, p5, q5, rfl, rfl, rfl, hd5, hrest5⟩ := trodAll_cons hrest4
  obtain ⟨rfl, rfl, rfl⟩ := trodAll_nil hrest5
  exact ⟨v, v1, v2, v3, v4, v5, d, d1, d2, d3, d4, d5, p, p1, p2, p3, p4, p5, by cases args; simp_all, rfl, by simp, hd, hd1, hd2, hd3, hd4, hd5⟩

theorem own : ownKnob Try.prog.godebug = none := by kernel_rfl
theorem laid : laidOutB Try.prog = true := by kernel_rfl

set_option maxRecDepth 100000 in
set_option maxHeartbeats 4000000 in
theorem walk (val : Value) (v : AdjV.V) (L I T DA P : Option Addr) (cl ci ct cdi cp : Nat) (lo hi st dims p : List Int) (w : World) (hv : Vw.ViewAt w w.heap.size val v)
    (ml : lo.length ≤ cl) (ml2 : cl ≤ 9223372036854775807) (mi : hi.length ≤ ci) (mi2 : ci ≤ 9223372036854775807) (mt : st.length ≤ ct) (mt2 : ct ≤ 9223372036854775807) (md : dims.length ≤ cdi) (md2 : cdi ≤ 9223372036854775807) (mp : p.length ≤ cp) (mp2 : cp ≤ 9223372036854775807)
    (hlo : Vw.IntsAt w w.heap.size L lo) (hhi : Vw.IntsAt w w.heap.size I hi) (hst : Vw.IntsAt w w.heap.size T st) (hdi : Vw.IntsAt w w.heap.size DA dims) (hp : Vw.IntsAt w w.heap.size P p) :
    Calls Try.prog 7 #[val, .slice L lo.length cl, .slice I hi.length ci, .slice T st.length ct, .slice DA dims.length cdi, .slice P p.length cp] w fun e w' => e = .returned (.bool true) ∧ Below w.heap.size w w' := by
  have HT := Lib.hid (fun (W : World) (hb : Below w.heap.size w W) => Cut_any val v L I T cl ci ct lo hi st w.heap.size W hb.size (hv.below hb) (hlo.below hb) (hhi.below hb) (hst.below hb) ml ml2 mi mi2 mt mt2)
  have HT' := Lib.hid (fun (W : World) (hb : Below w.heap.size w W) => refCut_any val v L I T cl ci ct lo hi st w.heap.size W hb.size (hv.below hb) (hlo.below hb) (hhi.below hb) (hst.below hb) ml ml2 mi mi2 mt mt2)
  have HF := Lib.hid (fun (W : World) (hb : Below w.heap.size w W) => Spread_any val v DA P cdi cp dims p w.heap.size W hb.size (hv.below hb) (hdi.below hb) (hp.below hb) md md2 mp mp2)
  have HF' := Lib.hid (fun (W : World) (hb : Below w.heap.size w W) => refSpread_any val v DA P cdi cp dims p w.heap.size W hb.size (hv.below hb) (hdi.below hb) (hp.below hb) md md2 mp mp2)
  have HS := Lib.hid (fun (a b : Value) (u : AdjV.V) (W : World) (ha : Vw.ViewAt W W.heap.size a u) (hb : Vw.ViewAt W W.heap.size b u) => sameView_eq a b u W.heap.size W (Nat.le_refl _) ha hb)
  obtain ⟨D, dn, D', dn', rfl, _, _, _⟩ := hv
  clear hlo hhi hst hdi hp
  have HB0 := Lib.hid (((Below.refl w.heap.size w).alloc (Nat.le_refl _) (.cells #[.int .i64 v.st, .slice D v.dims.length dn, .slice D' v.steps.length dn'] 34)))
  go_enter Try.func7, Try.ntmps7
  go_wp2_with fail
  refine (HT.out _ HB0.out).mono ?_
  rintro e w1 ⟨⟨val1, rfl, hv1, _⟩, hb1⟩
  have hX := (Adj.Blk.new w 34 #[.int .i64 v.st, .slice D v.dims.length dn, .slice D' v.steps.length dn']).below hb1 (by simp)
  have HX1 := Lib.hid hX
  have HB1 := Lib.hid (HB0.out.trans (hb1.mono HB0.out.size))
  have HV1 := Lib.hid hv1
  obtain ⟨E1, en1, E1', en1', rfl, _, _, _⟩ := hv1
  have hlt1 : w.heap.size < w1.heap.size := hX.lt
  clear hX hb1
  generalize hr1 : AdjV.cut v lo hi st = r1 at *
  clear hr1
  have a0 : ∀ o, (w1.alloc o).cell? ⟨w.heap.size, 0, none⟩ = some (.int .i64 v.st) := fun o => (HX1.out.alloc o).cell 0
  have a1 : ∀ o, (w1.alloc o).cell? ⟨w.heap.size, 1, none⟩ = some (.slice D v.dims.length dn) := fun o => (HX1.out.alloc o).cell 1
  have a2 : ∀ o, (w1.alloc o).cell? ⟨w.heap.size, 2, none⟩ = some (.slice D' v.steps.length dn') := fun o => (HX1.out.alloc o).cell 2
  go_wp2_with fail
  refine (HT'.out _ (HB1.out.alloc (Nat.le_of_lt hlt1) _)).mono ?_
  rintro e w2 ⟨⟨val2, rfl, hv2, _⟩, hb2⟩
  have hY := (Adj.Blk.new w1 34 #[.int .i64 r1.1.st, .slice E1 r1.1.dims.length en1, .slice E1' r1.1.steps.length en1']).below hb2 (by simp)
  have hX2 := (HX1.out.alloc (.cells #[.int .i64 r1.1.st, .slice E1 r1.1.dims.length en1, .slice E1' r1.1.steps.length en1'] 34)).below hb2 (by simp; omega)
  have HB12 := Lib.hid (((Below.refl w1.heap.size w1).alloc (Nat.le_refl _) (.cells #[.int .i64 r1.1.st, .slice E1 r1.1.dims.length en1, .slice E1' r1.1.steps.length en1'] 34)).trans (hb2.mono (by simp)))
  have HV2 := Lib.hid hv2
  obtain ⟨E2, en2, E2', en2', rfl, _, _, _⟩ := hv2
  have hlt2 : w1.heap.size < w2.heap.size := hY.lt
  have HY2 := Lib.hid hY
  have HX2 := Lib.hid hX2
  clear hY hX2 hb2 a0 a1 a2
  have b0 : ∀ o, (w2.alloc o).cell? ⟨w1.heap.size, 0, none⟩ = some (.int .i64 r1.1.st) := fun o => (HY2.out.alloc o).cell 0
  have b1 : ∀ o, (w2.alloc o).cell? ⟨w1.heap.size, 1, none⟩ = some (.slice E1 r1.1.dims.length en1) := fun o => (HY2.out.alloc o).cell 1
  have b2 : ∀ o, (w2.alloc o).cell? ⟨w1.heap.size, 2, none⟩ = some (.slice E1' r1.1.steps.length en1') := fun o => (HY2.out.alloc o).cell 2
  go_wp2_with fail
  obtain ⟨W2, hW2⟩ : ∃ W2, w2.alloc (.cells #[.int .i64 r1.1.st, .slice E2 r1.1.dims.length en2, .slice E2' r1.1.steps.length en2'] 34) = W2 := ⟨_, rfl⟩
  have HA := Lib.hid (show Vw.ViewAt W2 W2.heap.size (.agg #[.int .i64 r1.1.st, .slice E1 r1.1.dims.length en1, .slice E1' r1.1.steps.length en1']) r1.1 by
    rw [← hW2]; exact ((HV1.out.below HB12.out).up (by omega) : Vw.ViewAt w2 w2.heap.size _ _).below ((Below.refl _ _).alloc (Nat.le_refl _) _) |>.up (by simp))
  have HZ := Lib.hid (show Vw.ViewAt W2 W2.heap.size (.agg #[.int .i64 r1.1.st, .slice E2 r1.1.dims.length en2, .slice E2' r1.1.steps.length en2']) r1.1 by
    rw [← hW2]; exact (HV2.out.below ((Below.refl _ _).alloc (Nat.le_refl _) _)).up (by simp))
  have HX3 := Lib.hid (show Adj.Blk W2 w.heap.size 34 #[.int .i64 v.st, .slice D v.dims.length dn, .slice D' v.steps.length dn'] by rw [← hW2]; exact HX2.out.alloc _)
  have HY3 := Lib.hid (show Adj.Blk W2 w1.heap.size 34 #[.int .i64 r1.1.st, .slice E1 r1.1.dims.length en1, .slice E1' r1.1.steps.length en1'] by rw [← hW2]; exact HY2.out.alloc _)
  have HZ3 := Lib.hid (show Adj.Blk W2 w2.heap.size 34 #[.int .i64 r1.1.st, .slice E2 r1.1.dims.length en2, .slice E2' r1.1.steps.length en2'] by rw [← hW2]; exact Adj.Blk.new _ _ _)
  have HB2 := Lib.hid (show Below w.heap.size w W2 by rw [← hW2]; exact (HB1.out.trans (HB12.out.mono (Nat.le_of_lt hlt1))).alloc (by omega) _)
  rw [hW2]
  clear hW2 b0 b1 b2
  refine (HS.out _ _ _ _ HA.out HZ.out).mono ?_
  rintro e w3 ⟨rfl, hb3⟩
  have hne : (r1.2 != r1.2) = false := by simp
  have HX4 := Lib.hid (HX3.out.below hb3 HX3.out.lt)
  have HY4 := Lib.hid (HY3.out.below hb3 HY3.out.lt)
  have HZ4 := Lib.hid (HZ3.out.below hb3 HZ3.out.lt)
  have HB3 := Lib.hid (HB2.out.trans (hb3.mono HB2.out.size))
  clear hb3
  have cx0 : w3.cell? ⟨w.heap.size, 0, none⟩ = some (.int .i64 v.st) := HX4.out.cell 0
  have cx1 : w3.cell? ⟨w.heap.size, 1, none⟩ = some (.slice D v.dims.length dn) := HX4.out.cell 1
  have cx2 : w3.cell? ⟨w.heap.size, 2, none⟩ = some (.slice D' v.steps.length dn') := HX4.out.cell 2
  go_wp2_with fail
  refine (HF.out _ HB3.out).mono ?_
  rintro e w4 ⟨⟨val3, rfl, hv3, haw⟩, hb4⟩
  have HX5 := Lib.hid (HX4.out.below hb4 HX4.out.lt)
  have HY5 := Lib.hid (HY4.out.below hb4 HY4.out.lt)
  have HZ5 := Lib.hid (HZ4.out.below hb4 HZ4.out.lt)
  have HB4 := Lib.hid (HB3.out.trans (hb4.mono HB3.out.size))
  have HV3 := Lib.hid hv3
  obtain ⟨E3, en3, E3', en3', rfl, _, _, _⟩ := hv3
  have HAW := Lib.hid (haw _ _ _ _ _ _ _ rfl)
  have hy3 : w1.heap.size < w3.heap.size := HY4.out.lt
  have hz3 : w2.heap.size < w3.heap.size := HZ4.out.lt
  have hz4 : w3.heap.size ≤ w4.heap.size := hb4.size
  clear haw
  clear hb4 cx0 cx1 cx2
  generalize hr3 : AdjV.spread v dims p = r3 at *
  clear hr3
  have cy0 : w4.cell? ⟨w1.heap.size, 0, none⟩ = some (.int .i64 r1.1.st) := HY5.out.cell 0
  have cy1 : w4.cell? ⟨w1.heap.size, 1, none⟩ = some (.slice E1 r1.1.dims.length en1) := HY5.out.cell 1
  have cy2 : w4.cell? ⟨w1.heap.size, 2, none⟩ = some (.slice E1' r1.1.steps.length en1') := HY5.out.cell 2
  have fy0 := HY5.out.frozen 0
  have fy1 := HY5.out.frozen 1
  have fy2 := HY5.out.frozen 2
  obtain ⟨W5, hW5⟩ : ∃ W5, ((w4.setCell ⟨w1.heap.size, 0, none⟩ (.int .i64 r3.1.st)).setCell ⟨w1.heap.size, 1, none⟩ (.slice E3 r3.1.dims.length en3)).setCell ⟨w1.heap.size, 2, none⟩ (.slice E3' r3.1.steps.length en3') = W5 := ⟨_, rfl⟩
  have HX6 := Lib.hid (show Adj.Blk W5 w.heap.size 34 #[.int .i64 v.st, .slice D v.dims.length dn, .slice D' v.steps.length dn'] by rw [← hW5]; exact ((HX5.out.far (p := ⟨w1.heap.size, 0, none⟩) (by simp; omega) _).far (p := ⟨w1.heap.size, 1, none⟩) (by simp; omega) _).far (p := ⟨w1.heap.size, 2, none⟩) (by simp; omega) _)
  have HY6 := Lib.hid (show Adj.Blk W5 w1.heap.size 34 #[.int .i64 r3.1.st, .slice E3 r3.1.dims.length en3, .slice E3' r3.1.steps.length en3'] by rw [← hW5]; exact ((HY5.out.set_ 0 _).set_ 1 _).set_ 2 _)
  have HZ6 := Lib.hid (show Adj.Blk W5 w2.heap.size 34 #[.int .i64 r1.1.st, .slice E2 r1.1.dims.length en2, .slice E2' r1.1.steps.length en2'] by rw [← hW5]; exact ((HZ5.out.far (p := ⟨w1.heap.size, 0, none⟩) (by simp; omega) _).far (p := ⟨w1.heap.size, 1, none⟩) (by simp; omega) _).far (p := ⟨w1.heap.size, 2, none⟩) (by simp; omega) _)
  have HB5 := Lib.hid (show Below w.heap.size w W5 by rw [← hW5]; exact Vw.three HB4.out (by omega) _ _ _)
  have HV5 := Lib.hid (show Vw.ViewAt W5 W5.heap.size (.agg #[.int .i64 r3.1.st, .slice E3 r3.1.dims.length en3, .slice E3' r3.1.steps.length en3']) r3.1 by
    rw [← hW5]; exact Vw.view_set3 HV3.out (cc := w1.heap.size) rfl (fun b off e hp => by have := HAW.out.1 b off e hp; omega) (fun b off e hp => by have := HAW.out.2 b off e hp; omega) (by simp) _ _ _)
  have hs5 : W5.heap.size = w4.heap.size := by rw [← hW5]; simp
  have HS5 := Lib.hid hs5
  have q0 : (((w4.setCell ⟨w1.heap.size, 0, none⟩ (.int .i64 r3.1.st)).setCell ⟨w1.heap.size, 1, none⟩ (.slice E3 r3.1.dims.length en3)).setCell ⟨w1.heap.size, 2, none⟩ (.slice E3' r3.1.steps.length en3')).cell? ⟨w.heap.size, 0, none⟩ = some (.int .i64 v.st) := by rw [hW5]; exact HX6.out.cell 0
  have q1 : (((w4.setCell ⟨w1.heap.size, 0, none⟩ (.int .i64 r3.1.st)).setCell ⟨w1.heap.size, 1, none⟩ (.slice E3 r3.1.dims.length en3)).setCell ⟨w1.heap.size, 2, none⟩ (.slice E3' r3.1.steps.length en3')).cell? ⟨w.heap.size, 1, none⟩ = some (.slice D v.dims.length dn) := by rw [hW5]; exact HX6.out.cell 1
  have q2 : (((w4.setCell ⟨w1.heap.size, 0, none⟩ (.int .i64 r3.1.st)).setCell ⟨w1.heap.size, 1, none⟩ (.slice E3 r3.1.dims.length en3)).setCell ⟨w1.heap.size, 2, none⟩ (.slice E3' r3.1.steps.length en3')).cell? ⟨w.heap.size, 2, none⟩ = some (.slice D' v.steps.length dn') := by rw [hW5]; exact HX6.out.cell 2
  have HW5 := Lib.hid hW5
  clear hW5 hs5
  go_wp2_with fail
  rw [HW5.out]
  clear q0 q1 q2 cy0 cy1 cy2 fy0 fy1 fy2 HW5
  refine (HF'.out _ HB5.out).mono ?_
  rintro e w6 ⟨⟨val4, rfl, hv4, haw⟩, hb6⟩
  have HY7 := Lib.hid (HY6.out.below hb6 HY6.out.lt)
  have HZ7 := Lib.hid (HZ6.out.below hb6 HZ6.out.lt)
  have HB6 := Lib.hid (HB5.out.trans (hb6.mono HB5.out.size))
  have HV6 := Lib.hid ((HV5.out.below hb6).up hb6.size)
  have HV4 := Lib.hid hv4
  obtain ⟨E4, en4, E4', en4', rfl, _, _, _⟩ := hv4
  have HAW2 := Lib.hid (haw _ _ _ _ _ _ _ rfl)
  have hz6 : w2.heap.size < W5.heap.size := HZ6.out.lt
  have hz7 : w2.heap.size < w6.heap.size := HZ7.out.lt
  have HAW3 := Lib.hid HV5.out
  clear haw hb6
  have cy0 : w6.cell? ⟨w1.heap.size, 0, none⟩ = some (.int .i64 r3.1.st) := HY7.out.cell 0
  have cy1 : w6.cell? ⟨w1.heap.size, 1, none⟩ = some (.slice E3 r3.1.dims.length en3) := HY7.out.cell 1
  have cy2 : w6.cell? ⟨w1.heap.size, 2, none⟩ = some (.slice E3' r3.1.steps.length en3') := HY7.out.cell 2
  have cz0 : w6.cell? ⟨w2.heap.size, 0, none⟩ = some (.int .i64 r1.1.st) := HZ7.out.cell 0
  have cz1 : w6.cell? ⟨w2.heap.size, 1, none⟩ = some (.slice E2 r1.1.dims.length en2) := HZ7.out.cell 1
  have cz2 : w6.cell? ⟨w2.heap.size, 2, none⟩ = some (.slice E2' r1.1.steps.length en2') := HZ7.out.cell 2
  have fz0 := HZ7.out.frozen 0
  have fz1 := HZ7.out.frozen 1
  have fz2 := HZ7.out.frozen 2
  obtain ⟨W7, hW7⟩ : ∃ W7, (((w6.setCell ⟨w2.heap.size, 0, none⟩ (.int .i64 r3.1.st)).setCell ⟨w2.heap.size, 1, none⟩ (.slice E4 r3.1.dims.length en4)).setCell ⟨w2.heap.size, 2, none⟩ (.slice E4' r3.1.steps.length en4')) = W7 := ⟨_, rfl⟩
  have HY8 := Lib.hid (show Adj.Blk W7 w1.heap.size 34 #[.int .i64 r3.1.st, .slice E3 r3.1.dims.length en3, .slice E3' r3.1.steps.length en3'] by rw [← hW7]; exact ((HY7.out.far (p := ⟨w2.heap.size, 0, none⟩) (by simp; omega) _).far (p := ⟨w2.heap.size, 1, none⟩) (by simp; omega) _).far (p := ⟨w2.heap.size, 2, none⟩) (by simp; omega) _)
  have HZ8 := Lib.hid (show Adj.Blk W7 w2.heap.size 34 #[.int .i64 r3.1.st, .slice E4 r3.1.dims.length en4, .slice E4' r3.1.steps.length en4'] by rw [← hW7]; exact ((HZ7.out.set_ 0 _).set_ 1 _).set_ 2 _)
  have HB7 := Lib.hid (show Below w.heap.size w W7 by rw [← hW7]; exact Vw.three HB6.out (by omega) _ _ _)
  have HVA := Lib.hid (show Vw.ViewAt W7 W7.heap.size (.agg #[.int .i64 r3.1.st, .slice E3 r3.1.dims.length en3, .slice E3' r3.1.steps.length en3']) r3.1 by
    rw [← hW7]; exact Vw.view_set3 HV6.out (cc := w2.heap.size) rfl (fun b off e hp => by have := HAW.out.1 b off e hp; omega) (fun b off e hp => by have := HAW.out.2 b off e hp; omega) (by simp) _ _ _)
  have HVB := Lib.hid (show Vw.ViewAt W7 W7.heap.size (.agg #[.int .i64 r3.1.st, .slice E4 r3.1.dims.length en4, .slice E4' r3.1.steps.length en4']) r3.1 by
    rw [← hW7]; exact Vw.view_set3 HV4.out (cc := w2.heap.size) rfl (fun b off e hp => by have := HAW2.out.1 b off e hp; omega) (fun b off e hp => by have := HAW2.out.2 b off e hp; omega) (by simp) _ _ _)
  have q0 : (((w6.setCell ⟨w2.heap.size, 0, none⟩ (.int .i64 r3.1.st)).setCell ⟨w2.heap.size, 1, none⟩ (.slice E4 r3.1.dims.length en4)).setCell ⟨w2.heap.size, 2, none⟩ (.slice E4' r3.1.steps.length en4')).cell? ⟨w1.heap.size, 0, none⟩ = some (.int .i64 r3.1.st) := by rw [hW7]; exact HY8.out.cell 0
  have q1 : (((w6.setCell ⟨w2.heap.size, 0, none⟩ (.int .i64 r3.1.st)).setCell ⟨w2.heap.size, 1, none⟩ (.slice E4 r3.1.dims.length en4)).setCell ⟨w2.heap.size, 2, none⟩ (.slice E4' r3.1.steps.length en4')).cell? ⟨w1.heap.size, 1, none⟩ = some (.slice E3 r3.1.dims.length en3) := by rw [hW7]; exact HY8.out.cell 1
  have q2 : (((w6.setCell ⟨w2.heap.size, 0, none⟩ (.int .i64 r3.1.st)).setCell ⟨w2.heap.size, 1, none⟩ (.slice E4 r3.1.dims.length en4)).setCell ⟨w2.heap.size, 2, none⟩ (.slice E4' r3.1.steps.length en4')).cell? ⟨w1.heap.size, 2, none⟩ = some (.slice E3' r3.1.steps.length en3') := by rw [hW7]; exact HY8.out.cell 2
  have HW7 := Lib.hid hW7
  clear hW7
  go_wp2_with fail
  rw [HW7.out]
  clear q0 q1 q2 cy0 cy1 cy2 cz0 cz1 cz2 fz0 fz1 fz2 HW7
  refine (HS.out _ _ _ _ HVA.out HVB.out).mono ?_
  rintro e w8 ⟨rfl, hb8⟩
  have hq : (r3.2 == r3.2) = true := by simp
  go_wp2_with fail
  go_ret
  exact ⟨rfl, HB7.out.trans (hb8.mono HB7.out.size)⟩

theorem lifted (os : Os) (started : os.Started) (H : Type) (enc : TypeId × Value → H) :
    ReturnsInHanded {} Try.checked os 7 .any (Rows.viewCutsSpec.pre6 enc Try.prog Try.f7 Rows.viewCutsRow.domain false) (Rows.viewCutsSpec.post enc Try.prog Try.f7 false true false false) := by
  refine Adj.law_lifted (C := Try.checked) (s := Rows.viewCutsSpec) own started (by kernel_rfl) Try.func7 laid rfl rfl Try.underlying4
      (by rw [Try.params7]; intro t ht; simp only [List.mem_cons, List.not_mem_nil, or_false] at ht; rcases ht with rfl | rfl | rfl | rfl | rfl | rfl <;> exact ⟨by kernel_rfl, of_decide_eq_true (by kernel_rfl)⟩)
      (by intro ds hd; match ds, hd with | [d1, d2, d3, d4, d5, d6], _ => exact ⟨rfl, rfl, rfl⟩)
      (ChangeSpec.witness6 (enc := enc) (C := Try.checked) false ⟨#[], #[.agg #[.int .i64 0, .slice none 0 0, .slice none 0 0], .slice none 0 0, .slice none 0 0, .slice none 0 0, .slice none 0 0, .slice none 0 0], []⟩ 8 (by kernel_rfl) (by kernel_rfl) (by kernel_rfl) (by kernel_rfl)) ?_
  intro W base args ds before hval0 hA0 _ hz0
  have hval : ∀ (j : Nat) t v, Try.f7.params[j]? = some t → args[j]? = some v → Value.okWide Try.prog W .any base t v := hval0
  have hA : DataW.TrodAll enc Try.prog W 0 (fun _ => true) true Try.f7.params.toList args.toList ds before := hA0
  rw [Try.params7] at hA hval
  obtain ⟨v0, v1, v2, v3, v4, v5, d0, d1, d2, d3, d4, d5, p0, p1, p2, p3, p4, p5, rfl, rfl, rfl, h0, h1, h2, h3, h4, h5⟩ := trodAll_six hA
  obtain ⟨u, hu⟩ := open_view (hval 0 34 v0 rfl rfl) h0
  obtain ⟨A1, l1, c1, rfl, hm1, hb1, hd1⟩ := open_list (hval 1 22 v1 rfl rfl) h1
  obtain ⟨A2, l2, c2, rfl, hm2, hb2, hd2⟩ := open_list (hval 2 22 v2 rfl rfl) h2
  obtain ⟨A3, l3, c3, rfl, hm3, hb3, hd3⟩ := open_list (hval 3 22 v3 rfl rfl) h3
  obtain ⟨A4, l4, c4, rfl, hm4, hb4, hd4⟩ := open_list (hval 4 22 v4 rfl rfl) h4
  obtain ⟨A5, l5, c5, rfl, hm5, hb5, hd5⟩ := open_list (hval 5 22 v5 rfl rfl) h5
  exact walk v0 u A1 A2 A3 A4 A5 c1 c2 c3 c4 c5 l1 l2 l3 l4 l5 W hu hb1 hd1 hb2 hd2 hb3 hd3 hb4 hd4 hb5 hd5 hm1 hm2 hm3 hm4 hm5

theorem proved : Rows.ViewCutsSaid :=
  OpenClaim.holds_of_wide 7 Try.f7 rfl rfl rfl rfl rfl rfl rfl ⟨rfl, rfl, rfl, rfl, rfl⟩ rfl rfl rfl rfl rfl (by kernel_rfl) Try.func7 (by kernel_rfl)
    (of_decide_eq_true (by kernel_rfl)) (by unfold Func.isWrapper; first | (rw [if_pos (by decide +kernel)]; kernel_rfl) | (rw [if_neg (by decide +kernel)]; exact ⟨rfl, rfl⟩))
    (fun os started H enc _ => lifted os started H enc)
#print axioms proved
end Go.Proofs.Ytkbmnefjnfihbaa.viewCuts
