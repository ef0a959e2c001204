/-
  The walk of array.Dims, kind by kind: kind 16 (dot); array.Dims whole: what an operation makes of arrays of some dimensions; The walk of graph.node: the dimensions of one node. Conditions: where the theorems name them.
-/
import Derived.Test.YtapedmpbkffopaaZ02
import Derived.Test.YtapedmpbkffopaaZ12
import Derived.Test.YtapedmpbkffopaaZ17
import Derived.Test.YtapedmpbkffopaaZ18
import Derived.Test.YtapedmpbkffopaaZ20
section
namespace Go.Proofs.Ytapedmpbkffopaa
set_option linter.unusedVariables false
open Go.RowKit Adj
set_option maxRecDepth 100000 in
set_option maxHeartbeats 8000000 in
theorem Ar.dims_dot (val : Value) (op : AdjD.Op) (A : Option Addr) (cap : Nat) (d f : List Int) (B : Nat) (w : World) (hB : B ≤ w.heap.size) (hsh : Ar.Short op) (hcap : 2 ≤ cap) (hcap2 : cap ≤ 9223372036854775807) (hop : Ar.OpAt w B val op) (hargs : Ar.ListsAt w B A [d, f]) (hk : op.kind = 16) :
    Calls Try.prog 25 #[val, .slice A 2 cap] w fun e w' => Ar.DimsOut w w' (AdjD.dims op [d, f]) e := by
 have hargs2 := hargs
 obtain ⟨b, off, rfl, hbB, hc⟩ := hargs2 (by simp)
 obtain ⟨v0, cv0, A0, c0, rfl, i0, l0, m0⟩ := hc 0 (by simp)
 obtain ⟨v1', cv1, A1, c1, rfl, i1', l1, m1⟩ := hc 1 (by simp)
 rw [Nat.add_zero] at cv0
 simp only [List.getElem_cons_zero, List.getElem_cons_succ] at cv0 i0 l0 cv1 i1' l1
 have HI0 := Lib.hid i0
 have HI1 := Lib.hid i1'
 have hbw : b < w.heap.size := by omega
 clear hc i0 i1'
 have HOP := Lib.hid (fun W (hb : Below w.heap.size w W) => (hop.below (hb.mono hB)).up (Nat.le_trans hB hb.size))
 have HAR := Lib.hid (fun W (hb : Below w.heap.size w W) => (hargs.below (hb.mono hB)).up (Nat.le_trans hB hb.size))
 obtain ⟨v1, v2, v3, v4, v5, rfl, ⟨D, cD, rfl, iD, lD, mD⟩, ⟨T, ct, rfl, it, lt, mt⟩, ⟨O, co, rfl, io, lo, mo⟩, ⟨I, ci, rfl, ii, li, mi⟩, ⟨S, cs, rfl, is, ls, ms⟩⟩ := hop
 have HL := Lib.hid (fun W (hb : Below w.heap.size w W) => And.intro ((iD.below (hb.mono hB)).up (Nat.le_trans hB hb.size)) (And.intro ((it.below (hb.mono hB)).up (Nat.le_trans hB hb.size)) (And.intro ((io.below (hb.mono hB)).up (Nat.le_trans hB hb.size)) (And.intro ((ii.below (hb.mono hB)).up (Nat.le_trans hB hb.size)) ((is.below (hb.mono hB)).up (Nat.le_trans hB hb.size))))))
 have HX := Lib.hid (Blk.new w 37 #[.int .i64 op.kind, .slice D op.dims.length cD, .slice T op.at_.length ct, .slice O op.lo.length co, .slice I op.hi.length ci, .slice S op.step.length cs, .int .i64 op.value])
 have HB := Lib.hid ((Below.refl w.heap.size w).alloc (Nat.le_refl _) (.cells #[.int .i64 op.kind, .slice D op.dims.length cD, .slice T op.at_.length ct, .slice O op.lo.length co, .slice I op.hi.length ci, .slice S op.step.length cs, .int .i64 op.value] 37))
 have hz0 : (w.alloc (.cells #[.int .i64 op.kind, .slice D op.dims.length cD, .slice T op.at_.length ct, .slice O op.lo.length co, .slice I op.hi.length ci, .slice S op.step.length cs, .int .i64 op.value] 37)).heap.size = w.heap.size + 1 := by simp
 obtain ⟨w0, hw0⟩ : ∃ w0, w.alloc (.cells #[.int .i64 op.kind, .slice D op.dims.length cD, .slice T op.at_.length ct, .slice O op.lo.length co, .slice I op.hi.length ci, .slice S op.step.length cs, .int .i64 op.value] 37) = w0 := ⟨_, rfl⟩
 rw [hw0] at HX HB hz0
 have HF := Lib.hid (Ar.fits_any _ op _ cap [d, f] w0.heap.size w0 (Nat.le_refl _) (by first | omega | simp) (HOP.out w0 HB.out) (HAR.out w0 HB.out))
 have HM := Lib.hid (show op.dims.length ≤ cD ∧ op.at_.length ≤ ct ∧ op.lo.length ≤ co ∧ op.hi.length ≤ ci ∧ op.step.length ≤ cs from ⟨lD, lt, lo, li, ls⟩)
 have HDT := Lib.hid (fun h => AdjD'.dims_tail (op := op) (args := [d, f]) h)
 have HDZ := Lib.hid (fun h => AdjD'.fit_sizes (op := op) (args := [d, f]) h)
 clear iD it io ii is lD lt lo li ls hargs
 simp only [List.length_cons, List.length_nil, Nat.zero_add, Nat.reduceAdd] at HF
 rw [hk] at HX HF HOP hw0 ⊢
 have b0 : w0.cell? ⟨w.heap.size, 0, none⟩ = some (.int .i64 16) := HX.out.cell 0
 have b1 : w0.cell? ⟨w.heap.size, 1, none⟩ = some (.slice D op.dims.length cD) := HX.out.cell 1
 have b2 : w0.cell? ⟨w.heap.size, 2, none⟩ = some (.slice T op.at_.length ct) := HX.out.cell 2
 have b3 : w0.cell? ⟨w.heap.size, 3, none⟩ = some (.slice O op.lo.length co) := HX.out.cell 3
 have b4 : w0.cell? ⟨w.heap.size, 4, none⟩ = some (.slice I op.hi.length ci) := HX.out.cell 4
 have b5 : w0.cell? ⟨w.heap.size, 5, none⟩ = some (.slice S op.step.length cs) := HX.out.cell 5
 have b6 : w0.cell? ⟨w.heap.size, 6, none⟩ = some (.int .i64 op.value) := HX.out.cell 6
 go_enter Try.func25, Try.ntmps25
 go_wp2_with fail
 ((with_reducible refine HF.out.mono ?_); rintro e w1 ⟨rfl, hb1⟩)
 have HB1 := Lib.hid (HB.out.trans (hb1.mono HB.out.size))
 have HX1 := Lib.hid (HX.out.below hb1 HX.out.lt)
 have hs1 : w.heap.size + 1 ≤ w1.heap.size := by rw [← hz0]; exact hb1.size
 clear hb1 HF hw0 b0 b1 b2 b3 b4 b5 b6
 by_cases hf : AdjD'.fitE op [d, f] ≠ 0
 ·have HV := Lib.hid (AdjD'.dims_fit hf)
  have hq : (AdjD'.fitE op [d, f] != 0) = true := by simpa using hf
  generalize AdjD'.fitE op [d, f] = f at hq HV hf
  clear hf HDT HDZ
  go_wp2_with fail
  go_ret2
  rw [HV.out]
  exact ⟨⟨_, rfl, Ar.FrAt.nil _ _⟩, HB1.out⟩
 have hf0 : AdjD'.fitE op [d, f] = 0 := by omega
 have HT := Lib.hid (HDT.out hf0)
 have HZ := Lib.hid (HDZ.out hf0)
 rw [hf0]
 have x0 : w1.cell? ⟨w.heap.size, 0, none⟩ = some (.int .i64 16) := HX1.out.cell 0
 have x1 : w1.cell? ⟨w.heap.size, 1, none⟩ = some (.slice D op.dims.length cD) := HX1.out.cell 1
 have x2 : w1.cell? ⟨w.heap.size, 2, none⟩ = some (.slice T op.at_.length ct) := HX1.out.cell 2
 have x3 : w1.cell? ⟨w.heap.size, 3, none⟩ = some (.slice O op.lo.length co) := HX1.out.cell 3
 have x4 : w1.cell? ⟨w.heap.size, 4, none⟩ = some (.slice I op.hi.length ci) := HX1.out.cell 4
 have x5 : w1.cell? ⟨w.heap.size, 5, none⟩ = some (.slice S op.step.length cs) := HX1.out.cell 5
 have x6 : w1.cell? ⟨w.heap.size, 6, none⟩ = some (.int .i64 op.value) := HX1.out.cell 6
 clear hf hf0 HDT HDZ
 have hz := HZ.out d (by simp)
 have hzf := HZ.out f (by simp)
 obtain ⟨hd6, hdp, _⟩ := AdjV.size_fine hz
 obtain ⟨hf6, hfp, _⟩ := AdjV.size_fine hzf
 have HDP := Lib.hid (And.intro hdp hfp)
 have ca0 := (HB1.out.cell (p := ⟨b, off, none⟩) (by show b < w.heap.size; omega)).trans cv0
 have ca1 := (HB1.out.cell (p := ⟨b, off + 1, none⟩) (by show b < w.heap.size; omega)).trans cv1
 have i1 : (0 : Int) < 2 := by omega
 have i2 : (1 : Int) < 2 := by omega
 clear cv0 cv1 hz hzf hdp hfp
 have HRU := Lib.hid (show AdjD.ruled op [d, f] = AdjD.pairDims op d f by rw [AdjD.pair_eq]; unfold AdjD.ruled; simp [hk])
 obtain ⟨⟨l, x⟩, hR⟩ : ∃ R, AdjD.pairDims op d f = R := ⟨_, rfl⟩
 obtain ⟨Z, hZ⟩ : ∃ Z, Z = Obj.cells #[.slice none 0 0, .slice none 0 0, .slice none 0 0, .int .i64 0, .int .i64 0, .int .i64 0, .int .i64 0] 62 (0, 0) := ⟨_, rfl⟩
 have AL := Blk.new w1 62 #[.slice none 0 0, .slice none 0 0, .slice none 0 0, .int .i64 0, .int .i64 0, .int .i64 0, .int .i64 0]
 have HX2 := HX1.out.alloc Z
 have HB2a := Lib.hid (HB1.out.alloc (by omega) Z)
 have ca2 := (World.cell?_alloc_lt w1 Z ⟨b, off, none⟩ (ar_lt ca0)).trans ca0
 have ca3 := (World.cell?_alloc_lt w1 Z ⟨b, off + 1, none⟩ (ar_lt ca1)).trans ca1
 have hsa : (w1.alloc Z).heap.size = w1.heap.size + 1 := by simp
 have y0 : (w1.alloc Z).cell? ⟨w.heap.size, 0, none⟩ = some (.int .i64 16) := HX2.cell 0
 have y1 : (w1.alloc Z).cell? ⟨w.heap.size, 1, none⟩ = some (.slice D op.dims.length cD) := HX2.cell 1
 have y2 : (w1.alloc Z).cell? ⟨w.heap.size, 2, none⟩ = some (.slice T op.at_.length ct) := HX2.cell 2
 have y3 : (w1.alloc Z).cell? ⟨w.heap.size, 3, none⟩ = some (.slice O op.lo.length co) := HX2.cell 3
 have y4 : (w1.alloc Z).cell? ⟨w.heap.size, 4, none⟩ = some (.slice I op.hi.length ci) := HX2.cell 4
 have y5 : (w1.alloc Z).cell? ⟨w.heap.size, 5, none⟩ = some (.slice S op.step.length cs) := HX2.cell 5
 have y6 : (w1.alloc Z).cell? ⟨w.heap.size, 6, none⟩ = some (.int .i64 op.value) := HX2.cell 6
 subst hZ
 have HN := Lib.hid AL
 obtain ⟨wa, hwa⟩ : ∃ wa, w1.alloc (.cells #[.slice none 0 0, .slice none 0 0, .slice none 0 0, .int .i64 0, .int .i64 0, .int .i64 0, .int .i64 0] 62) = wa := ⟨_, rfl⟩
 obtain ⟨P, hP⟩ : ∃ P, w1.heap.size = P := ⟨_, rfl⟩
 rw [hwa] at HN HB2a ca2 ca3 hsa y0 y1 y2 y3 y4 y5 y6
 rw [hP] at HN hsa hs1
 have HWA := Lib.hid hwa
 have HPP := Lib.hid hP
 clear HX2 AL hwa hP ca0 ca1
 go_wp2_with fail
 simp only [HWA.out, HPP.out]
 refine wp_region_T (fun w' => w'.cell? ⟨w.heap.size, 0, none⟩ = some (.int .i64 16) ∧ w'.cell? ⟨w.heap.size, 1, none⟩ = some (.slice D op.dims.length cD) ∧ w'.cell? ⟨w.heap.size, 2, none⟩ = some (.slice T op.at_.length ct) ∧ w'.cell? ⟨w.heap.size, 3, none⟩ = some (.slice O op.lo.length co) ∧ w'.cell? ⟨w.heap.size, 4, none⟩ = some (.slice I op.hi.length ci) ∧ w'.cell? ⟨w.heap.size, 5, none⟩ = some (.slice S op.step.length cs) ∧ w'.cell? ⟨w.heap.size, 6, none⟩ = some (.int .i64 op.value) ∧ w'.cell? ⟨b, off, none⟩ = some (.slice A0 d.length c0) ∧ w'.cell? ⟨b, off + 1, none⟩ = some (.slice A1 f.length c1)) 7 (fun _ => True) 7 13 rfl (by kernel_rfl) ⟨⟨y0, y1, y2, y3, y4, y5, y6, ca2, ca3⟩, trivial⟩ (fun hHeld => ?_)
 simp only [List.replicate_succ, List.replicate_zero]
 refine tk (v := ?_) [] 0 88 hHeld ?_ ?_; rotate_left; (intro w h; (try dsimp only at h); go_simp; try with_reducible rfl); try simp only [Act.put, zA, zB, zC]
 refine tk (v := ?_) [2, 3] 1 89 hHeld ?_ ?_; rotate_left; (intro w h; (try dsimp only at h); go_simp; try with_reducible rfl); try simp only [Act.put, zA, zB, zC]
 refine tk (v := ?_) [3] 2 90 hHeld ?_ ?_; rotate_left; (intro w h; (try dsimp only at h); go_simp; try with_reducible rfl); try simp only [Act.put, zA, zB, zC]
 refine tk (v := ?_) [] 3 91 hHeld ?_ ?_; rotate_left; (intro w h; (try dsimp only at h); go_simp; try with_reducible rfl); try simp only [Act.put, zA, zB, zC]
 refine tk (v := ?_) [5, 6] 4 92 hHeld ?_ ?_; rotate_left; (intro w h; (try dsimp only at h); go_simp; try with_reducible rfl); try simp only [Act.put, zA, zB, zC]
 refine tk (v := ?_) [6] 5 93 hHeld ?_ ?_; rotate_left; (intro w h; (try dsimp only at h); go_simp; try with_reducible rfl); try simp only [Act.put, zA, zB, zC]
 refine tk (v := ?_) [] 6 94 hHeld ?_ ?_; rotate_left; (intro w h; (try dsimp only at h); go_simp; try with_reducible rfl); try simp only [Act.put, zA, zB, zC]
 have HBq := Lib.hid (show Below w.heap.size w wa.drew from HB2a.out.drew)
 have HNq := Lib.hid HN.out.drew
 have hsq : wa.drew.heap.size = P + 1 := hsa
 clear hHeld x0 x1 x2 x3 x4 x5 x6 y0 y1 y2 y3 y4 y5 y6 ca2 ca3
 generalize wa.drew = wq at HBq HNq hsq ⊢
 have HC := Lib.hid (Ar.pair_any _ op A0 A1 c0 c1 d f wq.heap.size wq (Nat.le_refl _) hd6 hf6 HDP.out.1 HDP.out.2 ⟨hsh.2.1, hsh.2.2.1, hsh.2.2.2.1, hsh.2.2.2.2⟩ (HOP.out wq HBq.out) ((HI0.out.below (HBq.out.mono hB)).up (Nat.le_trans hB HBq.out.size)) ((HI1.out.below (HBq.out.mono hB)).up (Nat.le_trans hB HBq.out.size)))
 rw [hR] at HC HRU
 dsimp only at HC
 clear hR
 refine wpT_one 7 (by kernel_rfl) (stepT_late rfl rfl (by kernel_rfl) (fun K hK => ?_))
 go_simp
 ((with_reducible refine HC.out.mono ?_); rintro e w3 ⟨pA, nA, kA, pB, nB, kB, vd, z3, z4, z5, rfl, ho3, hb3⟩)
 have HO3 := Lib.hid ho3
 obtain ⟨G1, k1, hvd, _⟩ := Vw.own_any ho3
 subst hvd
 have HN3 := Lib.hid (HNq.out.below hb3 HNq.out.lt)
 have HB3 := Lib.hid (HBq.out.trans (hb3.mono HBq.out.size))
 have hs3 : P < w3.heap.size := HN3.out.lt
 clear ho3 hb3
 generalize Ar.pairInner op d f = z6
 try go_simp
 refine hK.out _ _ trivial (fun hHeld => ?_)
 clear hK K
 try simp only [zA, zB, zC]
 refine tp (v := ?_) 8 87 (Till.late (by kernel_rfl) hHeld) ?_ ?_; rotate_left; (intro w; go_simp; try with_reducible rfl); try simp only [Act.put, zA, zB, zC]
 refine tp (v := ?_) 9 96 (Till.late (by kernel_rfl) hHeld) ?_ ?_; rotate_left; (intro w; go_simp; try with_reducible rfl); try simp only [Act.put, zA, zB, zC]
 refine tp (v := ?_) 10 97 (Till.late (by kernel_rfl) hHeld) ?_ ?_; rotate_left; (intro w; go_simp; try with_reducible rfl); try simp only [Act.put, zA, zB, zC]
 have r0 : w3.cell? ⟨P, 0, none⟩ = some (.slice none 0 0) := HN3.out.cell 0
 have r1 : w3.cell? ⟨P, 1, none⟩ = some (.slice none 0 0) := HN3.out.cell 1
 have r2 : w3.cell? ⟨P, 2, none⟩ = some (.slice none 0 0) := HN3.out.cell 2
 have r3 : w3.cell? ⟨P, 3, none⟩ = some (.int .i64 0) := HN3.out.cell 3
 have r4 : w3.cell? ⟨P, 4, none⟩ = some (.int .i64 0) := HN3.out.cell 4
 have r5 : w3.cell? ⟨P, 5, none⟩ = some (.int .i64 0) := HN3.out.cell 5
 have r6 : w3.cell? ⟨P, 6, none⟩ = some (.int .i64 0) := HN3.out.cell 6
 have f0 := HN3.out.frozen 0
 have f1 := HN3.out.frozen 1
 have f2 := HN3.out.frozen 2
 have f3 := HN3.out.frozen 3
 have f4 := HN3.out.frozen 4
 have f5 := HN3.out.frozen 5
 have f6 := HN3.out.frozen 6
 have HB4 := Lib.hid (Ar.seven HB3.out (show w.heap.size ≤ P by omega) (.slice pA nA kA) (.slice pB nB kB) (.slice G1 l.length k1) (.int .i64 z3) (.int .i64 z4) (.int .i64 z5) (.int .i64 z6))
 have HSL := Lib.hid (Ar.fr_own (N := w.heap.size) (Ar.own_seven HO3.out (show P < wq.heap.size by omega) (.slice pA nA kA) (.slice pB nB kB) (.slice G1 l.length k1) (.int .i64 z3) (.int .i64 z4) (.int .i64 z5) (.int .i64 z6)) HBq.out.size)
 obtain ⟨A2, c2, e2, i2, l2, m2⟩ := HSL.out.1
 simp only [Value.slice.injEq, true_and] at e2
 obtain ⟨rfl, rfl⟩ := e2
 clear hHeld
 by_cases he : x = 0
 ·subst he
  refine wpT_tail [_, _] 11 [12] rfl (by kernel_rfl) ?_
  have HTA := Lib.hid (show AdjD.dims op [d, f] = AdjD'.tail (l, 0) from by rw [HT.out, HRU.out])
  have HSZ := Lib.hid (Size_any G1 k1 l (((((((w3.setCell ⟨P, 0, none⟩ (.slice pA nA kA)).setCell ⟨P, 1, none⟩ (.slice pB nB kB)).setCell ⟨P, 2, none⟩ (.slice G1 l.length k1)).setCell ⟨P, 3, none⟩ (.int .i64 z3)).setCell ⟨P, 4, none⟩ (.int .i64 z4)).setCell ⟨P, 5, none⟩ (.int .i64 z5)).setCell ⟨P, 6, none⟩ (.int .i64 z6)).heap.size (((((((w3.setCell ⟨P, 0, none⟩ (.slice pA nA kA)).setCell ⟨P, 1, none⟩ (.slice pB nB kB)).setCell ⟨P, 2, none⟩ (.slice G1 l.length k1)).setCell ⟨P, 3, none⟩ (.int .i64 z3)).setCell ⟨P, 4, none⟩ (.int .i64 z4)).setCell ⟨P, 5, none⟩ (.int .i64 z5)).setCell ⟨P, 6, none⟩ (.int .i64 z6)) (by omega) i2)
  by_cases hsz : (AdjV.size l).2 ≠ 0
  ·have hq2 : ((AdjV.size l).2 != 0) = true := by simpa using hsz
   have HV := Lib.hid (show AdjD.dims op [d, f] = ([], (AdjV.size l).2) by rw [HTA.out]; exact AdjD'.tail_size hsz)
   clear hsz
   go_wp2_with fail
   refine HSZ.out.mono ?_
   rintro e w7 ⟨rfl, rfl⟩
   simp only [Vw.sizeR]
   go_wp2_with fail
   go_ret2
   rw [HV.out]
   exact ⟨⟨_, rfl, Ar.FrAt.nil _ _⟩, HB4.out⟩
  ·have hq2 : ((AdjV.size l).2 != 0) = false := by simpa using hsz
   have HV := Lib.hid (show AdjD.dims op [d, f] = (l, 0) by rw [HTA.out]; exact AdjD'.tail_ok (by omega))
   have h0 : (AdjV.size l).2 = 0 := by omega
   clear hsz
   go_wp2_with fail
   refine HSZ.out.mono ?_
   rintro e w7 ⟨rfl, rfl⟩
   simp only [Vw.sizeR]
   go_wp2_with fail
   go_ret2
   rw [HV.out]
   exact ⟨⟨_, rfl, HSL.out⟩, HB4.out⟩
 ·have hq : (x != 0) = true := by simpa using he
  have hq3 : (x == 0) = false := by simpa using he
  have HV := Lib.hid (show AdjD.dims op [d, f] = ([], x) by rw [HT.out, HRU.out]; exact AdjD'.tail_err he)
  clear he
  refine wpT_tail [_, _] 11 [12] rfl (by kernel_rfl) ?_
  go_wp2_with fail
  go_ret2
  rw [HV.out]
  exact ⟨⟨_, rfl, Ar.FrAt.nil _ _⟩, HB4.out⟩
end Go.Proofs.Ytapedmpbkffopaa
end
section
namespace Go.Proofs.Ytapedmpbkffopaa
set_option linter.unusedVariables false
open Go.RowKit Adj
set_option maxRecDepth 100000 in
set_option maxHeartbeats 8000000 in
theorem Ar.dims_bad (val : Value) (op : AdjD.Op) (A : Option Addr) (cap : Nat) (args : List (List Int)) (B : Nat) (w : World) (hB : B ≤ w.heap.size) (hn1 : args.length ≤ 8388608) (hop : Ar.OpAt w B val op) (hargs : Ar.ListsAt w B A args) (hfit : AdjD'.fitE op args ≠ 0) :
    Calls Try.prog 25 #[val, .slice A args.length cap] w fun e w' => Ar.DimsOut w w' (AdjD.dims op args) e := by
 obtain ⟨K, hk⟩ : ∃ K, op.kind = K := ⟨_, rfl⟩
 have HOP := Lib.hid (fun W (hb : Below w.heap.size w W) => (hop.below (hb.mono hB)).up (Nat.le_trans hB hb.size))
 have HAR := Lib.hid (fun W (hb : Below w.heap.size w W) => (hargs.below (hb.mono hB)).up (Nat.le_trans hB hb.size))
 obtain ⟨v1, v2, v3, v4, v5, rfl, ⟨D, cD, rfl, iD, lD, mD⟩, ⟨T, ct, rfl, it, lt, mt⟩, ⟨O, co, rfl, io, lo, mo⟩, ⟨I, ci, rfl, ii, li, mi⟩, ⟨S, cs, rfl, is, ls, ms⟩⟩ := hop
 have HL := Lib.hid (fun W (hb : Below w.heap.size w W) => And.intro ((iD.below (hb.mono hB)).up (Nat.le_trans hB hb.size)) (And.intro ((it.below (hb.mono hB)).up (Nat.le_trans hB hb.size)) (And.intro ((io.below (hb.mono hB)).up (Nat.le_trans hB hb.size)) (And.intro ((ii.below (hb.mono hB)).up (Nat.le_trans hB hb.size)) ((is.below (hb.mono hB)).up (Nat.le_trans hB hb.size))))))
 have HX := Lib.hid (Blk.new w 37 #[.int .i64 op.kind, .slice D op.dims.length cD, .slice T op.at_.length ct, .slice O op.lo.length co, .slice I op.hi.length ci, .slice S op.step.length cs, .int .i64 op.value])
 have HB := Lib.hid ((Below.refl w.heap.size w).alloc (Nat.le_refl _) (.cells #[.int .i64 op.kind, .slice D op.dims.length cD, .slice T op.at_.length ct, .slice O op.lo.length co, .slice I op.hi.length ci, .slice S op.step.length cs, .int .i64 op.value] 37))
 have hz0 : (w.alloc (.cells #[.int .i64 op.kind, .slice D op.dims.length cD, .slice T op.at_.length ct, .slice O op.lo.length co, .slice I op.hi.length ci, .slice S op.step.length cs, .int .i64 op.value] 37)).heap.size = w.heap.size + 1 := by simp
 obtain ⟨w0, hw0⟩ : ∃ w0, w.alloc (.cells #[.int .i64 op.kind, .slice D op.dims.length cD, .slice T op.at_.length ct, .slice O op.lo.length co, .slice I op.hi.length ci, .slice S op.step.length cs, .int .i64 op.value] 37) = w0 := ⟨_, rfl⟩
 rw [hw0] at HX HB hz0
 have HF := Lib.hid (Ar.fits_any _ op _ cap args w0.heap.size w0 (Nat.le_refl _) (by first | omega | simp) (HOP.out w0 HB.out) (HAR.out w0 HB.out))
 have HM := Lib.hid (show op.dims.length ≤ cD ∧ op.at_.length ≤ ct ∧ op.lo.length ≤ co ∧ op.hi.length ≤ ci ∧ op.step.length ≤ cs from ⟨lD, lt, lo, li, ls⟩)
 have HDT := Lib.hid (fun h => AdjD'.dims_tail (op := op) (args := args) h)
 have HDZ := Lib.hid (fun h => AdjD'.fit_sizes (op := op) (args := args) h)
 clear iD it io ii is lD lt lo li ls hargs
 skip
 rw [hk] at HX HF HOP hw0 ⊢
 have b0 : w0.cell? ⟨w.heap.size, 0, none⟩ = some (.int .i64 K) := HX.out.cell 0
 have b1 : w0.cell? ⟨w.heap.size, 1, none⟩ = some (.slice D op.dims.length cD) := HX.out.cell 1
 have b2 : w0.cell? ⟨w.heap.size, 2, none⟩ = some (.slice T op.at_.length ct) := HX.out.cell 2
 have b3 : w0.cell? ⟨w.heap.size, 3, none⟩ = some (.slice O op.lo.length co) := HX.out.cell 3
 have b4 : w0.cell? ⟨w.heap.size, 4, none⟩ = some (.slice I op.hi.length ci) := HX.out.cell 4
 have b5 : w0.cell? ⟨w.heap.size, 5, none⟩ = some (.slice S op.step.length cs) := HX.out.cell 5
 have b6 : w0.cell? ⟨w.heap.size, 6, none⟩ = some (.int .i64 op.value) := HX.out.cell 6
 go_enter Try.func25, Try.ntmps25
 go_wp2_with fail
 ((with_reducible refine HF.out.mono ?_); rintro e w1 ⟨rfl, hb1⟩)
 have HB1 := Lib.hid (HB.out.trans (hb1.mono HB.out.size))
 have HX1 := Lib.hid (HX.out.below hb1 HX.out.lt)
 have hs1 : w.heap.size + 1 ≤ w1.heap.size := by rw [← hz0]; exact hb1.size
 clear hb1 HF hw0 b0 b1 b2 b3 b4 b5 b6
 by_cases hf : AdjD'.fitE op args ≠ 0
 ·have HV := Lib.hid (AdjD'.dims_fit hf)
  have hq : (AdjD'.fitE op args != 0) = true := by simpa using hf
  generalize AdjD'.fitE op args = f at hq HV hf
  clear hf HDT HDZ
  go_wp2_with fail
  go_ret2
  rw [HV.out]
  exact ⟨⟨_, rfl, Ar.FrAt.nil _ _⟩, HB1.out⟩
 exact absurd (by omega) hfit
theorem Ar.dims_any (val : Value) (op : AdjD.Op) (A : Option Addr) (cap : Nat) (args : List (List Int)) (B : Nat) (w : World) (hB : B ≤ w.heap.size) (hsh : Ar.Short op) (hn1 : args.length ≤ 8388608) (hcap : args.length ≤ cap) (hcap2 : cap ≤ 9223372036854775807) (hop : Ar.OpAt w B val op) (hargs : Ar.ListsAt w B A args) :
    Calls Try.prog 25 #[val, .slice A args.length cap] w fun e w' => Ar.DimsOut w w' (AdjD.dims op args) e := by
 by_cases hf : AdjD'.fitE op args = 0
 ·obtain ⟨h1, _⟩ := AdjD'.fit_zero hf
  unfold AdjD.right at h1
  by_cases k2 : op.kind = 2
  ·rw [if_pos k2] at h1
   obtain rfl : args = [] := List.length_eq_zero_iff.1 (by by_cases e : args.length = 0; exact e; rw [if_neg e] at h1; cases h1)
   exact Ar.dims_fill val op A cap B w hB hsh hop hargs k2
  rw [if_neg k2] at h1
  by_cases k3 : op.kind = 3 ∨ op.kind = 4 ∨ op.kind = 5 ∨ op.kind = 6 ∨ op.kind = 7 ∨ op.kind = 16 ∨ op.kind = 18 ∨ op.kind = 19
  ·rw [if_pos k3] at h1
   have hn : args.length = 2 := by by_cases e : args.length = 2; exact e; rw [if_neg e] at h1; cases h1
   have h2 : 2 ≤ args.length := by omega
   obtain ⟨d, f, rfl⟩ : ∃ d f, args = [d, f] := by
    match args, hn with
    | [d, f], _ => exact ⟨d, f, rfl⟩
   rcases k3 with k | k | k | k | k | k | k | k
   ·exact Ar.dims_same val op A cap [d, f] B w hB hsh h2 hcap hcap2 hop hargs 3 (by simp) k
   ·exact Ar.dims_same val op A cap [d, f] B w hB hsh h2 hcap hcap2 hop hargs 4 (by simp) k
   ·exact Ar.dims_same val op A cap [d, f] B w hB hsh h2 hcap hcap2 hop hargs 5 (by simp) k
   ·exact Ar.dims_same val op A cap [d, f] B w hB hsh h2 hcap hcap2 hop hargs 6 (by simp) k
   ·exact Ar.dims_same val op A cap [d, f] B w hB hsh h2 hcap hcap2 hop hargs 7 (by simp) k
   ·exact Ar.dims_dot val op A cap d f B w hB hsh hcap hcap2 hop hargs k
   ·exact Ar.dims_take val op A cap d f B w hB hsh hcap hcap2 hop hargs k
   ·exact Ar.dims_put val op A cap d f B w hB hsh hcap hcap2 hop hargs k
  rw [if_neg k3] at h1
  by_cases k8 : op.kind = 8
  ·rw [if_pos k8] at h1
   have hn : args.length = 3 := by by_cases e : args.length = 3; exact e; rw [if_neg e] at h1; cases h1
   exact Ar.dims_same val op A cap args B w hB hsh (by omega) hcap hcap2 hop hargs 8 (by simp) k8
  rw [if_neg k8] at h1
  by_cases k9 : op.kind = 9 ∨ op.kind = 10 ∨ op.kind = 11 ∨ op.kind = 12 ∨ op.kind = 13 ∨ op.kind = 14 ∨ op.kind = 15
  ·rw [if_pos k9] at h1
   have hn : args.length = 1 := by by_cases e : args.length = 1; exact e; rw [if_neg e] at h1; cases h1
   obtain ⟨d, rfl⟩ := List.length_eq_one_iff.1 hn
   rcases k9 with k | k | k | k | k | k | k
   ·exact Ar.dims_look val op A cap d B w hB hsh hcap hcap2 hop hargs 9 (by simp) k
   ·exact Ar.dims_sum val op A cap d B w hB hsh hcap hcap2 hop hargs k
   ·exact Ar.dims_look val op A cap d B w hB hsh hcap hcap2 hop hargs 11 (by simp) k
   ·exact Ar.dims_look val op A cap d B w hB hsh hcap hcap2 hop hargs 12 (by simp) k
   ·exact Ar.dims_look val op A cap d B w hB hsh hcap hcap2 hop hargs 13 (by simp) k
   ·exact Ar.dims_pad val op A cap d B w hB hsh hcap hcap2 hop hargs k
   ·exact Ar.dims_look val op A cap d B w hB hsh hcap hcap2 hop hargs 15 (by simp) k
  rw [if_neg k9] at h1
  by_cases k17 : op.kind = 17
  ·rw [if_pos k17] at h1
   have hn : 0 < args.length := by by_cases e : args.length = 0; rw [if_pos e] at h1; cases h1; omega
   exact Ar.dims_join val op A cap args B w hB hsh hn hn1 hcap hcap2 hop hargs k17
  ·rw [if_neg k17] at h1; cases h1
 ·exact Ar.dims_bad val op A cap args B w hB hn1 hop hargs hf
end Go.Proofs.Ytapedmpbkffopaa
end
section
namespace Go.Proofs.Ytapedmpbkffopaa
set_option linter.unusedVariables false
open Go.RowKit Adj
theorem Try.infoRow : (Try.prog.info? 23).map (fun i => (i.zero, i.size, i.bytes)) = some (some (.slice none 0 0), 1, 24) := by kernel_rfl
namespace Gr
def NodeOut (w w' : World) (r : List Int × Int) (e : Ending) : Prop := (∃ G n c, e = .returned (.tuple #[.slice G n c, .int .i64 r.2]) ∧ (r.2 = 0 → Ar.FrAt w.heap.size w' (.slice G n c) r.1)) ∧ Below w.heap.size w w'
def Vals (w : World) (B : Nat) (vs : List Value) (ls : List (List Int)) : Prop := vs.length = ls.length ∧ ∀ j (h1 : j < vs.length) (h2 : j < ls.length), Ar.SlAt w B vs[j] ls[j]
theorem Vals.snoc {w : World} {B : Nat} {vs : List Value} {ls : List (List Int)} {v : Value} {l : List Int} (h : Vals w B vs ls) (hv : Ar.SlAt w B v l) : Vals w B (vs ++ [v]) (ls ++ [l]) := by
 refine ⟨by simp [h.1], fun j h1 h2 => ?_⟩
 by_cases hj : j < vs.length
 ·rw [List.getElem_append_left hj, List.getElem_append_left (by have := h.1; omega)]
  exact h.2 j hj _
 ·have e1 : j = vs.length := by simp at h1; omega
  have g1 : (vs ++ [v])[j] = v := by
   rw [List.getElem_append_right (by omega)]; simp
  have g2 : (ls ++ [l])[j] = l := by
   rw [List.getElem_append_right (by have := h.1; omega)]; simp
  rw [g1, g2]; exact hv
theorem Vals.below {w w' : World} {B : Nat} {vs : List Value} {ls : List (List Int)} (h : Vals w B vs ls) (hb : Below B w w') : Vals w' B vs ls := ⟨h.1, fun j h1 h2 => (h.2 j h1 h2).below hb⟩
theorem Vals.up {w : World} {B B' : Nat} {vs : List Value} {ls : List (List Int)} (h : Vals w B vs ls) (hb : B ≤ B') : Vals w B' vs ls := ⟨h.1, fun j h1 h2 => (h.2 j h1 h2).up hb⟩
theorem Vals.lists {w : World} {B base n c : Nat} {A : Option Addr} {vs : List Value} {ls : List (List Int)} (h : Vals w B vs ls) (ho : w.ownsRow base 23 1 (.slice A n c) n vs) (hB : B ≤ w.heap.size) : Ar.ListsAt w w.heap.size A ls := fun hp => by
 have hn : vs.length = n := by have := ho.1; omega
 obtain ⟨g, cap, hv, _, hlt⟩ := ho.form (by have := h.1; omega)
 injection hv with hA
 subst hA
 refine ⟨g, 0, rfl, hlt, fun i hi => ?_⟩
 have hi2 : i < vs.length := by have := h.1; omega
 refine ⟨vs[i], ?_, (h.2 i hi2 hi).up hB⟩
 have h2 := ho.cells (g := g) rfl i vs[i] (List.getElem?_eq_getElem hi2)
 rw [Nat.zero_add]
 unfold Addr.add at h2
 split at h2
 ·rename_i e; subst e; exact h2
 ·simpa using h2
theorem own_cap {w : World} {base size n n' c : Nat} {e : TypeId} {A : Option Addr} {xs : List Value} (h : w.ownsRow base e size (.slice A n c) n' xs) : c ≤ 9223372036854775807 := by
 rcases h.2 with ⟨e1, _⟩ | ⟨g, cap, cur, e1, hb, hh, hc, hm, hs, ht⟩
 ·injection e1 with _ _ e3; omega
 ·injection e1 with _ _ e3; subst e3; unfold maxLen at hm; omega
end Gr
set_option maxRecDepth 100000 in
set_option maxHeartbeats 8000000 in
theorem Gr.node_any (val : Value) (x : AdjD.Node) (i ps : Nat) (A : Option Addr) (co : Nat) (out : List (List Int)) (B : Nat) (w : World) (hB : B ≤ w.heap.size) (hsh : Ar.Short x.op) (hna : x.args.length ≤ 4194304) (hio : out.length = i) (hi : i ≤ 4096) (hps : ps ≤ 4096) (hco : i ≤ co) (hco2 : co ≤ 9223372036854775807) (hx : Gr.NodeV w B val x) (ho : Ar.ListsAt w B A out) :
    Calls Try.prog 20 #[val, .int .i64 (i : Int), .int .i64 (ps : Int), .slice A i co] w fun e w' => Gr.NodeOut w w' (AdjD.nodeDims x i ps out) e := by
 obtain ⟨v1, v2, v3, v4, v5, v6, rfl, ⟨D, cD, rfl, iD, lD, mD⟩, ⟨T, ct, rfl, it, lt, mt⟩, ⟨O, co', rfl, io, lo, mo⟩, ⟨I, ci, rfl, ii, li, mi⟩, ⟨S, cs, rfl, is, ls, ms⟩, ⟨Ga, cg, rfl, ig, lg, mg⟩⟩ := hx
 have HOP := Lib.hid (fun W (hb : Below w.heap.size w W) => show Ar.OpAt W W.heap.size (.agg #[.int .i64 x.op.kind, .slice D x.op.dims.length cD, .slice T x.op.at_.length ct, .slice O x.op.lo.length co', .slice I x.op.hi.length ci, .slice S x.op.step.length cs, .int .i64 x.op.value]) x.op from
  ⟨_, _, _, _, _, rfl, ⟨D, cD, rfl, (iD.below (hb.mono hB)).up (Nat.le_trans hB hb.size), lD, mD⟩, ⟨T, ct, rfl, (it.below (hb.mono hB)).up (Nat.le_trans hB hb.size), lt, mt⟩, ⟨O, co', rfl, (io.below (hb.mono hB)).up (Nat.le_trans hB hb.size), lo, mo⟩, ⟨I, ci, rfl, (ii.below (hb.mono hB)).up (Nat.le_trans hB hb.size), li, mi⟩, ⟨S, cs, rfl, (is.below (hb.mono hB)).up (Nat.le_trans hB hb.size), ls, ms⟩⟩)
 have HLA := Lib.hid (fun W (hb : Below w.heap.size w W) => And.intro (ig.below (hb.mono hB)) (And.intro (ho.below (hb.mono hB)) (And.intro (iD.below (hb.mono hB)) (it.below (hb.mono hB)))))
 have HX := Lib.hid (Blk.new w 39 #[.int .i64 x.op.kind, .slice D x.op.dims.length cD, .slice T x.op.at_.length ct, .slice O x.op.lo.length co', .slice I x.op.hi.length ci, .slice S x.op.step.length cs, .int .i64 x.op.value, .slice Ga x.args.length cg])
 have HB := Lib.hid ((Below.refl w.heap.size w).alloc (Nat.le_refl _) (.cells #[.int .i64 x.op.kind, .slice D x.op.dims.length cD, .slice T x.op.at_.length ct, .slice O x.op.lo.length co', .slice I x.op.hi.length ci, .slice S x.op.step.length cs, .int .i64 x.op.value, .slice Ga x.args.length cg] 39))
 obtain ⟨w0, hw0⟩ : ∃ w0, w.alloc (.cells #[.int .i64 x.op.kind, .slice D x.op.dims.length cD, .slice T x.op.at_.length ct, .slice O x.op.lo.length co', .slice I x.op.hi.length ci, .slice S x.op.step.length cs, .int .i64 x.op.value, .slice Ga x.args.length cg] 39) = w0 := ⟨_, rfl⟩
 rw [hw0] at HX HB
 have b7 : w0.cell? ⟨w.heap.size, 7, none⟩ = some (.slice Ga x.args.length cg) := HX.out.cell 7
 have HI := Lib.hid (info_parts Try.infoRow)
 have HB0 := Lib.hid (Below.refl w0.heap.size w0)
 have hw0s : w.heap.size < w0.heap.size := HX.out.lt
 have HA0 := Lib.hid (show AdjD.ahead i x.args = false → AdjD.nodeDims x i ps out = ([], 10) from fun h => by unfold AdjD.nodeDims; rw [if_pos h])
 have HA1 := Lib.hid (show AdjD.ahead i x.args = true → x.op.kind ≠ 1 → AdjD.nodeDims x i ps out = AdjD.dims x.op (AdjD.ofArgs out x.args) from fun h h2 => by unfold AdjD.nodeDims; rw [if_neg (by simp [h]), if_pos h2])
 have HA2 := Lib.hid (show AdjD.ahead i x.args = true → x.op.kind = 1 → AdjD.nodeDims x i ps out = if ps ≤ i ∨ x.op.at_.length ≠ 1 ∨ x.op.at_.getD 0 0 ≠ (i : Int) then ([], 7) else if 0 < x.args.length then ([], 2) else if (AdjV.size x.op.dims).2 ≠ 0 then ([], (AdjV.size x.op.dims).2) else (x.op.dims, 0) from fun h h2 => by unfold AdjD.nodeDims; rw [if_neg (by simp [h]), if_neg (by simp [h2])])
 have HIO := Lib.hid hio
 have HMM := Lib.hid (And.intro lD (And.intro mD (And.intro lt mt)))
 clear iD it io ii is ig lD lt lo li ls ho hio lg
 go_enter Try.func20, Try.ntmps20
 go_wp2_with fail
 go_loopw [10, 18] (fun v kv wr => ∃ (k : Nat) (vs : List Value), kv = .int .i64 (k : Int) ∧ k ≤ x.args.length ∧ (∀ j (hj : j < x.args.length), j < k → 0 ≤ x.args[j] ∧ x.args[j] < (i : Int)) ∧ Below w0.heap.size w0 wr ∧ wr.ownsRow w0.heap.size 23 1 v vs.length vs ∧ vs.length = k ∧ Gr.Vals wr B vs (AdjD.ofArgs out (x.args.take k))) (fun _ kv _ => x.args.length - (intOf kv).toNat)
 case atStart => exact ⟨0, [], rfl, by omega, fun j _ h => by omega, HB0.out, ⟨rfl, .inl ⟨rfl, rfl⟩⟩, rfl, rfl, fun j h _ => by simp at h⟩
 case round =>
  obtain ⟨k, vs, rfl, hk, hall, hb, hown, hvl, hvals⟩ := hrel
  have HAL := Lib.hid hall
  have HB1 := Lib.hid hb
  have HBw := Lib.hid (HB.out.trans (hb.mono (by omega)))
  have HO := Lib.hid hown
  have HVL := Lib.hid hvl
  have HVS := Lib.hid hvals
  obtain ⟨Av, cv, hv, hcv⟩ := Vw.own_any hown
  subst hv
  have HX1 := Lib.hid (HX.out.below hb HX.out.lt)
  clear hall hb hown hvl hvals
  by_cases hkn : k < x.args.length
  ·obtain ⟨bg, og, rfl, hbg, gg⟩ := (HLA.out wr HBw.out).1 (by omega)
   have cg1 := gg k hkn
   have HBADA := Lib.hid (show ¬ (0 ≤ x.args[k] ∧ x.args[k] < (i : Int)) → AdjD.nodeDims x i ps out = ([], 10) from fun h => HA0.out (by
    cases ha : AdjD.ahead i x.args with
    | false => rfl
    | true =>
     exfalso; apply h
     have := List.all_eq_true.1 ha _ (List.getElem_mem hkn)
     simpa using this))
   have HNX := Lib.hid (show (0 ≤ x.args[k] ∧ x.args[k] < (i : Int)) → ∀ j (hj : j < x.args.length), j < k + 1 → 0 ≤ x.args[j] ∧ x.args[j] < (i : Int) from fun h j hj hjk => by
    by_cases e : j = k
    ·subst e; exact h
    ·exact HAL.out j hj (by omega))
   have HTK := Lib.hid (List.take_succ_eq_append_getElem hkn)
   have i1 : (0 : Int) ≤ (k : Int) := by omega
   have i2 : (k : Int) < (x.args.length : Int) := by omega
   clear gg
   generalize x.args[k] = a0 at cg1 HBADA HNX HTK
   by_cases h1 : a0 < 0
   ·have HV := Lib.hid (HBADA.out (by omega))
    go_wp2_with fail
    go_ret2
    rw [HV.out]
    exact ⟨⟨_, _, _, rfl, fun h => by cases h⟩, HBw.out⟩
   by_cases h2 : (i : Int) ≤ a0
   ·have HV := Lib.hid (HBADA.out (by omega))
    go_wp2_with fail
    go_ret2
    rw [HV.out]
    exact ⟨⟨_, _, _, rfl, fun h => by cases h⟩, HBw.out⟩
   have HNX2 := Lib.hid (HNX.out (by omega))
   obtain ⟨a, rfl⟩ : ∃ a : Nat, a0 = (a : Int) := ⟨a0.toNat, by omega⟩
   have hai : a < out.length := by have := HIO.out; omega
   obtain ⟨bo, oo, rfl, hbo, go⟩ := (HLA.out wr HBw.out).2.1 (by omega)
   obtain ⟨va, cva, Aa, ca, rfl, ia, la, ma⟩ := go a hai
   have HSL := Lib.hid (show Ar.SlAt wr B (.slice Aa out[a].length ca) out[a] from ⟨Aa, ca, rfl, ia, la, ma⟩)
   have HOF := Lib.hid (show AdjD.ofArgs out (x.args.take (k + 1)) = AdjD.ofArgs out (x.args.take k) ++ [out[a]] by
    rw [HTK.out]; unfold AdjD.ofArgs; rw [List.map_append]; simp [List.getD_eq_getElem?_getD, hai])
   have i3 : (0 : Int) ≤ (a : Int) := by omega
   have i4 : (a : Int) < (i : Int) := by omega
   have hvk : vs.length ≤ 4194304 := by have := HVL.out; omega
   have hws : w0.heap.size ≤ wr.heap.size := HB1.out.size
   clear go ia h1 h2
   generalize out[a] = la0 at cva HSL HOF la
   obtain ⟨i0, g1, g2, g3, g4⟩ := HI.out
   go_wp2_with (at_builtin; refine wpList_append_any _ rfl _ _ 33 rfl w0.heap.size 23 i0 (.slice none 0 0) 1 24 Try.underlying33 g1 g2 g3 g4 rfl (by decide) _ _ _ rfl (HO.out.alloc _) _ (some ⟨wr.heap.size, 0, none⟩) 1 1 [.slice Aa la0.length ca] rfl (Ar.reads_cells (Blk.new wr 23 #[.slice Aa la0.length ca]) rfl) (by intro u hu; simp at hu; subst hu; rfl) (by unfold maxLen; omega) (by omega) (by simp; omega) ?_)
   intro v' w6 how hgr _
   have HB6 := Lib.hid ((HB1.out.alloc hws (.cells #[.slice Aa la0.length ca] 23)).grown hgr (by simp; omega) (fun g hg => (HO.out.lt g hg).1))
   have hbB : Below B wr w6 := ((Below.refl B wr).alloc (by omega) (.cells #[.slice Aa la0.length ca] 23)).grown hgr (by simp; omega) (fun g hg => by have := (HO.out.lt g hg).1; omega)
   have HVS6 := Lib.hid (show Gr.Vals w6 B (vs ++ [.slice Aa la0.length ca]) (AdjD.ofArgs out (x.args.take (k + 1))) by
    rw [HOF.out]; exact (HVS.out.below hbB).snoc (HSL.out.below hbB))
   have HO6 := Lib.hid (show w6.ownsRow w0.heap.size 23 1 v' (vs ++ [Value.slice Aa la0.length ca]).length (vs ++ [Value.slice Aa la0.length ca]) by
    rw [List.length_append]; exact how)
   clear how hgr hbB
   go_wp2_with fail
   go_roundw
   case rel => exact ⟨k + 1, _, by go_num, by omega, HNX2.out, HB6.out, HO6.out, by simp [HVL.out], HVS6.out⟩
   case measure => simp [intOf]; omega
  ·have hkk : k = x.args.length := by omega
   have HAH := Lib.hid (show AdjD.ahead i x.args = true from List.all_eq_true.2 (fun a ha => by
    obtain ⟨j, hj, rfl⟩ := List.getElem_of_mem ha
    have := HAL.out j hj (by omega)
    simp [this]))
   have HVN := Lib.hid (show Gr.Vals wr B vs (AdjD.ofArgs out x.args) by have h := HVS.out; rwa [hkk, List.take_length] at h)
   have x0 : wr.cell? ⟨w.heap.size, 0, none⟩ = some (.int .i64 x.op.kind) := HX1.out.cell 0
   have x1 : wr.cell? ⟨w.heap.size, 1, none⟩ = some (.slice D x.op.dims.length cD) := HX1.out.cell 1
   have x2 : wr.cell? ⟨w.heap.size, 2, none⟩ = some (.slice T x.op.at_.length ct) := HX1.out.cell 2
   have x3 : wr.cell? ⟨w.heap.size, 3, none⟩ = some (.slice O x.op.lo.length co') := HX1.out.cell 3
   have x4 : wr.cell? ⟨w.heap.size, 4, none⟩ = some (.slice I x.op.hi.length ci) := HX1.out.cell 4
   have x5 : wr.cell? ⟨w.heap.size, 5, none⟩ = some (.slice S x.op.step.length cs) := HX1.out.cell 5
   have x6 : wr.cell? ⟨w.heap.size, 6, none⟩ = some (.int .i64 x.op.value) := HX1.out.cell 6
   have x7 : wr.cell? ⟨w.heap.size, 7, none⟩ = some (.slice Ga x.args.length cg) := HX1.out.cell 7
   have hwsz : w.heap.size ≤ wr.heap.size := HBw.out.size
   have hvk : vs.length ≤ 4194304 := by have := HVL.out; omega
   have hofl : (AdjD.ofArgs out x.args).length = vs.length := HVN.out.1.symm
   subst hkk
   clear hk hkn HVS HAL
   by_cases hkd : x.op.kind = 1
   ·have HT := Lib.hid (HA2.out HAH.out hkd)
    rw [hkd] at x0
    have HKD := Lib.hid hkd
    clear hkd hofl
    by_cases a1 : ps ≤ i
    ·have HV := Lib.hid (show AdjD.nodeDims x i ps out = ([], 7) by rw [HT.out, if_pos (.inl a1)])
     go_wp2_with fail
     go_ret2
     rw [HV.out]
     exact ⟨⟨_, _, _, rfl, fun h => by cases h⟩, HBw.out⟩
    by_cases a2 : x.op.at_.length = 1
    ·obtain ⟨bt, ot, rfl, hbt, gt⟩ := (HLA.out wr HBw.out).2.2.2 (by omega)
     have ct0 := gt 0 (by omega)
     rw [Nat.add_zero, ← AdjD.getD_at x.op.at_ 0 (by omega)] at ct0
     have HA2' := Lib.hid a2
     rw [a2] at x2
     clear gt a2
     generalize x.op.at_.getD 0 0 = q0 at HT ct0
     by_cases a3 : q0 = (i : Int)
     ·subst a3
      by_cases a4 : 0 < x.args.length
      ·have HV := Lib.hid (show AdjD.nodeDims x i ps out = ([], 2) by rw [HT.out, if_neg (by have := HA2'.out; omega), if_pos a4])
       have a5 : (0 : Int) < (x.args.length : Int) := by omega
       go_wp2_with fail
       go_ret2
       rw [HV.out]
       exact ⟨⟨_, _, _, rfl, fun h => by cases h⟩, HBw.out⟩
      ·have HV := Lib.hid (show AdjD.nodeDims x i ps out = if (AdjV.size x.op.dims).2 ≠ 0 then ([], (AdjV.size x.op.dims).2) else (x.op.dims, 0) by rw [HT.out, if_neg (by have := HA2'.out; omega), if_neg a4])
       have a5 : ¬ (0 : Int) < (x.args.length : Int) := by omega
       have HSZ := Lib.hid (Size_any D cD x.op.dims B wr (by have := HMM.out; omega) (HLA.out wr HBw.out).2.2.1)
       have HCL := Lib.hid (Clone_any D cD x.op.dims B wr (by have := hsh.1; omega) (HLA.out wr HBw.out).2.2.1 (by omega))
       go_wp2_with fail
       refine HSZ.out.mono ?_
       rintro e w7 ⟨rfl, rfl⟩
       simp only [Vw.sizeR]
       go_wp2_with fail
       ((with_reducible refine HCL.out.mono ?_); rintro e w2 ⟨v, rfl, ho2, hb2⟩)
       have HB2 := Lib.hid (HBw.out.trans (hb2.mono HBw.out.size))
       have HFR := Lib.hid (Ar.fr_own (N := w.heap.size) ho2 hwsz)
       obtain ⟨A2, c2, hv2, _⟩ := Vw.own_any ho2
       subst hv2
       clear ho2 hb2
       go_wp2_with fail
       go_ret2
       rw [HV.out]
       by_cases hsz : (AdjV.size x.op.dims).2 ≠ 0
       ·rw [if_pos hsz]
        exact ⟨⟨_, _, _, rfl, fun h => absurd h hsz⟩, HB2.out⟩
       ·rw [if_neg hsz]
        exact ⟨⟨_, _, _, by rw [show (AdjV.size x.op.dims).2 = 0 by omega]; rfl, fun h => HFR.out⟩, HB2.out⟩
     ·have HV := Lib.hid (show AdjD.nodeDims x i ps out = ([], 7) by rw [HT.out, if_pos (.inr (.inr a3))])
      have q3 : (q0 != (i : Int)) = true := by simpa using a3
      clear a3
      go_wp2_with fail
      go_ret2
      rw [HV.out]
      exact ⟨⟨_, _, _, rfl, fun h => by cases h⟩, HBw.out⟩
    ·have HV := Lib.hid (show AdjD.nodeDims x i ps out = ([], 7) by rw [HT.out, if_pos (.inr (.inl a2))])
     have q2 : ((x.op.at_.length : Int) != 1) = true := by rw [bne_iff_ne]; omega
     clear a2
     go_wp2_with fail
     go_ret2
     rw [HV.out]
     exact ⟨⟨_, _, _, rfl, fun h => by cases h⟩, HBw.out⟩
   ·have HT := Lib.hid (HA1.out HAH.out hkd)
    have hq : (x.op.kind != 1) = true := by simpa using hkd
    have HC := Lib.hid (Ar.dims_any _ x.op Av cv (AdjD.ofArgs out x.args) wr.heap.size wr (Nat.le_refl _) hsh (by omega) (by omega) (Gr.own_cap HO.out) (HOP.out wr HBw.out) (HVN.out.lists HO.out (by omega)))
    rw [hofl] at HC
    clear hkd hofl
    go_wp2_with fail
    ((with_reducible refine HC.out.mono ?_); rintro e w2 ⟨⟨v, rfl, hfr⟩, hb2⟩)
    have HFR := Lib.hid hfr
    have HB2 := Lib.hid (HBw.out.trans (hb2.mono HBw.out.size))
    obtain ⟨⟨A2, c2, rfl, _, _, _⟩, _⟩ := hfr
    clear hb2
    go_wp2_with fail
    go_ret2
    rw [HT.out]
    exact ⟨⟨_, _, _, rfl, fun h => ⟨HFR.out.1, fun hp g hg => Nat.le_trans hwsz (HFR.out.2 hp g hg)⟩⟩, HB2.out⟩
end Go.Proofs.Ytapedmpbkffopaa
end
