/-
  The walk of room.Lives; One element put behind a row of the call's own, where all cells of the row's block (its spare ones too) are of one kind: they stay so; The walk of the reference's Params; a row of lists all cells of whose block are lists; The walks of the reference's has, SameList, Free, chosen, both, once; A step of a region that draws its order: a guarded operation that is wanted. Conditions: where the theorems name them.
-/
import Derived.Test.YtapedmpbkffopaaZ02
import Derived.Test.YtapedmpbkffopaaZ11
import Derived.Test.YtapedmpbkffopaaZ12
import Derived.Test.YtapedmpbkffopaaZ17
import Derived.Test.YtapedmpbkffopaaZ22
section
namespace Go.Proofs.Ytapedmpbkffopaa
set_option linter.unusedVariables false
open Go.RowKit Adj
namespace Gr
def LivesOut (w w' : World) (g : AdjD.Graph) (e : Ending) : Prop :=
 (∃ A n c, e = .returned (.tuple #[.slice A n c, .int .i64 (AdjD.look g).2]) ∧ ((AdjD.look g).2 = 0 → n = g.nodes.length ∧ LivesAt w' A n (AdjD.lifeOf g (AdjD.look g).1)) ∧ ((AdjD.look g).2 ≠ 0 → n = 0)) ∧ Below w.heap.size w w'
theorem Lf.lives {w : World} {P n : Nat} {F G : Nat → Int × Int × Int} (h : Lf w P n F) (hFG : ∀ i, i < n → G i = F i) : LivesAt w (some ⟨P, 0, none⟩) n G := fun _ =>
 ⟨P, 0, rfl, h.lt, fun i hi => by rw [Nat.zero_add]; exact (h.same hFG).cells hi⟩
end Gr
set_option maxRecDepth 100000 in
set_option maxHeartbeats 8000000 in
theorem Gr.lives_any (val : Value) (g : AdjD.Graph) (B : Nat) (w : World) (hB : B ≤ w.heap.size) (hsh : Gr.GShort g) (h : Gr.GraphAt w B val g) :
    Calls Try.prog 4 #[val] w fun e w' => Gr.LivesOut w w' g e := by
 have HG := Lib.hid (fun W (hb : Below w.heap.size w W) => (h.below (hb.mono hB)).up (Nat.le_trans hB hb.size))
 obtain ⟨A, c, vo, rfl, hns, hn, hc, ⟨O, co, rfl, io, lo, mo⟩⟩ := h
 have HNS := Lib.hid (fun W (hb : Below w.heap.size w W) => hns.below (hb.mono hB))
 have HOS := Lib.hid (fun W (hb : Below w.heap.size w W) => io.below (hb.mono hB))
 have HX := Lib.hid (Blk.new w 25 #[.slice A g.nodes.length c, .slice O g.outs.length co])
 have HB := Lib.hid ((Below.refl w.heap.size w).alloc (Nat.le_refl _) (.cells #[.slice A g.nodes.length c, .slice O g.outs.length co] 25))
 obtain ⟨w0, hw0⟩ : ∃ w0, w.alloc (.cells #[.slice A g.nodes.length c, .slice O g.outs.length co] 25) = w0 := ⟨_, rfl⟩
 rw [hw0] at HX HB
 have b0 : w0.cell? ⟨w.heap.size, 0, none⟩ = some (.slice A g.nodes.length c) := HX.out.cell 0
 have b1 : w0.cell? ⟨w.heap.size, 1, none⟩ = some (.slice O g.outs.length co) := HX.out.cell 1
 have HDM := Lib.hid (Gr.dims_any _ g w0.heap.size w0 (Nat.le_refl _) hsh (HG.out w0 HB.out))
 have HFI := Lib.hid (AdjD.look_fine (g := g))
 have HLO := Lib.hid (And.intro lo mo)
 obtain ⟨⟨ds, er⟩, hr⟩ : ∃ r, AdjD.look g = r := ⟨_, rfl⟩
 have HLK := Lib.hid hr
 rw [hr] at HDM HFI
 dsimp only at HFI
 clear hns io lo mo hn hc hr hsh
 by_cases he : er = 0
 ·subst he
  obtain ⟨f1, f2, f3, f4, f5⟩ := HFI.out rfl
  have HF3 := Lib.hid (And.intro f3 (And.intro f4 f5))
  obtain ⟨n, hnn⟩ : ∃ n, g.nodes.length = n := ⟨_, rfl⟩
  have HN := Lib.hid hnn
  have HDL := Lib.hid (f1.trans hnn)
  rw [hnn] at HX b0 hw0 f2 HDM HG ⊢
  obtain ⟨M, ⟨hM1, hM2⟩, hmk⟩ := Gr.run_make_lives n (by omega)
  have HMM := Lib.hid (And.intro hM1 hM2)
  clear f1 f3 f4 f5 HFI hnn hM1 hM2
  go_enter Try.func4, Try.ntmps4
  go_wp2_with fail
  ((with_reducible refine HDM.out.mono ?_); rintro e w1 ⟨⟨A1, n1, c1, rfl, hn1, hrows⟩, hb1⟩)
  have hnd : n1 = n := hn1.trans HDL.out
  subst hnd
  have HR1 := Lib.hid hrows
  have HB1 := Lib.hid (HB.out.trans (hb1.mono HB.out.size))
  have HX1 := Lib.hid (HX.out.below hb1 HX.out.lt)
  have hsw1 : w.heap.size < w1.heap.size := HX1.out.lt
  have y0 : w1.cell? ⟨w.heap.size, 0, none⟩ = some (.slice A n1 c) := HX1.out.cell 0
  have HBM := Lib.hid ((Below.refl w1.heap.size w1).alloc (Nat.le_refl _) (.cells M 31))
  have HLM := Lib.hid (show Gr.Lf (w1.alloc (.cells M 31)) w1.heap.size n1 (AdjD.lifeK g ds 0) from ⟨M, Blk.new w1 _ M, HMM.out.1, fun i hi => by
   have h0 : AdjD.lifeK g ds 0 i = (0, 0, 0) := if_neg (by omega)
   rw [h0]
   exact ⟨HMM.out.2 _ (by omega), HMM.out.2 _ (by omega), HMM.out.2 _ (by omega)⟩⟩)
  have z0 : (w1.alloc (.cells M 31)).cell? ⟨w.heap.size, 0, none⟩ = some (.slice A n1 c) := (HX1.out.alloc _).cell 0
  obtain ⟨wm, hwm⟩ : ∃ wm, w1.alloc (.cells M 31) = wm := ⟨_, rfl⟩
  rw [hwm] at HBM HLM
  obtain ⟨P, hP⟩ : ∃ P, w1.heap.size = P := ⟨_, rfl⟩
  rw [hP] at HBM HLM hsw1
  have HPP := Lib.hid hP
  have HWM := Lib.hid hwm
  clear hrows hb1 b0 b1 hn1 hwm hP
  go_wp2_with fail
  simp only [HWM.out, HPP.out]
  go_loopw [30] (fun kv wr => ∃ k : Nat, kv = .int .i64 (k : Int) ∧ k ≤ n1 ∧ Below P w1 wr ∧ Gr.Lf wr P n1 (AdjD.lifeK g ds k)) (fun kv _ => n1 - (intOf kv).toNat)
  case atStart => exact ⟨0, rfl, by omega, HBM.out, HLM.out⟩
  case round =>
   obtain ⟨k, rfl, hk, hb, hlf⟩ := hrel
   have HB2 := Lib.hid hb
   have HL2 := Lib.hid hlf
   have HPW := Lib.hid (show w1.heap.size = P from HPP.out)
   have HBW2 := Lib.hid (HB1.out.trans (hb.mono (Nat.le_of_lt hsw1)))
   have HR2 := Lib.hid (HR1.out.below (by rw [HPP.out]; exact hb))
   have HX2 := Lib.hid (HX1.out.below hb hsw1)
   have hP2 : P < wr.heap.size := hlf.lt
   clear hb hlf
   by_cases hkn : k < n1
   ·have hkl : k < g.nodes.length := by have := HN.out; omega
    obtain ⟨bn, on, rfl, hbn, gn⟩ := HNS.out wr HBW2.out (by omega)
    obtain ⟨v1, v2, v3, v4, v5, v6, ⟨z0, z1, z2, z3, z4, z5, z6, z7⟩, s1, s2, s3, s4, s5, s6⟩ := gn k hkl
    have HKE := Lib.hid (AdjD.kj_end g ds k hkl)
    have HAH := Lib.hid (HF3.out.2.1 k hkl)
    have hkd : k < ds.length := by rw [HDL.out]; exact hkn
    obtain ⟨bd, md, Gd, gcd, hA1, hNb, hbs, hcd, hmd, hsl⟩ := HR2.out.at_ HDL.out hkd
    subst hA1
    have HFD := Lib.hid (HF3.out.1 ds[k] (List.getElem_mem _))
    have HWD := Lib.hid (show (AdjV.size ds[k]).1 = AdjD.wrd ds k by unfold AdjD.wrd; simp [List.getD_eq_getElem?_getD, hkd])
    have i1 : (0 : Int) ≤ (k : Int) := by omega
    have i2 : (k : Int) < (n1 : Int) := by omega
    have hsw : w.heap.size ≤ wr.heap.size := HBW2.out.size
    clear gn
    generalize ds[k] = dk at hmd hsl HFD HWD
    generalize g.nodes[k] = x at z0 z1 z2 z3 z4 z5 z6 z7 s1 s2 s3 s4 s5 s6 HKE HAH
    obtain ⟨D1, e1, rfl, _⟩ := id s1
    obtain ⟨D2, e2, rfl, _⟩ := id s2
    obtain ⟨D3, e3, rfl, _⟩ := id s3
    obtain ⟨D4, e4, rfl, _⟩ := id s4
    obtain ⟨D5, e5, rfl, _⟩ := id s5
    obtain ⟨D6, e6, rfl, i6, l6⟩ := id s6
    have HI6 := Lib.hid i6
    have HAL6 := Lib.hid l6
    have HBx := Lib.hid (fun W (hbW : Below w.heap.size w W) (p : Addr) (hp : p.block < B) => show W.cell? p = wr.cell? p from (hbW.cell (by omega)).trans (HBW2.out.cell (p := p) (by omega)).symm)
    obtain ⟨Gd', gcd', e7, id7, ld7, md7⟩ := hsl
    injection e7 with e8 e9 e10
    subst e8 e9 e10
    have HAL := Lib.hid (Blk.new wr 39 #[.int .i64 x.op.kind, .slice D1 x.op.dims.length e1, .slice D2 x.op.at_.length e2, .slice D3 x.op.lo.length e3, .slice D4 x.op.hi.length e4, .slice D5 x.op.step.length e5, .int .i64 x.op.value, .slice D6 x.args.length e6])
    have HBa := Lib.hid ((Below.refl wr.heap.size wr).alloc (Nat.le_refl _) (.cells #[.int .i64 x.op.kind, .slice D1 x.op.dims.length e1, .slice D2 x.op.at_.length e2, .slice D3 x.op.lo.length e3, .slice D4 x.op.hi.length e4, .slice D5 x.op.step.length e5, .int .i64 x.op.value, .slice D6 x.args.length e6] 39))
    have cd2 := (World.cell?_alloc_lt wr (.cells #[.int .i64 x.op.kind, .slice D1 x.op.dims.length e1, .slice D2 x.op.at_.length e2, .slice D3 x.op.lo.length e3, .slice D4 x.op.hi.length e4, .slice D5 x.op.step.length e5, .int .i64 x.op.value, .slice D6 x.args.length e6] 39) ⟨bd, k, none⟩ (ar_lt hcd)).trans hcd
    have hsa : (wr.alloc (.cells #[.int .i64 x.op.kind, .slice D1 x.op.dims.length e1, .slice D2 x.op.at_.length e2, .slice D3 x.op.lo.length e3, .slice D4 x.op.hi.length e4, .slice D5 x.op.step.length e5, .int .i64 x.op.value, .slice D6 x.args.length e6] 39)).heap.size = wr.heap.size + 1 := by simp
    have HSZ := Lib.hid (Size_any Gd gcd dk wr.heap.size (wr.alloc (.cells #[.int .i64 x.op.kind, .slice D1 x.op.dims.length e1, .slice D2 x.op.at_.length e2, .slice D3 x.op.lo.length e3, .slice D4 x.op.hi.length e4, .slice D5 x.op.step.length e5, .int .i64 x.op.value, .slice D6 x.args.length e6] 39)) (by omega) (id7.below HBa.out))
    have HLa := Lib.hid (HL2.out.below HBa.out hP2)
    clear s1 s2 s3 s4 s5 s6 i6 l6 id7 hcd
    go_wp2_with fail
    refine HSZ.out.mono ?_
    rintro e w2 ⟨rfl, hw2⟩
    simp only [Vw.sizeR]
    rw [HWD.out]
    rw [hw2] at HLa HAL HBa hsa
    have HBw2 := Lib.hid (HBW2.out.trans (HBa.out.mono hsw))
    have HB2b := Lib.hid (HB2.out.trans (HBa.out.mono (Nat.le_of_lt hP2)))
    have HX2a := Lib.hid (HX2.out.below HBa.out HX2.out.lt)
    have hkc := HLa.out.cells hkn
    obtain ⟨p0, p1, p2⟩ := hkc
    have f0 := HLa.out.frozen (k * 3)
    have f1 := HLa.out.frozen (k * 3 + 1)
    have f2' := HLa.out.frozen (k * 3 + 2)
    have hwP : w.heap.size ≠ P := by omega
    have hrP : wr.heap.size ≠ P := by omega
    have HLE := Lib.hid (show Gr.Lf (((w2.setCell ⟨P, k * 3, none⟩ (.int .i64 (k : Int))).setCell ⟨P, k * 3 + 1, none⟩ (.int .i64 ((k : Int) + 1))).setCell ⟨P, k * 3 + 2, none⟩ (.int .i64 (AdjD.wrd ds k))) P n1 (AdjD.lifeKJ g ds k x.args 0) ∨ True from .inr trivial)
    have HLS := Lib.hid (HLa.out.set3 hkn (k : Int) ((k : Int) + 1) (AdjD.wrd ds k))
    have HXE := ((HX2a.out.far (p := ⟨P, k * 3, none⟩) hwP (.int .i64 (k : Int))).far (p := ⟨P, k * 3 + 1, none⟩) hwP (.int .i64 ((k : Int) + 1))).far (p := ⟨P, k * 3 + 2, none⟩) hwP (.int .i64 (AdjD.wrd ds k))
    have HNE := Lib.hid (((HAL.out.far (p := ⟨P, k * 3, none⟩) hrP (.int .i64 (k : Int))).far (p := ⟨P, k * 3 + 1, none⟩) hrP (.int .i64 ((k : Int) + 1))).far (p := ⟨P, k * 3 + 2, none⟩) hrP (.int .i64 (AdjD.wrd ds k)))
    have HBE := Lib.hid (((HB2b.out.setCell (p := ⟨P, k * 3, none⟩) (Nat.le_refl _) (.int .i64 (k : Int))).setCell (p := ⟨P, k * 3 + 1, none⟩) (Nat.le_refl _) (.int .i64 ((k : Int) + 1))).setCell (p := ⟨P, k * 3 + 2, none⟩) (Nat.le_refl _) (.int .i64 (AdjD.wrd ds k)))
    have g0 : (((w2.setCell ⟨P, k * 3, none⟩ (.int .i64 (k : Int))).setCell ⟨P, k * 3 + 1, none⟩ (.int .i64 ((k : Int) + 1))).setCell ⟨P, k * 3 + 2, none⟩ (.int .i64 (AdjD.wrd ds k))).cell? ⟨w.heap.size, 0, none⟩ = some (.slice (some ⟨bn, on, none⟩) n1 c) := HXE.cell 0
    have g1 : (((w2.setCell ⟨P, k * 3, none⟩ (.int .i64 (k : Int))).setCell ⟨P, k * 3 + 1, none⟩ (.int .i64 ((k : Int) + 1))).setCell ⟨P, k * 3 + 2, none⟩ (.int .i64 (AdjD.wrd ds k))).cell? ⟨w.heap.size, 1, none⟩ = some (.slice O g.outs.length co) := HXE.cell 1
    have hsE : (((w2.setCell ⟨P, k * 3, none⟩ (.int .i64 (k : Int))).setCell ⟨P, k * 3 + 1, none⟩ (.int .i64 ((k : Int) + 1))).setCell ⟨P, k * 3 + 2, none⟩ (.int .i64 (AdjD.wrd ds k))).heap.size = wr.heap.size + 1 := by simp; exact hsa
    have HBwE := Lib.hid (HB1.out.trans (HBE.out.mono (Nat.le_of_lt hsw1)))
    have HPC := Lib.hid (Gr.params_any _ g (((w2.setCell ⟨P, k * 3, none⟩ (.int .i64 (k : Int))).setCell ⟨P, k * 3 + 1, none⟩ (.int .i64 ((k : Int) + 1))).setCell ⟨P, k * 3 + 2, none⟩ (.int .i64 (AdjD.wrd ds k))).heap.size (((w2.setCell ⟨P, k * 3, none⟩ (.int .i64 (k : Int))).setCell ⟨P, k * 3 + 1, none⟩ (.int .i64 ((k : Int) + 1))).setCell ⟨P, k * 3 + 2, none⟩ (.int .i64 (AdjD.wrd ds k))) (Nat.le_refl _) (HG.out _ HBwE.out))
    obtain ⟨pp, hpp⟩ : ∃ q, AdjD.params g.nodes = q := ⟨_, rfl⟩
    have HPA := Lib.hid hpp
    rw [hpp] at HPC
    obtain ⟨we, hwe⟩ : ∃ we, (((w2.setCell ⟨P, k * 3, none⟩ (.int .i64 (k : Int))).setCell ⟨P, k * 3 + 1, none⟩ (.int .i64 ((k : Int) + 1))).setCell ⟨P, k * 3 + 2, none⟩ (.int .i64 (AdjD.wrd ds k))) = we := ⟨_, rfl⟩
    have HWE := Lib.hid hwe
    rw [hwe] at HLS HNE HBE hsE HBwE HPC
    clear HXE HLE hw2 hpp hwe cd2
    go_wp2_with fail
    rw [HWE.out]
    ((with_reducible refine HPC.out.mono ?_); rintro e w4 ⟨rfl, hb4⟩)
    have hPe : P < we.heap.size := by omega
    have HL4 := Lib.hid (HLS.out.below hb4 hPe)
    have HN4 := Lib.hid (HNE.out.below hb4 (by omega))
    have HB4 := Lib.hid (HBE.out.trans (hb4.mono (Nat.le_of_lt hPe)))
    have hs4 : wr.heap.size < w4.heap.size := HN4.out.lt
    clear hb4 g0 g1 p0 p1 p2 f0 f1 f2'
    by_cases hkp : k < pp
    ·have HL5 := Lib.hid (HL4.out.set0 (G := AdjD.lifeKJ g ds k x.args 0) hkn 0 (fun i _ => by
       rw [AdjD.kj_zero]
       by_cases e : i = k
       ·subst e; simp [AdjD.frm, HPA.out, hkp]
       ·simp [e]))
     have HB5 := Lib.hid (HB4.out.setCell (p := ⟨P, k * 3, none⟩) (Nat.le_refl _) (.int .i64 0))
     have HN5 := HN4.out.far (p := ⟨P, k * 3, none⟩) hrP (.int .i64 0)
     obtain ⟨p0, p1, p2⟩ := HL4.out.cells hkn
     have f0 := HL4.out.frozen (k * 3)
     have g7 : (w4.setCell ⟨P, k * 3, none⟩ (.int .i64 0)).cell? ⟨wr.heap.size, 7, none⟩ = some (.slice D6 x.args.length e6) := HN5.cell 7
     clear HN5
     go_wp2_with fail
     clear hkp
     obtain ⟨wo, hwo⟩ : ∃ wo : World, wo = wr := ⟨_, rfl⟩
     subst hwo
     go_loopw [62] (fun kv wx => ∃ j : Nat, kv = .int .i64 (j : Int) ∧ j ≤ x.args.length ∧ Below P w1 wx ∧ Gr.Lf wx P n1 (AdjD.lifeKJ g ds k x.args j)) (fun kv _ => x.args.length - (intOf kv).toNat)
     case atStart => exact ⟨0, rfl, by omega, HB5.out, HL5.out⟩
     case round =>
      obtain ⟨j, rfl, hj, hb6, hl6⟩ := hrel
      have HB6 := Lib.hid hb6
      have HL6 := Lib.hid hl6
      have HBW6 := Lib.hid (HB1.out.trans (hb6.mono (Nat.le_of_lt hsw1)))
      clear hb6 hl6
      by_cases hjn : j < x.args.length
      ·obtain ⟨bg, og, rfl, hbg, gg⟩ := HI6.out (by omega)
       have cg1 := (HBx.out wr HBW6.out ⟨bg, og + j, none⟩ hbg).trans (gg j hjn)
       have hra : 0 ≤ x.args[j] ∧ x.args[j] < (k : Int) := by
        have := List.all_eq_true.1 HAH.out _ (List.getElem_mem hjn)
        simpa using this
       obtain ⟨a, ha⟩ : ∃ a : Nat, x.args[j] = (a : Int) := ⟨x.args[j].toNat, by omega⟩
       have hak : a < k := by omega
       have HST := Lib.hid (AdjD.kj_step g ds k x.args j hjn a ha hak)
       rw [ha] at cg1
       have han : a < n1 := by omega
       obtain ⟨p0, p1, p2⟩ := HL6.out.cells han
       have f1 := HL6.out.frozen (a * 3 + 1)
       have j1 : (0 : Int) ≤ (j : Int) := by omega
       have j2 : (j : Int) < (x.args.length : Int) := by omega
       have j3 : (0 : Int) ≤ (a : Int) := by omega
       have j4 : (a : Int) < (n1 : Int) := by omega
       have j5 : k < 4096 := by omega
       clear gg hra ha p0 p2
       obtain ⟨t, ht⟩ : ∃ t, (AdjD.lifeKJ g ds k x.args j a).2.1 = t := ⟨_, rfl⟩
       rw [ht] at p1
       have hj0 : x.args.length ≤ 9223372036854775807 := by have := HAL6.out; omega
       by_cases htk : t < (k : Int) + 1
       ·have HL7 := Lib.hid (HL6.out.set1 (G := AdjD.lifeKJ g ds k x.args (j + 1)) han ((k : Int) + 1) (fun i _ => by
          rw [HST.out i]
          by_cases e : i = a
          ·subst e; simp [ht]; omega
          ·simp [e]))
        have HB7 := Lib.hid (HB6.out.setCell (p := ⟨P, a * 3 + 1, none⟩) (Nat.le_refl _) (.int .i64 ((k : Int) + 1)))
        clear ht
        go_wp2_with fail
        go_roundw
        case rel => exact ⟨j + 1, by go_num, by omega, HB7.out, HL7.out⟩
        case measure => simp [intOf]; omega
       ·have HL7 := Lib.hid (HL6.out.set1 (G := AdjD.lifeKJ g ds k x.args (j + 1)) han t (fun i _ => by
          rw [HST.out i]
          by_cases e : i = a
          ·subst e; simp [ht]; omega
          ·simp [e]))
        have HB7 := Lib.hid (HB6.out.setCell (p := ⟨P, a * 3 + 1, none⟩) (Nat.le_refl _) (.int .i64 t))
        clear ht
        go_wp2_with fail
        go_roundw
        case rel => exact ⟨j + 1, by go_num, by omega, HB7.out, HL7.out⟩
        case measure => simp [intOf]; omega
      ·have hje : j = x.args.length := by omega
       have HL7 := Lib.hid (HL6.out.same (G := AdjD.lifeK g ds (k + 1)) (fun i _ => by rw [hje]; exact (HKE.out i).symm))
       clear hje
       go_wp2_with fail
       go_roundw
       case rel => exact ⟨k + 1, by go_num, by omega, HB6.out, HL7.out⟩
       case measure => simp [intOf]; omega
    ·have HL5 := Lib.hid (HL4.out.same (G := AdjD.lifeKJ g ds k x.args 0) (fun i _ => by
       rw [AdjD.kj_zero]
       by_cases e : i = k
       ·subst e; simp [AdjD.frm, HPA.out, hkp]
       ·simp [e]))
     have HB5 := Lib.hid HB4.out
     have g7 : w4.cell? ⟨wr.heap.size, 7, none⟩ = some (.slice D6 x.args.length e6) := HN4.out.cell 7
     go_wp2_with fail
     clear hkp
     obtain ⟨wo, hwo⟩ : ∃ wo : World, wo = wr := ⟨_, rfl⟩
     subst hwo
     go_loopw [62] (fun kv wx => ∃ j : Nat, kv = .int .i64 (j : Int) ∧ j ≤ x.args.length ∧ Below P w1 wx ∧ Gr.Lf wx P n1 (AdjD.lifeKJ g ds k x.args j)) (fun kv _ => x.args.length - (intOf kv).toNat)
     case atStart => exact ⟨0, rfl, by omega, HB5.out, HL5.out⟩
     case round =>
      obtain ⟨j, rfl, hj, hb6, hl6⟩ := hrel
      have HB6 := Lib.hid hb6
      have HL6 := Lib.hid hl6
      have HBW6 := Lib.hid (HB1.out.trans (hb6.mono (Nat.le_of_lt hsw1)))
      clear hb6 hl6
      by_cases hjn : j < x.args.length
      ·obtain ⟨bg, og, rfl, hbg, gg⟩ := HI6.out (by omega)
       have cg1 := (HBx.out wr HBW6.out ⟨bg, og + j, none⟩ hbg).trans (gg j hjn)
       have hra : 0 ≤ x.args[j] ∧ x.args[j] < (k : Int) := by
        have := List.all_eq_true.1 HAH.out _ (List.getElem_mem hjn)
        simpa using this
       obtain ⟨a, ha⟩ : ∃ a : Nat, x.args[j] = (a : Int) := ⟨x.args[j].toNat, by omega⟩
       have hak : a < k := by omega
       have HST := Lib.hid (AdjD.kj_step g ds k x.args j hjn a ha hak)
       rw [ha] at cg1
       have han : a < n1 := by omega
       obtain ⟨p0, p1, p2⟩ := HL6.out.cells han
       have f1 := HL6.out.frozen (a * 3 + 1)
       have j1 : (0 : Int) ≤ (j : Int) := by omega
       have j2 : (j : Int) < (x.args.length : Int) := by omega
       have j3 : (0 : Int) ≤ (a : Int) := by omega
       have j4 : (a : Int) < (n1 : Int) := by omega
       have j5 : k < 4096 := by omega
       clear gg hra ha p0 p2
       obtain ⟨t, ht⟩ : ∃ t, (AdjD.lifeKJ g ds k x.args j a).2.1 = t := ⟨_, rfl⟩
       rw [ht] at p1
       have hj0 : x.args.length ≤ 9223372036854775807 := by have := HAL6.out; omega
       by_cases htk : t < (k : Int) + 1
       ·have HL7 := Lib.hid (HL6.out.set1 (G := AdjD.lifeKJ g ds k x.args (j + 1)) han ((k : Int) + 1) (fun i _ => by
          rw [HST.out i]
          by_cases e : i = a
          ·subst e; simp [ht]; omega
          ·simp [e]))
        have HB7 := Lib.hid (HB6.out.setCell (p := ⟨P, a * 3 + 1, none⟩) (Nat.le_refl _) (.int .i64 ((k : Int) + 1)))
        clear ht
        go_wp2_with fail
        go_roundw
        case rel => exact ⟨j + 1, by go_num, by omega, HB7.out, HL7.out⟩
        case measure => simp [intOf]; omega
       ·have HL7 := Lib.hid (HL6.out.set1 (G := AdjD.lifeKJ g ds k x.args (j + 1)) han t (fun i _ => by
          rw [HST.out i]
          by_cases e : i = a
          ·subst e; simp [ht]; omega
          ·simp [e]))
        have HB7 := Lib.hid (HB6.out.setCell (p := ⟨P, a * 3 + 1, none⟩) (Nat.le_refl _) (.int .i64 t))
        clear ht
        go_wp2_with fail
        go_roundw
        case rel => exact ⟨j + 1, by go_num, by omega, HB7.out, HL7.out⟩
        case measure => simp [intOf]; omega
      ·have hje : j = x.args.length := by omega
       have HL7 := Lib.hid (HL6.out.same (G := AdjD.lifeK g ds (k + 1)) (fun i _ => by rw [hje]; exact (HKE.out i).symm))
       clear hje
       go_wp2_with fail
       go_roundw
       case rel => exact ⟨k + 1, by go_num, by omega, HB6.out, HL7.out⟩
       case measure => simp [intOf]; omega
   ·have hkk : k = n1 := by omega
    subst hkk
    have HLN := Lib.hid (HL2.out.same (G := AdjD.lifeQ g ds 0) (fun i hi => by
     rw [AdjD.q_zero g ds i (by rw [HN.out]; exact hi), HN.out]))
    have y0 : wr.cell? ⟨w.heap.size, 0, none⟩ = some (.slice A k c) := HX2.out.cell 0
    have y1 : wr.cell? ⟨w.heap.size, 1, none⟩ = some (.slice O g.outs.length co) := HX2.out.cell 1
    clear hk hkn
    obtain ⟨wo, hwo⟩ : ∃ wo : World, wo = wr := ⟨_, rfl⟩
    subst hwo
    go_wp2_with fail
    go_loopw [83] (fun kv wx => ∃ q : Nat, kv = .int .i64 (q : Int) ∧ q ≤ g.outs.length ∧ Below P w1 wx ∧ Gr.Lf wx P k (AdjD.lifeQ g ds q)) (fun kv _ => g.outs.length - (intOf kv).toNat)
    case atStart => exact ⟨0, rfl, by omega, HB2.out, HLN.out⟩
    case round =>
     obtain ⟨q, rfl, hq, hb6, hl6⟩ := hrel
     have HB6 := Lib.hid hb6
     have HL6 := Lib.hid hl6
     have HBW6 := Lib.hid (HB1.out.trans (hb6.mono (Nat.le_of_lt hsw1)))
     have HX6 := Lib.hid (HX1.out.below hb6 hsw1)
     clear hb6 hl6
     by_cases hqn : q < g.outs.length
     ·obtain ⟨bo, oo, rfl, hbo, go⟩ := HOS.out _ HBW6.out (by omega)
      have co1 := go q hqn
      have hra : 0 ≤ g.outs[q] ∧ g.outs[q] < (k : Int) := by
       have := List.all_eq_true.1 HF3.out.2.2 _ (List.getElem_mem hqn)
       rw [HN.out] at this
       simpa using this
      obtain ⟨a, ha⟩ : ∃ a : Nat, g.outs[q] = (a : Int) := ⟨g.outs[q].toNat, by omega⟩
      have han : a < k := by omega
      have HST := Lib.hid (AdjD.q_step g ds q hqn a ha)
      rw [ha] at co1
      obtain ⟨p0, p1, p2⟩ := HL6.out.cells han
      have f1 := HL6.out.frozen (a * 3 + 1)
      have g0 : wr.cell? ⟨w.heap.size, 0, none⟩ = some (.slice A k c) := HX6.out.cell 0
      have j1 : (0 : Int) ≤ (q : Int) := by omega
      have j2 : (q : Int) < (g.outs.length : Int) := by omega
      have j3 : (0 : Int) ≤ (a : Int) := by omega
      have j4 : (a : Int) < (k : Int) := by omega
      obtain ⟨hlo1, hlo2⟩ := HLO.out
      have hq1 : q + 1 ≤ 9223372036854775807 := by omega
      clear go hra ha p0 p2 hlo1 hlo2
      have HL7 := Lib.hid (HL6.out.set1 (G := AdjD.lifeQ g ds (q + 1)) han ((k : Int) + 1) (fun i _ => by
       rw [HST.out i, HN.out]))
      have HB7 := Lib.hid (HB6.out.setCell (p := ⟨P, a * 3 + 1, none⟩) (Nat.le_refl _) (.int .i64 ((k : Int) + 1)))
      go_wp2_with fail
      go_roundw
      case rel => exact ⟨q + 1, by go_num, by omega, HB7.out, HL7.out⟩
      case measure => simp [intOf]; omega
     ·have hqe : q = g.outs.length := by omega
      have HLV := Lib.hid (HL6.out.lives (G := AdjD.lifeOf g ds) (fun i _ => by rw [hqe]; exact (AdjD.q_end g ds i).symm))
      clear hqe
      go_wp2_with fail
      go_ret2
      exact ⟨⟨_, _, _, by rw [HLK.out]; rfl, fun _ => ⟨HN.out.symm, by rw [HLK.out]; exact HLV.out⟩, fun h => absurd (by rw [HLK.out]) h⟩, HBW6.out⟩
 ·have HZ := Lib.hid (AdjD.look_bad (g := g) (by rw [HLK.out]; exact he))
  have hq : (er != 0) = true := by simpa using he
  have HE := Lib.hid he
  clear he HFI
  go_enter Try.func4, Try.ntmps4
  go_wp2_with fail
  ((with_reducible refine HDM.out.mono ?_); rintro e w1 ⟨⟨A1, n1, c1, rfl, hn1, _⟩, hb1⟩)
  have HB1 := Lib.hid (HB.out.trans (hb1.mono HB.out.size))
  clear hb1 hn1 b0 b1
  go_wp2_with fail
  go_ret2
  exact ⟨⟨none, 0, 0, by rw [HLK.out]; rfl, fun h => absurd (by rw [HLK.out] at h; exact h) HE.out, fun _ => rfl⟩, HB1.out⟩
end Go.Proofs.Ytapedmpbkffopaa
end
section
namespace Adj
open Go Go.RowKit
set_option linter.unusedVariables false
def AllQ (w : World) (v : Value) (q : Value → Prop) : Prop := ∀ g, v.ownBlock = some g → ∀ cs t f, w.heap[g]? = some (.cells cs t f) → ∀ u ∈ cs.toList, q u
theorem AllQ.keep {w w' : World} {v : Value} {q : Value → Prop} (h : AllQ w v q) (hk : ∀ g, v.ownBlock = some g → w'.heap[g]? = w.heap[g]?) : AllQ w' v q := fun g hg cs t f hh u hu => h g hg cs t f ((hk g hg).symm.trans hh) u hu
section
variable {P : Program} (w : World)
theorem zero_q {z : Array Value} {q : Value → Prop} (hz : ∀ u ∈ z.toList, q u) (h1 : z.size = 1) (k : Nat) : ∀ u ∈ (Builtin.zeroCells z k).toList, q u := fun u hu => by
 unfold Builtin.zeroCells at hu
 simp only [Array.toList_map, List.mem_map] at hu
 obtain ⟨j, _, rfl⟩ := hu
 apply hz
 rw [h1, Nat.mod_one]
 rw [getElem!_pos z 0 (by omega)]
 exact Array.mem_toList_iff.2 (Array.getElem_mem _)
theorem run_push_q (base : Nat) (t ty e : TypeId) (i : TypeInfo) (z : Value) (bytes : Nat) (ht : P.underlying t = some (.slice e)) (hi : P.info? e = some i) (hz : i.zero = some z)
    (hsize : i.size = 1) (hby : i.bytes = bytes) (hzs : z.cells.size = 1)
    (v : Value) (n : Nat) (xs : List Value) (hown : w.ownsRow base e 1 v n xs) (a : Addr) (c : Nat) (x : Value) (hx : w.cell? a = some x) (h1 : x.oneCell' = true)
    (h63 : n + 1 ≤ maxLen) (hbytes : (n + 1) * bytes ≤ 140737488355328) (hbase : base ≤ w.heap.size) (q : Value → Prop) (hq : AllQ w v q) (hqx : q x) (hqz : ∀ u ∈ z.cells.toList, q u) :
    ∃ v' w', (Builtin.append_ #[t, t] ty #[v, .slice (some a) 1 c]).run P w = .ok v' w' ∧ w'.ownsRow base e 1 v' (n + 1) (xs ++ [x]) ∧ w.grownBy w' v.ownBlock ∧
     (v'.ownBlock = v.ownBlock ∨ v'.ownBlock = some w.heap.size) ∧ AllQ w' v' q := by
 have hnews : ∀ j u, [x][j]? = some u → w.cell? (a.add j) = some u := fun j u hu => by
  have hj : j = 0 := by have := (List.getElem?_eq_some_iff.1 hu).1; simpa using this
  subst hj
  have : x = u := by simpa using hu
  subst this
  have ha : a.add 0 = a := by unfold Addr.add; simp
  rw [ha]; exact hx
 have hone : ∀ u ∈ [x], u.oneCell' = true := fun u hu => by rw [List.mem_singleton.1 hu]; exact h1
 obtain ⟨v', w', hrun, h2, h3, _, h5⟩ := run_append_own_at (P := P) w base t ty e i z 1 bytes ht hi hz hsize hby hzs (by omega) v n xs hown a 1 c [x] rfl hnews hone h63 hbytes hbase
 refine ⟨v', w', hrun, h2, h3, h5, ?_⟩
 have hsmall : n + 1 ≤ 9223372036854775807 := by simp only [maxLen] at h63; omega
 have hl1 : ([x] : List Value).length = 1 * i.size := by rw [hsize]; rfl
 rcases hown.2 with ⟨rfl, rfl⟩ | ⟨g, cap, cur, rfl, hbg, hg, hnc, hcm, hcs, htake⟩
 ·have hr := run_append_nil (P := P) w t ty e i z ht hi hz a 1 c [x] hl1 hnews (by omega) (by omega) (by rw [hby]; omega)
  rw [hrun] at hr
  injection hr with e1 e2
  subst e1 e2
  intro g hg cs t' f hh u hu
  have hg' : g = w.heap.size := by simpa [Value.ownBlock] using hg.symm
  subst hg'
  rw [show (w.drew.alloc (.cells ([x].toArray ++ Builtin.zeroCells z.cells (grownCap w 1 0 e - 1)) e)).heap[w.heap.size]? = some (.cells ([x].toArray ++ Builtin.zeroCells z.cells (grownCap w 1 0 e - 1)) e (0, 0)) from heap_alloc_new w.drew _] at hh
  injection hh with hh
  injection hh with h7
  subst h7
  rw [Array.toList_append] at hu
  rcases List.mem_append.1 hu with hu | hu
  ·have : u = x := by simpa using hu
   rw [this]; exact hqx
  ·exact zero_q hqz hzs _ u hu
 ·have hcur : ∀ u ∈ cur.toList, q u := hq g rfl cur e (0, 0) hg
  by_cases hroom : n + 1 ≤ cap
  ·have hfit : n * i.size + [x].length ≤ cur.size := by rw [hcs, hsize]; simp; omega
   have hr := run_append_room (P := P) w t ty e i ht hi g n cap cur hg a 1 c [x] hl1 hnews hone hroom hfit
   rw [hrun] at hr
   injection hr with e1 e2
   subst e1 e2
   intro g' hg' cs t' f hh u hu
   have e3 : g' = g := by simpa [Value.ownBlock] using hg'.symm
   subst e3
   rw [setRow_heap w g' cur _ e _ hg] at hh
   injection hh with hh
   injection hh with h7
   subst h7
   simp only [List.mem_append] at hu
   rcases hu with (hu | hu) | hu
   ·exact hcur u (List.mem_of_mem_take hu)
   ·have : u = x := by simpa using hu
    rw [this]; exact hqx
   ·exact hcur u (List.mem_of_mem_drop hu)
  ·have holds : ∀ j u, xs[j]? = some u → w.cell? ((⟨g, 0, none⟩ : Addr).add j) = some u := hown.cells (g := g) rfl
   have hr := run_append_grow (P := P) w t ty e i z ht hi hz ⟨g, 0, none⟩ n cap xs (by rw [hsize]; exact hown.1) holds a 1 c [x] hl1 hnews (by omega) (by omega) (growslice_fits (by omega) (by rw [hby]; exact hbytes))
   rw [hrun] at hr
   injection hr with e1 e2
   subst e1 e2
   intro g' hg' cs t' f hh u hu
   have e3 : g' = w.heap.size := by simpa [Value.ownBlock] using hg'.symm
   subst e3
   rw [show (w.drew.alloc (.cells (xs.toArray ++ [x].toArray ++ Builtin.zeroCells z.cells (grownCap w (n + 1) cap e - (n + 1))) e)).heap[w.heap.size]? = some (.cells (xs.toArray ++ [x].toArray ++ Builtin.zeroCells z.cells (grownCap w (n + 1) cap e - (n + 1))) e (0, 0)) from heap_alloc_new w.drew _] at hh
   injection hh with hh
   injection hh with h7
   subst h7
   simp only [Array.toList_append, List.mem_append] at hu
   rcases hu with (hu | hu) | hu
   ·exact hcur u (by rw [← htake] at hu; exact List.mem_of_mem_take (by simpa using hu))
   ·have : u = x := by simpa using hu
    rw [this]; exact hqx
   ·exact zero_q hqz hzs _ u hu
theorem wp_push_q {o : Oper} {a : Act} {K : Act → World → Prop} {Q : Exit → Act → World → Prop} (s x : Operand) (t : TypeId)
    (ho : o.op = .call { callee := .builtin .append, args := #[s, x], argTypes := #[t, t] })
    (base : Nat) (e : TypeId) (i : TypeInfo) (z : Value) (bytes : Nat) (ht : P.underlying t = some (.slice e)) (hi : P.info? e = some i) (hz : i.zero = some z)
    (hsize : i.size = 1) (hby : i.bytes = bytes) (hzs : z.cells.size = 1)
    (v : Value) (n : Nat) (xs : List Value) (hs : a.eval s = v) (hown : w.ownsRow base e 1 v n xs)
    (ad : Addr) (c : Nat) (y : Value) (hx : a.eval x = .slice (some ad) 1 c) (hr : w.cell? ad = some y) (h1 : y.oneCell' = true)
    (h63 : n + 1 ≤ maxLen) (hbytes : (n + 1) * bytes ≤ 140737488355328) (hbase : base ≤ w.heap.size) (q : Value → Prop) (hq : AllQ w v q) (hqx : q y) (hqz : ∀ u ∈ z.cells.toList, q u)
    (h : ∀ v' w', w'.ownsRow base e 1 v' (n + 1) (xs ++ [y]) → w.grownBy w' v.ownBlock → (v'.ownBlock = v.ownBlock ∨ v'.ownBlock = some w.heap.size) → AllQ w' v' q → K (a.put o.dst v') w') : o.wp P a w K Q := by
 obtain ⟨v', w', hrun, h2, h3, h4, h5⟩ := run_push_q (P := P) w base t o.type e i z bytes ht hi hz hsize hby hzs v n xs hown ad c y hr h1 h63 hbytes hbase q hq hqx hqz
 unfold Oper.wp execOp
 simp only [ho, resolve, invoke, builtin, Sem.run_bind, Sem.run_pure, Result.andThen_ok, List.map_toArray, List.map_cons, List.map_nil, hs, hx, hrun]
 exact h v' w' h2 h3 h4 h5
theorem wpList_push_q {ops : Array Oper} {rest : List Oper} {o : Oper} {a : Act} {Q : Exit → Act → World → Prop} (hgd : o.guard = none) (s x : Operand) (t : TypeId)
    (ho : o.op = .call { callee := .builtin .append, args := #[s, x], argTypes := #[t, t] })
    (base : Nat) (e : TypeId) (i : TypeInfo) (z : Value) (bytes : Nat) (ht : P.underlying t = some (.slice e)) (hi : P.info? e = some i) (hz : i.zero = some z)
    (hsize : i.size = 1) (hby : i.bytes = bytes) (hzs : z.cells.size = 1)
    (v : Value) (n : Nat) (xs : List Value) (hs : a.eval s = v) (hown : w.ownsRow base e 1 v n xs)
    (ad : Addr) (c : Nat) (y : Value) (hx : a.eval x = .slice (some ad) 1 c) (hr : w.cell? ad = some y) (h1 : y.oneCell' = true)
    (h63 : n + 1 ≤ maxLen) (hbytes : (n + 1) * bytes ≤ 140737488355328) (hbase : base ≤ w.heap.size) (q : Value → Prop) (hq : AllQ w v q) (hqx : q y) (hqz : ∀ u ∈ z.cells.toList, q u)
    (h : ∀ v' w', w'.ownsRow base e 1 v' (n + 1) (xs ++ [y]) → w.grownBy w' v.ownBlock → (v'.ownBlock = v.ownBlock ∨ v'.ownBlock = some w.heap.size) → AllQ w' v' q → wpList P ops Q rest (a.put o.dst v') w') : wpList P ops Q (o :: rest) a w :=
 wpList_plain hgd fun _ hK => wp_push_q w s x t ho base e i z bytes ht hi hz hsize hby hzs v n xs hs hown ad c y hx hr h1 h63 hbytes hbase q hq hqx hqz fun v' w' h2 h3 h4 h5 => hK _ _ (h v' w' h2 h3 h4 h5)
end
end Adj
end
section
namespace Go.Proofs.Ytapedmpbkffopaa
set_option linter.unusedVariables false
open Go.RowKit Adj
namespace Gr
def isSl (u : Value) : Prop := ∃ A n c, u = .slice A n c
theorem apart {w : World} {N n : Nat} {v u : Value} {xs : List Value} (ho : w.ownsRow N 23 1 v n xs) (hq : AllQ w v isSl) {B : Nat} {l : List Int} (h : Ar.SlAt w B u l) (hp : 0 < l.length) : ∀ g, u.ownBlock = some g → some g ≠ v.ownBlock := fun g hg e => by
 obtain ⟨A, c, rfl, hi, _⟩ := h
 obtain ⟨b, off, rfl, hb, hc⟩ := hi hp
 have hbg : b = g := by simpa [Value.ownBlock] using hg
 subst hbg
 rcases ho.2 with ⟨e1, _⟩ | ⟨g, cap, cur, e1, hbb, hh, hcc, hm, hs, ht⟩
 ·rw [e1] at e; simp [Value.ownBlock] at e
 ·have e2 : b = g := by rw [e1] at e; simpa [Value.ownBlock] using e
  subst e2
  have c0 := hc 0 hp
  have hB : Blk w b 23 cur := hh
  rw [hB.cell] at c0
  obtain ⟨A', n', c', e3⟩ := hq b e.symm cur _ _ hh _ (Array.mem_toList_iff.2 (Array.mem_of_getElem? c0))
  cases e3
def RowsQ (N : Nat) (w : World) (v : Value) (ls : List (List Int)) : Prop :=
 ∃ vs : List Value, w.ownsRow N 23 1 v vs.length vs ∧ Vals w w.heap.size vs ls ∧ AllQ w v isSl
theorem RowsQ.nil (N : Nat) (w : World) : RowsQ N w (.slice none 0 0) [] := ⟨[], ⟨rfl, .inl ⟨rfl, rfl⟩⟩, ⟨rfl, fun j h _ => by simp at h⟩, fun g hg => by simp [Value.ownBlock] at hg⟩
theorem RowsQ.below {N : Nat} {w w' : World} {v : Value} {ls : List (List Int)} (h : RowsQ N w v ls) (hb : Below w.heap.size w w') : RowsQ N w' v ls := by
 obtain ⟨vs, h1, h2, h3⟩ := h
 exact ⟨vs, Ar.own_keep h1 (fun g hg => hb.block g (h1.lt g hg).2), (h2.below hb).up hb.size, h3.keep (fun g hg => hb.block g (h1.lt g hg).2)⟩
theorem RowsQ.lists {N n c : Nat} {w : World} {A : Option Addr} {ls : List (List Int)} (h : RowsQ N w (.slice A n c) ls) : Ar.ListsAt w w.heap.size A ls := by
 obtain ⟨vs, h1, h2, _⟩ := h
 have hn : vs.length = n := by
  rcases h1.2 with ⟨e1, h0⟩ | ⟨g, cap, cur, e1, hb, hh, hc, hm, hs, ht⟩
  ·injection e1 with _ e2; omega
  ·injection e1 with _ e2; omega
 rw [hn] at h1
 exact h2.lists h1 (Nat.le_refl _)
theorem RowsQ.push {N : Nat} {w1 w2 : World} {v v' u : Value} {vs : List Value} {ls : List (List Int)} {l : List Int} (h1 : w1.ownsRow N 23 1 v vs.length vs) (h2 : Vals w1 w1.heap.size vs ls) (h3 : AllQ w1 v isSl)
    (hf : Ar.SlAt w1 w1.heap.size u l) (how : w2.ownsRow N 23 1 v' (vs.length + 1) (vs ++ [u])) (hgr : w1.grownBy w2 v.ownBlock) (hq : AllQ w2 v' isSl) : RowsQ N w2 v' (ls ++ [l]) := by
 refine ⟨vs ++ [u], by rw [List.length_append]; exact how, ?_, hq⟩
 exact Vals.snoc ⟨h2.1, fun j j1 j2 => Ar.SlAt.up (sl_grown (h2.2 j j1 j2) (Nat.le_refl _) (fun hp => apart h1 h3 (h2.2 j j1 j2) hp) hgr) hgr.size⟩ (Ar.SlAt.up (sl_grown hf (Nat.le_refl _) (fun hp => apart h1 h3 hf hp) hgr) hgr.size)
end Gr
set_option maxRecDepth 100000 in
set_option maxHeartbeats 4000000 in
theorem Gr.params2_any (val : Value) (g : AdjD.Graph) (B : Nat) (w : World) (hB : B ≤ w.heap.size) (h : Gr.GraphAt w B val g) :
    Calls Try.prog 11 #[val] w fun e w' => e = .returned (.int .i64 (AdjD.params g.nodes : Int)) ∧ Below w.heap.size w w' := by
 obtain ⟨A, c, vo, rfl, hns, hn, hc, _⟩ := h
 have HX := Lib.hid (Blk.new w 25 #[.slice A g.nodes.length c, vo])
 have HB := Lib.hid ((Below.refl w.heap.size w).alloc (Nat.le_refl _) (.cells #[.slice A g.nodes.length c, vo] 25))
 obtain ⟨w0, hw0⟩ : ∃ w0, w.alloc (.cells #[.slice A g.nodes.length c, vo] 25) = w0 := ⟨_, rfl⟩
 rw [hw0] at HX HB
 have HNS := Lib.hid (fun W (hb : Below w.heap.size w W) => hns.below (hb.mono hB))
 have HAT := Lib.hid (AdjD.params_at g.nodes)
 have x0 : w0.cell? ⟨w.heap.size, 0, none⟩ = some (.slice A g.nodes.length c) := HX.out.cell 0
 have hws : w.heap.size < w0.heap.size := HX.out.lt
 have HB0 := Lib.hid (Below.refl w0.heap.size w0)
 clear hns
 generalize g.nodes = ns at HX hw0 HNS HAT x0 hn ⊢
 obtain ⟨n, hnn⟩ : ∃ n, ns.length = n := ⟨_, rfl⟩
 have HL := Lib.hid hnn
 rw [hnn] at HX hw0 x0 hn ⊢
 clear hnn
 go_enter Try.func11, Try.ntmps11
 go_wp2_with fail
 go_loopw [8] (fun kv wr => ∃ k : Nat, kv = .int .i64 (k : Int) ∧ k ≤ n ∧ (∀ j (hj : j < ns.length), j < k → ns[j].op.kind = 1) ∧ Below w0.heap.size w0 wr) (fun kv _ => n - (intOf kv).toNat)
 case atStart => exact ⟨0, rfl, by omega, fun j _ h => by omega, HB0.out⟩
 case round =>
  obtain ⟨k, rfl, hk, hall, hb⟩ := hrel
  have HAL := Lib.hid hall
  have HB1 := Lib.hid hb
  have HBW := Lib.hid (HB.out.trans (hb.mono (Nat.le_of_lt hws)))
  have y0 : wr.cell? ⟨w.heap.size, 0, none⟩ = some (.slice A n c) := (HX.out.below hb HX.out.lt).cell 0
  have hsz : w0.heap.size ≤ wr.heap.size := hb.size
  clear hall hb
  by_cases hkn : k < n
  ·have hkl : k < ns.length := by have := HL.out; omega
   obtain ⟨b, off, rfl, hbb, hc2⟩ := HNS.out wr HBW.out (by omega)
   obtain ⟨v1, v2, v3, v4, v5, v6, ⟨z0, z1, z2, z3, z4, z5, z6, z7⟩, ⟨D1, e1, rfl, _⟩, ⟨D2, e2, rfl, _⟩, ⟨D3, e3, rfl, _⟩, ⟨D4, e4, rfl, _⟩, ⟨D5, e5, rfl, _⟩, ⟨D6, e6, rfl, _⟩⟩ := hc2 k hkl
   have HP := Lib.hid (show ns[k].op.kind ≠ 1 → AdjD.params ns = k from fun h => HAT.out k (HAL.out) (.inr ⟨hkl, h⟩))
   have HNX := Lib.hid (show ns[k].op.kind = 1 → ∀ j (hj : j < ns.length), j < k + 1 → ns[j].op.kind = 1 from fun h j hj hjk => by
    by_cases e : j = k
    ·subst e; exact h
    ·exact HAL.out j hj (by omega))
   have i1 : (0 : Int) ≤ (k : Int) := by omega
   have i2 : (k : Int) < (n : Int) := by omega
   clear hc2
   generalize ns[k].op.kind = kd at z0 HP HNX
   generalize ns[k].op.value = vl at z6
   generalize ns[k].op.dims.length = l1 at z1
   generalize ns[k].op.at_.length = l2 at z2
   generalize ns[k].op.lo.length = l3 at z3
   generalize ns[k].op.hi.length = l4 at z4
   generalize ns[k].op.step.length = l5 at z5
   generalize ns[k].args.length = l6 at z7
   have HB2 := Lib.hid (HB1.out.alloc (by omega) (.cells #[.int .i64 kd, .slice D1 l1 e1, .slice D2 l2 e2, .slice D3 l3 e3, .slice D4 l4 e4, .slice D5 l5 e5, .int .i64 vl, .slice D6 l6 e6] 39))
   have HBW2 := Lib.hid (HBW.out.alloc (by omega) (.cells #[.int .i64 kd, .slice D1 l1 e1, .slice D2 l2 e2, .slice D3 l3 e3, .slice D4 l4 e4, .slice D5 l5 e5, .int .i64 vl, .slice D6 l6 e6] 39))
   by_cases hkd : kd = 1
   ·have HX := Lib.hid (HNX.out hkd)
    subst hkd
    go_wp2_with fail
    go_roundw
    case rel => exact ⟨k + 1, by go_num, by omega, HX.out, HB2.out⟩
    case measure => simp [intOf]; omega
   ·have HX := Lib.hid (HP.out hkd)
    have hq : (kd != 1) = true := by simpa using hkd
    clear hkd
    go_wp2_with fail
    go_ret
    exact ⟨by rw [HX.out]; rfl, HBW2.out⟩
  ·obtain rfl : k = n := by omega
   have HX := Lib.hid (show AdjD.params ns = k from HAT.out k HAL.out (.inl HL.out.symm))
   go_wp2_with fail
   go_ret
   exact ⟨by rw [HX.out]; rfl, HBW.out⟩
end Go.Proofs.Ytapedmpbkffopaa
end
section
namespace Go.Proofs.Ytapedmpbkffopaa
set_option linter.unusedVariables false
open Go.RowKit Adj
set_option maxHeartbeats 1000000 in
theorem Ar.has2_any (A : Option Addr) (cap : Nat) (l : List Int) (x : Int) (B : Nat) (w : World) (hl : l.length ≤ 9223372036854775807) (hm : Vw.IntsAt w B A l) :
    Calls Try.prog 43 #[.slice A l.length cap, .int .i64 x] w fun e w' => e = .returned (.bool (decide (x ∈ l))) ∧ w = w' := by
 have HM := Lib.hid hm
 clear hm
 go_enter Try.func43, Try.ntmps43
 go_wp2_with fail
 go_loop [6, 9] (fun _ i => ∃ k : Nat, k ≤ l.length ∧ i = .int .i64 (k : Int) ∧ x ∉ l.take k) (fun _ i => l.length + 1 - (intOf i).toNat)
 case atStart => exact ⟨0, by omega, rfl, by simp⟩
 case round =>
  obtain ⟨k, hk, rfl, hno⟩ := hrel
  have HNO := Lib.hid hno
  clear hno
  by_cases hlt : k < l.length
  ·obtain ⟨b, off, rfl, hb, hc⟩ := HM.out (by omega)
   have hck := hc k hlt
   have hi1 : (0 : Int) ≤ (k : Int) := by omega
   have hi2 : (k : Int) < (l.length : Int) := by omega
   clear hc
   have HT := Lib.hid (AdjV.take_next l k hlt)
   have HIN := Lib.hid (List.getElem_mem hlt)
   generalize l[k] = y at hck HT HIN
   by_cases hxy : y = x
   ·have hq : (y == x) = true := by simpa using hxy
    have HD := Lib.hid (show decide (x ∈ l) = true by simpa using hxy ▸ HIN.out)
    clear hxy
    go_wp2_with fail
    go_ret
    exact ⟨by rw [HD.out]; rfl, rfl⟩
   ·have hq : (y == x) = false := by simpa using hxy
    have HN := Lib.hid (show x ∉ l.take (k + 1) by
     rw [HT.out, List.mem_append, List.mem_singleton]
     rintro (h | h)
     ·exact HNO.out h
     ·exact hxy h.symm)
    clear hxy
    go_wp2_with fail
    go_round
    case rel => exact ⟨k + 1, by omega, by go_num, HN.out⟩
    case measure => simp [intOf]; omega
  ·obtain rfl : k = l.length := by omega
   have HD := Lib.hid (show decide (x ∈ l) = false by have := HNO.out; rw [List.take_length] at this; simpa using this)
   go_wp2_with fail
   go_ret
   exact ⟨by rw [HD.out]; rfl, rfl⟩
set_option maxRecDepth 100000 in
set_option maxHeartbeats 2000000 in
theorem Ar.same2_any (A A' : Option Addr) (cap cap' : Nat) (l m : List Int) (B B' : Nat) (w : World) (hl : l.length ≤ 9223372036854775807) (hl' : m.length ≤ 9223372036854775807) (hm : Vw.IntsAt w B A l) (hm' : Vw.IntsAt w B' A' m) :
    Calls Try.prog 26 #[.slice A l.length cap, .slice A' m.length cap'] w fun e w' => e = .returned (.bool (decide (l = m))) ∧ ∃ d, w' = w.drewN d := by
 by_cases hlen : l.length = m.length
 ·have HM := Lib.hid hm
  have HM' := Lib.hid hm'
  have hq : ((l.length : Int) != (m.length : Int)) = false := by simp; omega
  have HLEN := Lib.hid hlen
  clear hm hm' hlen
  go_enter Try.func26, Try.ntmps26
  go_wp2_with fail
  go_loopw [5, 13] (fun _ i wr => ∃ k d : Nat, k ≤ l.length ∧ i = .int .i64 (k : Int) ∧ l.take k = m.take k ∧ wr = w.drewN d) (fun _ i _ => l.length + 1 - (intOf i).toNat)
  case atStart => exact ⟨0, 0, by omega, rfl, by simp, rfl⟩
  case round =>
   obtain ⟨k, d, hk, rfl, hsame, rfl⟩ := hrel
   have HS := Lib.hid hsame
   clear hsame
   by_cases hlt : k < l.length
   ·obtain ⟨b, off, rfl, hb, hc⟩ := HM.out (by omega)
    obtain ⟨b', off', rfl, hb', hc'⟩ := HM'.out (by have := HLEN.out; omega)
    have hlt' : k < m.length := by have := HLEN.out; omega
    have hck := hc k hlt
    have hck' := hc' k hlt'
    have hi1 : (0 : Int) ≤ (k : Int) := by omega
    have hi2 : (k : Int) < (l.length : Int) := by omega
    have hi3 : (k : Int) < (m.length : Int) := by omega
    clear hc hc'
    have HT := Lib.hid (List.take_succ_eq_append_getElem hlt)
    have HT' := Lib.hid (List.take_succ_eq_append_getElem hlt')
    have HNE := Lib.hid (fun (h : l = m) => show l[k] = m[k] by subst h; rfl)
    generalize l[k] = x at hck HT HNE
    generalize m[k] = y at hck' HT' HNE
    by_cases hxy : x = y
    ·have hq2 : (x != y) = false := by simpa using hxy
     have HXY := Lib.hid hxy
     clear hxy
     go_wp2_with fail
     go_quiet (fail)
     go_wp2_with fail
     exact ⟨⟨k + 1, d + nq, by omega, by go_num, by rw [HT.out, HT'.out, HS.out, HXY.out], rfl⟩, by simp [intOf]; omega⟩
    ·have hq2 : (x != y) = true := by simpa using hxy
     have HD := Lib.hid (show decide (l = m) = false by simp; intro h; exact hxy (HNE.out h))
     go_wp2_with fail
     go_quiet (fail)
     go_wp2_with fail
     go_ret
     exact ⟨by rw [HD.out]; rfl, by first | exact ⟨0, rfl⟩ | exact ⟨_, rfl⟩ | exact ⟨_, World.drewN_drewN _ _ _⟩⟩
   ·obtain rfl : k = l.length := by omega
    have HD := Lib.hid (show decide (l = m) = true by
     have h := HS.out
     rw [List.take_length, HLEN.out, List.take_length] at h
     simpa using h)
    go_wp2_with fail
    go_ret
    exact ⟨by rw [HD.out]; rfl, by first | exact ⟨0, rfl⟩ | exact ⟨_, rfl⟩ | exact ⟨_, World.drewN_drewN _ _ _⟩⟩
 ·have hq : ((l.length : Int) != (m.length : Int)) = true := by simp; omega
  have HD := Lib.hid (show decide (l = m) = false by simp; intro h; exact hlen (by rw [h]))
  go_enter Try.func26, Try.ntmps26
  go_wp2_with fail
  go_ret
  exact ⟨by rw [HD.out]; rfl, 0, rfl⟩
set_option maxRecDepth 100000 in
set_option maxHeartbeats 4000000 in
theorem Ar.free2_any (A A' : Option Addr) (ca cl : Nat) (l d : List Int) (B : Nat) (w : World) (hB : B ≤ w.heap.size) (hl : l.length ≤ 9223372036854775807) (hd : d.length ≤ 65536) (h1 : Vw.IntsAt w B A' l) :
    Calls Try.prog 29 #[.slice A d.length ca, .slice A' l.length cl] w fun e w' => ∃ v, e = .returned v ∧ w'.ownsRow w.heap.size 3 1 v (AdjD.free d l).length (ints (AdjD.free d l)) ∧ Below w.heap.size w w' := by
 have HC := Lib.hid (fun x W (hb : Below w.heap.size w W) => Ar.has2_any A' cl l x B W hl (h1.below (hb.mono hB)))
 have HI := Lib.hid (info_parts Try.infoOf3)
 have HB1 := Lib.hid (Below.refl w.heap.size w)
 obtain ⟨n, hnn⟩ : ∃ n, d.length = n := ⟨_, rfl⟩
 have HN := Lib.hid hnn
 rw [hnn] at hd ⊢
 clear h1 hnn
 go_enter Try.func29, Try.ntmps29
 go_wp2_with fail
 go_loopw [5, 9] (fun v kv wr => ∃ k : Nat, kv = .int .i64 (k : Int) ∧ k ≤ n ∧ Below w.heap.size w wr ∧ wr.ownsRow w.heap.size 3 1 v (AdjD'.keepTo d l k).length (ints (AdjD'.keepTo d l k))) (fun _ kv _ => n - (intOf kv).toNat)
 case atStart => exact ⟨0, rfl, by omega, HB1.out, rfl, .inl ⟨rfl, rfl⟩⟩
 case round =>
  obtain ⟨k, rfl, hk, hb, hown⟩ := hrel
  have HB2 := Lib.hid hb
  have HO2 := Lib.hid hown
  obtain ⟨Av, cv, hv, hcv⟩ := Vw.own_any hown
  subst hv
  have HCK := Lib.hid (HC.out (k : Int) wr hb)
  clear hb hown
  by_cases hkn : k < n
  ·have HKN := Lib.hid (AdjD'.keep_next d l k)
   have hkl2 := AdjD'.keep_len d l k
   have hbl : (AdjD'.keepTo d l k).length ≤ 65536 := by omega
   clear hkl2
   by_cases hin : (k : Int) ∈ l
   ·rw [decide_eq_true hin] at HCK
    have HX := Lib.hid (show AdjD'.keepTo d l (k + 1) = AdjD'.keepTo d l k by rw [HKN.out, if_pos hin])
    clear hin
    go_wp2_with fail
    ((with_reducible refine HCK.out.mono ?_); rintro e w3 ⟨rfl, hw3⟩)
    rw [← hw3]
    clear hw3
    go_wp2_with fail
    go_roundw
    case rel => exact ⟨k + 1, by go_num, by omega, HB2.out, by rw [HX.out]; exact HO2.out⟩
    case measure => simp [intOf]; omega
   ·rw [decide_eq_false hin] at HCK
    have HX := Lib.hid (show AdjD'.keepTo d l (k + 1) = AdjD'.keepTo d l k ++ [(k : Int)] by rw [HKN.out, if_neg hin])
    clear hin
    obtain ⟨i0, g1, g2, g3, g4⟩ := HI.out
    have hwsz := HB2.out.size
    generalize hLk : AdjD'.keepTo d l k = Lk at HO2 HX hbl ⊢
    go_wp2_with fail
    ((with_reducible refine HCK.out.mono ?_); rintro e w3 ⟨rfl, hw3⟩)
    rw [← hw3]
    clear hw3
    go_wp2_with (at_builtin; refine wpList_append_any _ rfl _ _ 23 rfl w.heap.size 3 i0 (.int .i64 0) 1 8 Try.underlying23 g1 g2 g3 g4 rfl (by decide) _ _ _ rfl (HO2.out.alloc _) _ (some ⟨wr.heap.size, 0, none⟩) 1 1 [.int .i64 (k : Int)] rfl (Ar.reads_cells (Blk.new wr 3 #[.int .i64 (k : Int)]) rfl) (by intro u hu; simp at hu; subst hu; rfl) (by unfold maxLen; omega) (by omega) (by simp; omega) ?_)
    intro v' w6 how hgr _
    have HBZ := Lib.hid ((HB2.out.alloc hwsz (.cells #[.int .i64 (k : Int)] 3)).grown hgr (by simp; omega) (fun g hg => (HO2.out.lt g hg).1))
    have HO6 := Lib.hid (show w6.ownsRow w.heap.size 3 1 v' (AdjD'.keepTo d l (k + 1)).length (ints (AdjD'.keepTo d l (k + 1))) by
     rw [HX.out, List.length_append, Vw.ints_snoc]; exact how)
    clear how hgr hLk
    go_wp2_with fail
    go_roundw
    case rel => exact ⟨k + 1, by go_num, by omega, HBZ.out, HO6.out⟩
    case measure => simp [intOf]; omega
  ·obtain rfl : k = n := by omega
   have HX := Lib.hid (show AdjD'.keepTo d l k = AdjD.free d l by rw [← HN.out]; rfl)
   rw [HX.out] at HO2 ⊢
   go_wp2_with fail
   go_ret
   exact ⟨_, rfl, HO2.out, HB2.out⟩
set_option maxRecDepth 100000 in
set_option maxHeartbeats 4000000 in
theorem Ar.chosen2_any (A A' : Option Addr) (ca cl : Nat) (l d : List Int) (B : Nat) (w : World) (hB : B ≤ w.heap.size) (hl : l.length ≤ 1099511627776) (hd : d.length ≤ 65536) (hin : ∀ k ∈ l, 0 ≤ k ∧ k < (d.length : Int)) (h1 : Vw.IntsAt w B A' l) (h2 : Vw.IntsAt w B A d) :
    Calls Try.prog 28 #[.slice A d.length ca, .slice A' l.length cl] w fun e w' => ∃ v, e = .returned v ∧ w'.ownsRow w.heap.size 3 1 v (AdjD.chosen d l).length (ints (AdjD.chosen d l)) ∧ Below w.heap.size w w' := by
 have HD := Lib.hid (fun W (hb : Below w.heap.size w W) => h2.below (hb.mono hB))
 have HL := Lib.hid (fun W (hb : Below w.heap.size w W) => h1.below (hb.mono hB))
 have HIN := Lib.hid hin
 have HI := Lib.hid (info_parts Try.infoOf3)
 have HB1 := Lib.hid (Below.refl w.heap.size w)
 obtain ⟨n, hnn⟩ : ∃ n, d.length = n := ⟨_, rfl⟩
 have HN := Lib.hid hnn
 obtain ⟨m, hmm⟩ : ∃ m, l.length = m := ⟨_, rfl⟩
 have HM := Lib.hid hmm
 rw [hnn] at hd ⊢
 rw [hmm] at hl ⊢
 clear h1 h2 hnn hmm hin
 go_enter Try.func28, Try.ntmps28
 go_wp2_with fail
 go_loopw [5, 10] (fun v kv wr => ∃ k : Nat, kv = .int .i64 (k : Int) ∧ k ≤ m ∧ Below w.heap.size w wr ∧ wr.ownsRow w.heap.size 3 1 v (AdjD.chosen d (l.take k)).length (ints (AdjD.chosen d (l.take k)))) (fun _ kv _ => m - (intOf kv).toNat)
 case atStart => exact ⟨0, rfl, by omega, HB1.out, rfl, .inl ⟨rfl, rfl⟩⟩
 case round =>
  obtain ⟨k, rfl, hk, hb, hown⟩ := hrel
  have HB2 := Lib.hid hb
  have HO2 := Lib.hid hown
  obtain ⟨Av, cv, hv, hcv⟩ := Vw.own_any hown
  subst hv
  clear hb hown
  by_cases hkn : k < m
  ·have hkl : k < l.length := by have := HM.out; omega
   obtain ⟨bl, ol, rfl, hbl, gl⟩ := HL.out _ HB2.out (by omega)
   have cl1 := gl k hkl
   have hq := HIN.out l[k] (List.getElem_mem hkl)
   have HTK := Lib.hid (List.take_succ_eq_append_getElem hkl)
   clear gl
   generalize l[k] = q0 at cl1 hq HTK
   obtain ⟨q, rfl⟩ : ∃ q : Nat, q0 = (q : Int) := ⟨q0.toNat, by omega⟩
   have hqd : q < d.length := by omega
   obtain ⟨bd, od, rfl, hbd, gd⟩ := HD.out _ HB2.out (by omega)
   have cd1 := gd q hqd
   have HCS := Lib.hid (show AdjD.chosen d (l.take (k + 1)) = AdjD.chosen d (l.take k) ++ [d[q]] by rw [HTK.out, AdjD'.chosen_snoc d _ q hqd])
   have hle : (AdjD.chosen d (l.take k)).length ≤ 1099511627776 := by rw [AdjD.chosen_length, List.length_take]; omega
   have i1 : (0 : Int) ≤ (k : Int) := by omega
   have i2 : (k : Int) < (m : Int) := by omega
   have i3 : (0 : Int) ≤ (q : Int) := by omega
   have i4 : (q : Int) < (n : Int) := by have := HN.out; omega
   clear gd hq
   generalize d[q] = x at cd1 HCS
   obtain ⟨i0, g1, g2, g3, g4⟩ := HI.out
   have hwsz := HB2.out.size
   generalize AdjD.chosen d (l.take k) = Lk at HO2 HCS hle ⊢
   go_wp2_with (at_builtin; refine wpList_append_any _ rfl _ _ 23 rfl w.heap.size 3 i0 (.int .i64 0) 1 8 Try.underlying23 g1 g2 g3 g4 rfl (by decide) _ _ _ rfl (HO2.out.alloc _) _ (some ⟨wr.heap.size, 0, none⟩) 1 1 [.int .i64 x] rfl (Ar.reads_cells (Blk.new wr 3 #[.int .i64 x]) rfl) (by intro u hu; simp at hu; subst hu; rfl) (by unfold maxLen; omega) (by omega) (by simp; omega) ?_)
   intro v' w6 how hgr _
   have HBZ := Lib.hid ((HB2.out.alloc hwsz (.cells #[.int .i64 x] 3)).grown hgr (by simp; omega) (fun g hg => (HO2.out.lt g hg).1))
   have HO6 := Lib.hid (show w6.ownsRow w.heap.size 3 1 v' (AdjD.chosen d (l.take (k + 1))).length (ints (AdjD.chosen d (l.take (k + 1)))) by
    rw [HCS.out, List.length_append, Vw.ints_snoc]; exact how)
   clear how hgr
   go_wp2_with fail
   go_roundw
   case rel => exact ⟨k + 1, by go_num, by omega, HBZ.out, HO6.out⟩
   case measure => simp [intOf]; omega
  ·obtain rfl : k = m := by omega
   have HX := Lib.hid (show l.take k = l by rw [← HM.out, List.take_length])
   rw [HX.out] at HO2 ⊢
   go_wp2_with fail
   go_ret
   exact ⟨_, rfl, HO2.out, HB2.out⟩
set_option maxRecDepth 100000 in
set_option maxHeartbeats 4000000 in
theorem Ar.both2_any (A A' : Option Addr) (ca cb : Nat) (a b : List Int) (B : Nat) (w : World) (hB : B ≤ w.heap.size) (ha : a.length ≤ 1099511627776) (hb : b.length ≤ 1099511627776) (h1 : Vw.IntsAt w B A a) (h2 : Vw.IntsAt w B A' b) :
    Calls Try.prog 33 #[.slice A a.length ca, .slice A' b.length cb] w fun e w' => ∃ v, e = .returned v ∧ w'.ownsRow w.heap.size 3 1 v (a ++ b).length (ints (a ++ b)) ∧ Below w.heap.size w w' := by
 have HI := Lib.hid (info_parts Try.infoOf3)
 have HO0 := Lib.hid (World.ownsRow_lit (base := w.heap.size) (size := 1) (e := 3) w #[] 0 (Nat.le_refl _) (by unfold maxLen; omega) rfl)
 have HB1 := Lib.hid ((Below.refl w.heap.size w).alloc (Nat.le_refl _) (.cells #[] 3))
 have HD1 := Lib.hid (fun W (hb : Below w.heap.size w W) => Ar.reads_of (h1.below (hb.mono hB)) (Nat.le_trans hB hb.size))
 have HD2 := Lib.hid (fun W (hb : Below w.heap.size w W) => Ar.reads_of (h2.below (hb.mono hB)) (Nat.le_trans hB hb.size))
 have hone : ∀ (l : List Int), ∀ u ∈ ints l, u.oneCell' = true := fun l u hu => by
  obtain ⟨x, _, rfl⟩ := List.mem_map.1 hu
  rfl
 clear h1 h2
 obtain ⟨i0, g1, g2, g3, g4⟩ := HI.out
 have hws : w.heap.size ≤ (w.alloc (.cells #[] 3)).heap.size := by simp
 go_enter Try.func33, Try.ntmps33
 go_wp2_with (at_builtin; refine wpList_append_any _ rfl _ _ 23 rfl w.heap.size 3 i0 (.int .i64 0) 1 8 Try.underlying23 g1 g2 g3 g4 rfl (by decide) _ _ _ rfl HO0.out _ A a.length ca (ints a) rfl (HD1.out _ HB1.out) (hone a) (by unfold maxLen; omega) (by omega) hws ?_)
 intro v1 w1 how hgr _
 have HB2 := Lib.hid (HB1.out.grown hgr (by simp) (fun g hg => (HO0.out.lt g hg).1))
 have HO2 := Lib.hid (show w1.ownsRow w.heap.size 3 1 v1 (0 + a.length) (ints a) from by simpa using how)
 have hws1 : w.heap.size ≤ w1.heap.size := HB2.out.size
 obtain ⟨Av, cv, hv, hcv⟩ := Vw.own_any how
 subst hv
 clear how hgr
 rw [Nat.zero_add] at HO2
 go_wp2_with (at_builtin; refine wpList_append_any _ rfl _ _ 23 rfl w.heap.size 3 i0 (.int .i64 0) 1 8 Try.underlying23 g1 g2 g3 g4 rfl (by decide) _ _ _ rfl HO2.out _ A' b.length cb (ints b) rfl (HD2.out _ HB2.out) (hone b) (by unfold maxLen; omega) (by omega) hws1 ?_)
 intro v2 w2 how hgr _
 have HB3 := Lib.hid (HB2.out.grown hgr hws1 (fun g hg => (HO2.out.lt g hg).1))
 have HO3 := Lib.hid (show w2.ownsRow w.heap.size 3 1 v2 (a ++ b).length (ints (a ++ b)) from by
  rw [List.length_append]; unfold ints at how ⊢; rw [List.map_append]; exact how)
 clear how hgr
 go_wp2_with fail
 go_ret
 exact ⟨_, rfl, HO3.out, HB3.out⟩
set_option maxRecDepth 100000 in
set_option maxHeartbeats 4000000 in
theorem Ar.once2_any (A : Option Addr) (ca n : Nat) (l : List Int) (B : Nat) (w : World) (hl : l.length ≤ ca) (hca : ca ≤ 9223372036854775807) (hn : n ≤ 65536) (h1 : Vw.IntsAt w B A l) :
    Calls Try.prog 44 #[.slice A l.length ca, .int .i64 (n : Int)] w fun e w' => e = .returned (.bool (AdjD.onceB l n)) ∧ w = w' := by
 have HM := Lib.hid h1
 obtain ⟨m, hmm⟩ : ∃ m, l.length = m := ⟨_, rfl⟩
 have HL := Lib.hid hmm
 rw [hmm] at hl ⊢
 have HNO := Lib.hid (show ∀ k (hk : k < l.length), ¬ (0 ≤ l[k] ∧ l[k] < (n : Int) ∧ l[k] ∉ l.take k) → AdjD.onceB l n = false from fun k hk h => by
  cases ho : AdjD.onceB l n with
  | false => rfl
  | true =>
   exfalso
   unfold AdjD.onceB at ho
   rw [Bool.and_eq_true] at ho
   have h3 := List.all_eq_true.1 ho.1 _ (List.getElem_mem hk)
   simp only [Bool.and_eq_true, decide_eq_true_eq] at h3
   refine h ⟨h3.1, h3.2, fun hin => ?_⟩
   have h4 := List.pairwise_iff_getElem.1 (of_decide_eq_true ho.2 : l.Nodup)
   obtain ⟨j, hj, e⟩ := List.getElem_of_mem hin
   rw [List.length_take] at hj
   rw [List.getElem_take] at e
   exact h4 j k (by omega) hk (by omega) e)
 have HYES := Lib.hid (show (∀ k (hk : k < l.length), 0 ≤ l[k] ∧ l[k] < (n : Int) ∧ l[k] ∉ l.take k) → AdjD.onceB l n = true from fun h => by
  unfold AdjD.onceB
  rw [Bool.and_eq_true]
  refine ⟨List.all_eq_true.2 (fun x hx => ?_), decide_eq_true (List.pairwise_iff_getElem.2 (fun i j hi hj hij e => ?_))⟩
  ·obtain ⟨k, hk, rfl⟩ := List.getElem_of_mem hx
   rw [decide_eq_true (h k hk).1, decide_eq_true (h k hk).2.1]; rfl
  ·exact (h j hj).2.2 (by rw [← e]; exact List.mem_take_iff_getElem.2 ⟨i, by omega, rfl⟩))
 clear h1 hmm
 go_enter Try.func44, Try.ntmps44
 go_wp2_with fail
 go_loop [9] (fun kv => ∃ k : Nat, kv = .int .i64 (k : Int) ∧ k ≤ m ∧ ∀ j (hj : j < l.length), j < k → 0 ≤ l[j] ∧ l[j] < (n : Int) ∧ l[j] ∉ l.take j) (fun kv => m - (intOf kv).toNat)
 case atStart => exact ⟨0, rfl, by omega, fun j _ h => by omega⟩
 case round =>
  obtain ⟨k, rfl, hk, hall⟩ := hrel
  have HAL := Lib.hid hall
  clear hall
  by_cases hkm : k < m
  ·have hkl : k < l.length := by have := HL.out; omega
   have HH := Lib.hid (by
    have h := Ar.has2_any A ca (l.take k) l[k] B w (by rw [List.length_take]; omega) (Ar.ints_take HM.out k)
    rwa [show (l.take k).length = k by rw [List.length_take]; omega] at h)
   obtain ⟨b, off, rfl, hbb, hc⟩ := HM.out (by omega)
   have c1 := hc k hkl
   have HN1 := Lib.hid (HNO.out k hkl)
   have HNX := Lib.hid (show (0 ≤ l[k] ∧ l[k] < (n : Int) ∧ l[k] ∉ l.take k) → ∀ j (hj : j < l.length), j < k + 1 → 0 ≤ l[j] ∧ l[j] < (n : Int) ∧ l[j] ∉ l.take j from fun h j hj hjk => by
    by_cases e : j = k
    ·subst e; exact h
    ·exact HAL.out j hj (by omega))
   have i1 : (0 : Int) ≤ (k : Int) := by omega
   have i2 : (k : Int) < (m : Int) := by omega
   have i3 : (k : Int) ≤ (ca : Int) := by omega
   clear hc
   generalize l[k] = x at c1 HN1 HNX HH
   by_cases b1 : x < 0
   ·have HV := Lib.hid (HN1.out (by omega))
    go_wp2_with fail
    go_ret
    exact ⟨by rw [HV.out]; rfl, rfl⟩
   by_cases b2 : (n : Int) ≤ x
   ·have HV := Lib.hid (HN1.out (by omega))
    go_wp2_with fail
    go_ret
    exact ⟨by rw [HV.out]; rfl, rfl⟩
   by_cases b3 : x ∈ l.take k
   ·have HV := Lib.hid (HN1.out (fun h => h.2.2 b3))
    rw [decide_eq_true b3] at HH
    clear b3
    go_wp2_with fail
    ((with_reducible refine HH.out.mono ?_); rintro e w3 ⟨rfl, rfl⟩)
    go_wp2_with fail
    go_ret
    exact ⟨by rw [HV.out]; rfl, rfl⟩
   ·have HV := Lib.hid (HNX.out ⟨by omega, by omega, b3⟩)
    rw [decide_eq_false b3] at HH
    clear b3
    go_wp2_with fail
    ((with_reducible refine HH.out.mono ?_); rintro e w3 ⟨rfl, rfl⟩)
    go_wp2_with fail
    go_round
    case rel => exact ⟨k + 1, by go_num, by omega, HV.out⟩
    case measure => simp [intOf]; omega
  ·obtain rfl : k = m := by omega
   have HV := Lib.hid (HYES.out (fun j hj => HAL.out j hj (by have := HL.out; omega)))
   go_wp2_with fail
   go_ret
   exact ⟨by rw [HV.out]; rfl, rfl⟩
end Go.Proofs.Ytapedmpbkffopaa
end
section
namespace Adj
open Go
set_option linter.unusedVariables false
variable {P : Program} {ops : Array Oper} {Q : Exit → Act → World → Prop} {md : Region.Mode} {S R : World → Prop} {t0 t1 : Nat}
theorem stepT_wanted {fuel : Nat} {listed : Array Bool} {a : Act} {w : World} {i : Nat} {o : Oper} (ho : ops[i]? = some o) (hw : Region.wanted o (yielded ops a.tmps) = true)
    (h : ∀ K : Act → World → Prop, Shut (∀ a w, S w ∧ R w → (S w ∧ R w → wpT P md ops Q S t0 R t1 fuel (listed.setIfInBounds i true) a w) → K a w) → Oper.wp P o a w K Q) : StepT P md ops Q S t0 R t1 fuel listed a w i := by
 unfold StepT wpOp
 rw [ho]
 simp only [hw, if_true]
 exact .inl (h _ (fun a w hSR hW => ⟨⟨fun _ => hSR.1, fun _ => hSR.2⟩, hW hSR⟩))
end Adj
end
