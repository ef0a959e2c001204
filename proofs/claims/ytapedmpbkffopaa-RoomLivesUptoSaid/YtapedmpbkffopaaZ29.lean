/-
  The walk of the reference's Lives; A graph that comes in, opened; how long its lists are where what is read is small; How a law's row is met, once for all laws of plain data: if the law returns true on whatever can be read, and turns nothing of what was there, its row holds; How a law's row with a bound on what it reads ('..UptoSaid') is met, once for all laws of plain data. Conditions: where the theorems name them.
-/
import Derived.Test.YtapedmpbkffopaaZ22
import Derived.Test.YtapedmpbkffopaaZ28
import Derived.Lib.SmallJoins
import Derived.Deep.Slices
import Derived.Deep.Fields
import Derived.ChangeSame
import Derived.Test.YtapedmpbkffopaaRows
import Derived.WalkKit
import Derived.ProofKit
import Derived.SizedLaws
import Derived.WideKeyArgs
import Derived.JoinedCond
section
namespace AdjD
def upArg (k t q1 : Int) (l : List Int) : Int := if k ∈ l ∧ t < q1 then q1 else t
theorem upArg_nil (k t q1 : Int) : upArg k t q1 [] = t := if_neg (by simp)
theorem upArg_miss {k t q1 a : Int} {l : List Int} (h : a ≠ k) : upArg k t q1 (l ++ [a]) = upArg k t q1 l := by
 unfold upArg
 have e : (k ∈ l ++ [a]) ↔ k ∈ l := by simp [Ne.symm h]
 simp only [e]
theorem upArg_lt {k t q1 : Int} {l : List Int} (h : upArg k t q1 l < q1) : upArg k t q1 (l ++ [k]) = q1 := by
 unfold upArg at h ⊢
 by_cases ht : t < q1
 ·rw [if_pos ⟨by simp, ht⟩]
 ·rw [if_neg (fun e => ht e.2)] at h; exact absurd h ht
theorem upArg_ge {k t q1 : Int} {l : List Int} (h : ¬ upArg k t q1 l < q1) : upArg k t q1 (l ++ [k]) = upArg k t q1 l := by
 unfold upArg at h ⊢
 by_cases hc : k ∈ l ∧ t < q1
 ·rw [if_pos hc, if_pos ⟨by simp, hc.2⟩]
 ·rw [if_neg hc] at h ⊢
  rw [if_neg (fun e => h e.2)]
theorem ints3_at : ∀ (L : List (Int × Int × Int)) (i : Nat) (h : i < L.length), (ints3 L)[i * 3]? = some L[i].1 ∧ (ints3 L)[i * 3 + 1]? = some L[i].2.1 ∧ (ints3 L)[i * 3 + 2]? = some L[i].2.2
 | x :: l, 0, _ => by
  have e : ints3 (x :: l) = x.1 :: x.2.1 :: x.2.2 :: ints3 l := rfl
  rw [e]; exact ⟨rfl, rfl, rfl⟩
 | x :: l, i + 1, h => by
  have e : ints3 (x :: l) = x.1 :: x.2.1 :: x.2.2 :: ints3 l := rfl
  obtain ⟨h1, h2, h3⟩ := ints3_at l i (by simpa using h)
  rw [e, show (i + 1) * 3 = i * 3 + 3 by omega, show i * 3 + 3 + 1 = i * 3 + 1 + 3 by omega, show i * 3 + 3 + 2 = i * 3 + 2 + 3 by omega]
  simpa using ⟨h1, h2, h3⟩
end AdjD
namespace Go.Proofs.Ytapedmpbkffopaa
set_option linter.unusedVariables false
open Go.RowKit Adj
namespace Gr
def LivesR (w w' : World) (g : AdjD.Graph) (e : Ending) : Prop :=
 (∃ A n c, e = .returned (.tuple #[.slice A n c, .int .i64 (AdjD.look g).2]) ∧ ((AdjD.look g).2 = 0 → n = g.nodes.length ∧ LivesAt w' A n (AdjD.lifeOf g (AdjD.look g).1)) ∧ ((AdjD.look g).2 ≠ 0 → n = 0)) ∧ Below w.heap.size w w'
theorem own_form {w : World} {N s n : Nat} {e : TypeId} {v : Value} {xs : List Value} (hs : 0 < s) (h : w.ownsRow N e s v n xs) : ∃ A c, v = .slice A n c := by
 rcases h.2 with ⟨e1, h0⟩ | ⟨g', cap, cur, e1, _⟩
 ·subst h0; exact ⟨_, _, e1⟩
 ·exact ⟨_, _, e1⟩
theorem lives_own {w : World} {N n c : Nat} {A : Option Addr} {F : Nat → Int × Int × Int} (h : w.ownsRow N 31 3 (.slice A n c) n (ints (AdjD.ints3 ((List.range n).map F)))) : LivesAt w A n F := fun hp => by
 obtain ⟨g, cap, hv, _, hlt⟩ := h.form hp
 have hA : A = some ⟨g, 0, none⟩ := by injection hv
 subst hA
 refine ⟨g, 0, rfl, hlt, fun i hi => ?_⟩
 have hL : i < ((List.range n).map F).length := by simp; exact hi
 obtain ⟨e1, e2, e3⟩ := AdjD.ints3_at ((List.range n).map F) i hL
 have hc : ∀ j x, (AdjD.ints3 ((List.range n).map F))[j]? = some x → w.cell? ⟨g, 0 + j, none⟩ = some (.int .i64 x) := fun j x hx => by
  have h1 := h.cells (g := g) rfl j (.int .i64 x) (by unfold ints; rw [List.getElem?_map, hx]; rfl)
  unfold Addr.add at h1
  split at h1
  ·rename_i e; subst e; exact h1
  ·simpa using h1
 simp only [List.getElem_map, List.getElem_range] at e1 e2 e3
 exact ⟨hc _ _ e1, hc _ _ e2, hc _ _ e3⟩
end Gr
set_option maxRecDepth 100000 in
set_option maxHeartbeats 8000000 in
theorem Gr.lives2_any (val : Value) (g : AdjD.Graph) (B : Nat) (w : World) (hB : B ≤ w.heap.size) (hsh : Gr.GShort g) (h : Gr.GraphAt w B val g) :
    Calls Try.prog 5 #[val] w fun e w' => Gr.LivesR w w' g e := by
 have HG := Lib.hid (fun W (hb : Below w.heap.size w W) => (h.below (hb.mono hB)).up (Nat.le_trans hB hb.size))
 obtain ⟨A, c, vo, rfl, hns, hn, hc, ⟨O, co, rfl, io, lo, mo⟩⟩ := h
 have HX := Lib.hid (Blk.new w 25 #[.slice A g.nodes.length c, .slice O g.outs.length co])
 have HB := Lib.hid ((Below.refl w.heap.size w).alloc (Nat.le_refl _) (.cells #[.slice A g.nodes.length c, .slice O g.outs.length co] 25))
 obtain ⟨w0, hw0⟩ : ∃ w0, w.alloc (.cells #[.slice A g.nodes.length c, .slice O g.outs.length co] 25) = w0 := ⟨_, rfl⟩
 rw [hw0] at HX HB
 have hws : w.heap.size < w0.heap.size := HX.out.lt
 have b0 : w0.cell? ⟨w.heap.size, 0, none⟩ = some (.slice A g.nodes.length c) := HX.out.cell 0
 have b1 : w0.cell? ⟨w.heap.size, 1, none⟩ = some (.slice O g.outs.length co) := HX.out.cell 1
 have HDM := Lib.hid (Gr.dims5_any _ g w0.heap.size w0 (Nat.le_refl _) hsh (HG.out w0 HB.out))
 have HFI := Lib.hid (AdjD.look_fine (g := g))
 have HLO := Lib.hid (And.intro lo mo)
 obtain ⟨⟨ds, er⟩, hr⟩ : ∃ r, AdjD.look g = r := ⟨_, rfl⟩
 have HLK := Lib.hid hr
 rw [hr] at HDM HFI
 dsimp only at HFI
 clear hr hsh
 by_cases he : er = 0
 ·subst he
  obtain ⟨f1, f2, f3, f4, f5⟩ := HFI.out rfl
  have HF3 := Lib.hid f3
  obtain ⟨n, hnn⟩ : ∃ n, g.nodes.length = n := ⟨_, rfl⟩
  have HN := Lib.hid hnn
  have HDL := Lib.hid (f1.trans hnn)
  rw [hnn] at HX b0 hw0 f2 HDM HG ⊢
  clear f1 f3 f4 f5 HFI hnn hn hc
  go_enter Try.func5, Try.ntmps5
  go_wp2_with fail
  ((with_reducible refine HDM.out.mono ?_); rintro e w1 ⟨⟨A1, n1, c1, rfl, hn1, hn2, hn3, hls⟩, hb1⟩)
  have hnd : n1 = n := hn1.trans HDL.out
  subst hnd
  have HLS := Lib.hid hls
  have HB1 := Lib.hid (HB.out.trans (hb1.mono HB.out.size))
  have HX1 := Lib.hid (HX.out.below hb1 HX.out.lt)
  have hsw1 : w.heap.size < w1.heap.size := HX1.out.lt
  have HBZ := Lib.hid (Below.refl w1.heap.size w1)
  clear hls hb1 b0 b1 hn1
  go_wp2_with fail
  go_loopw [6, 28] (fun v kv wr => ∃ k : Nat, kv = .int .i64 (k : Int) ∧ k ≤ n1 ∧ Below w1.heap.size w1 wr ∧ (∃ Av cv, v = .slice Av k cv) ∧ wr.ownsRow w1.heap.size 31 3 v k (ints (AdjD.ints3 ((List.range k).map (AdjD.lifeOf g ds))))) (fun _ kv _ => n1 - (intOf kv).toNat)
  case atStart => exact ⟨0, rfl, by omega, HBZ.out, ⟨_, _, rfl⟩, rfl, .inl ⟨rfl, rfl⟩⟩
  case round =>
   obtain ⟨k, rfl, hk, hb, ⟨Av, cv, rfl⟩, hown⟩ := hrel
   obtain ⟨wo, hwo⟩ : ∃ wo : World, wo = wr := ⟨_, rfl⟩
   subst hwo
   obtain ⟨n, hnq⟩ : ∃ n, n = n1 := ⟨_, rfl⟩
   subst hnq
   have HB2 := Lib.hid hb
   have HO := Lib.hid hown
   have hPo : w1.heap.size ≤ wo.heap.size := hb.size
   clear hb hown
   by_cases hkn : k < n
   ·have HBW := Lib.hid (fun W (hb : Below wo.heap.size wo W) => show Below w.heap.size w W from HB1.out.trans ((HB2.out.trans (hb.mono hPo)).mono (Nat.le_of_lt hsw1)))
    have hBo : B ≤ wo.heap.size := by omega
    have HXW := Lib.hid (fun W (hb : Below wo.heap.size wo W) => show Blk W w.heap.size 25 #[.slice A n c, .slice O g.outs.length co] from HX1.out.below (HB2.out.trans (hb.mono hPo)) hsw1)
    have HNS := Lib.hid (fun W (hb : Below wo.heap.size wo W) => hns.below ((HBW.out W hb).mono hB))
    have HOS := Lib.hid (fun W (hb : Below wo.heap.size wo W) => io.below ((HBW.out W hb).mono hB))
    have hkd : k < ds.length := by have := HDL.out; omega
    obtain ⟨bd, od, rfl, hbd, gd⟩ := (HLS.out.below HB2.out) (by omega)
    obtain ⟨vd, cvd, Ad, cd, rfl, id, ld, md⟩ := gd k hkd
    have HFD := Lib.hid (HF3.out ds[k] (List.getElem_mem _))
    have HWD := Lib.hid (show (AdjV.size ds[k]).1 = (AdjV.size (ds.getD k [])).1 by simp [List.getD_eq_getElem?_getD, hkd])
    have HSZ := Lib.hid (refSize_any Ad cd ds[k] w1.heap.size wo (by omega) id)
    have i1 : (0 : Int) ≤ (k : Int) := by omega
    have i2 : (k : Int) < (n : Int) := by omega
    unfold Vw.sizeR at HSZ
    rw [HFD.out] at HSZ
    clear gd id
    generalize ds[k] = dk at cvd HSZ HWD ld
    obtain ⟨sz, hsz⟩ : ∃ sz, (AdjV.size dk).1 = sz := ⟨_, rfl⟩
    have HSZV := Lib.hid (show (AdjV.size (ds.getD k [])).1 = sz by rw [← HWD.out]; exact hsz)
    rw [hsz] at HSZ
    have HKA := Lib.hid (Blk.new wo 31 #[.int .i64 (k : Int), .int .i64 ((k : Int) + 1), .int .i64 sz])
    have HBA := Lib.hid ((Below.refl wo.heap.size wo).alloc (Nat.le_refl _) (.cells #[.int .i64 (k : Int), .int .i64 ((k : Int) + 1), .int .i64 sz] 31))
    obtain ⟨wb, hwb⟩ : ∃ wb, wo.alloc (.cells #[.int .i64 (k : Int), .int .i64 ((k : Int) + 1), .int .i64 sz] 31) = wb := ⟨_, rfl⟩
    have y0 : (wo.alloc (.cells #[.int .i64 (k : Int), .int .i64 ((k : Int) + 1), .int .i64 sz] 31)).cell? ⟨w.heap.size, 0, none⟩ = some (.slice A n c) := (HXW.out _ HBA.out).cell 0
    have y1 : (wo.alloc (.cells #[.int .i64 (k : Int), .int .i64 ((k : Int) + 1), .int .i64 sz] 31)).cell? ⟨w.heap.size, 1, none⟩ = some (.slice O g.outs.length co) := (HXW.out _ HBA.out).cell 1
    rw [hwb] at HKA HBA
    have HWB := Lib.hid hwb
    have HPC := Lib.hid (Gr.params2_any _ g wb.heap.size wb (Nat.le_refl _) (HG.out wb (HBW.out wb HBA.out)))
    obtain ⟨pp, hpp⟩ : ∃ q, AdjD.params g.nodes = q := ⟨_, rfl⟩
    have HPA := Lib.hid hpp
    rw [hpp] at HPC
    have hPb : wo.heap.size < wb.heap.size := HKA.out.lt
    clear hwb hpp hsz
    go_wp2_with fail
    ((with_reducible refine HSZ.out.mono ?_); rintro e w7 ⟨rfl, hw7⟩)
    subst hw7
    go_wp2_with fail
    simp only [HWB.out]
    ((with_reducible refine HPC.out.mono ?_); rintro e w4 ⟨rfl, hb4⟩)
    have HK4 := Lib.hid (HKA.out.below hb4 hPb)
    have HB4 := Lib.hid (HBA.out.trans (hb4.mono (Nat.le_of_lt hPb)))
    clear hb4 y0 y1 cvd
    by_cases hkp : k < pp
    ·obtain ⟨fr, hfr⟩ : ∃ fr : Int, fr = 0 := ⟨_, rfl⟩
     have HFR := Lib.hid (show (if k < AdjD.params g.nodes then (0 : Int) else (k : Int)) = fr by rw [HPA.out, if_pos hkp, hfr])
     have k0 : w4.cell? ⟨wo.heap.size, 0, none⟩ = some (.int .i64 (k : Int)) := HK4.out.cell 0
     have fz := HK4.out.frozen 0
     have HKB := Lib.hid (show Blk (w4.setCell ⟨wo.heap.size, 0, none⟩ (.int .i64 0)) wo.heap.size 31 #[.int .i64 fr, .int .i64 ((k : Int) + 1), .int .i64 sz] by
      have h := HK4.out.set_ 0 (.int .i64 0)
      simp only [List.setIfInBounds_toArray, List.set_cons_zero] at h
      rw [hfr]; exact h)
     have HKW := Lib.hid (HB4.out.setCell (p := ⟨wo.heap.size, 0, none⟩) (Nat.le_refl _) (.int .i64 0))
     have y9 : (w4.setCell ⟨wo.heap.size, 0, none⟩ (.int .i64 0)).cell? ⟨w.heap.size, 0, none⟩ = some (.slice A n c) := (HXW.out _ HKW.out).cell 0
     clear hfr
     go_wp2_with fail
     clear hkp y9 fz k0
     generalize (w4.setCell ⟨wo.heap.size, 0, none⟩ (.int .i64 0)) = wz at HKB HKW ⊢
     have y0 : wz.cell? ⟨w.heap.size, 0, none⟩ = some (.slice A n c) := (HXW.out wz HKW.out).cell 0
     go_wp2_with fail
     go_loopw [51] (fun jv wr => ∃ q : Nat, jv = .int .i64 (q : Int) ∧ q ≤ n ∧ Below wo.heap.size wo wr ∧ Blk wr wo.heap.size 31 #[.int .i64 fr, .int .i64 (AdjD.upTo k (g.nodes.take q) 0 ((k : Int) + 1)), .int .i64 sz]) (fun jv _ => n - (intOf jv).toNat)
     case atStart => exact ⟨0, rfl, by omega, HKW.out, HKB.out⟩
     case round =>
      obtain ⟨q, rfl, hq, hbq, hkq⟩ := hrel
      obtain ⟨wq, hwq⟩ : ∃ wq : World, wq = wr := ⟨_, rfl⟩
      subst hwq
      have HBQ := Lib.hid hbq
      have HKQ := Lib.hid hkq
      have hPq : wo.heap.size < wq.heap.size := hkq.lt
      have y0 : wq.cell? ⟨w.heap.size, 0, none⟩ = some (.slice A n c) := (HXW.out wq hbq).cell 0
      have y1 : wq.cell? ⟨w.heap.size, 1, none⟩ = some (.slice O g.outs.length co) := (HXW.out wq hbq).cell 1
      clear hbq hkq
      by_cases hqn : q < n
      ·have hql : q < g.nodes.length := by have := HN.out; omega
       obtain ⟨bn, on, rfl, hbn, gn⟩ := HNS.out wq HBQ.out (by omega)
       obtain ⟨v1, v2, v3, v4, v5, v6, ⟨z0, z1, z2, z3, z4, z5, z6, z7⟩, ⟨D1, e1, rfl, _⟩, ⟨D2, e2, rfl, _⟩, ⟨D3, e3, rfl, _⟩, ⟨D4, e4, rfl, _⟩, ⟨D5, e5, rfl, _⟩, ⟨D6, e6, rfl, i6, l6, m6⟩⟩ := gn q hql
       have HUP := Lib.hid (AdjD.upTo_take k g.nodes q hql ((k : Int) + 1))
       have q1 : (0 : Int) ≤ (q : Int) := by omega
       have q2 : (q : Int) < (n : Int) := by omega
       clear gn
       generalize g.nodes[q] = x at z0 z1 z2 z3 z4 z5 z6 z7 i6 l6 HUP
       generalize AdjD.upTo k (g.nodes.take q) 0 ((k : Int) + 1) = tq at HUP HKQ
       have HI6 := Lib.hid (fun W (hb : Below wo.heap.size wo W) => show Vw.IntsAt W B D6 x.args from fun hp => by
        obtain ⟨b, off, e, hlt, hc⟩ := i6 hp
        exact ⟨b, off, e, hlt, fun j hj => ((hb.cell (p := ⟨b, off + j, none⟩) (by show b < _; omega)).trans (HBQ.out.cell (p := ⟨b, off + j, none⟩) (by show b < _; omega)).symm).trans (hc j hj)⟩)
       have HM6 := Lib.hid (And.intro l6 m6)
       have HAL := Lib.hid (Blk.new wq 39 #[.int .i64 x.op.kind, .slice D1 x.op.dims.length e1, .slice D2 x.op.at_.length e2, .slice D3 x.op.lo.length e3, .slice D4 x.op.hi.length e4, .slice D5 x.op.step.length e5, .int .i64 x.op.value, .slice D6 x.args.length e6])
       have HBa := Lib.hid ((Below.refl wq.heap.size wq).alloc (Nat.le_refl _) (.cells #[.int .i64 x.op.kind, .slice D1 x.op.dims.length e1, .slice D2 x.op.at_.length e2, .slice D3 x.op.lo.length e3, .slice D4 x.op.hi.length e4, .slice D5 x.op.step.length e5, .int .i64 x.op.value, .slice D6 x.args.length e6] 39))
       have HKA := Lib.hid (HKQ.out.alloc (.cells #[.int .i64 x.op.kind, .slice D1 x.op.dims.length e1, .slice D2 x.op.at_.length e2, .slice D3 x.op.lo.length e3, .slice D4 x.op.hi.length e4, .slice D5 x.op.step.length e5, .int .i64 x.op.value, .slice D6 x.args.length e6] 39))
       obtain ⟨wa, hwa⟩ : ∃ wa, wq.alloc (.cells #[.int .i64 x.op.kind, .slice D1 x.op.dims.length e1, .slice D2 x.op.at_.length e2, .slice D3 x.op.lo.length e3, .slice D4 x.op.hi.length e4, .slice D5 x.op.step.length e5, .int .i64 x.op.value, .slice D6 x.args.length e6] 39) = wa := ⟨_, rfl⟩
       have a7 : (wq.alloc (.cells #[.int .i64 x.op.kind, .slice D1 x.op.dims.length e1, .slice D2 x.op.at_.length e2, .slice D3 x.op.lo.length e3, .slice D4 x.op.hi.length e4, .slice D5 x.op.step.length e5, .int .i64 x.op.value, .slice D6 x.args.length e6] 39)).cell? ⟨wq.heap.size, 7, none⟩ = some (.slice D6 x.args.length e6) := HAL.out.cell 7
       rw [hwa] at HAL HBa HKA
       have HWA := Lib.hid hwa
       have HBA := Lib.hid (HBQ.out.trans (HBa.out.mono (Nat.le_of_lt hPq)))
       clear hwa i6 l6 m6
       go_wp2_with fail
       simp only [HWA.out]
       go_loopw [59] (fun rv wr => ∃ r : Nat, rv = .int .i64 (r : Int) ∧ r ≤ x.args.length ∧ Below wo.heap.size wo wr ∧ Blk wr wo.heap.size 31 #[.int .i64 fr, .int .i64 (AdjD.upArg k tq ((q : Int) + 1) (x.args.take r)), .int .i64 sz]) (fun rv _ => x.args.length - (intOf rv).toNat)
       case atStart => exact ⟨0, rfl, by omega, HBA.out, by rw [List.take_zero, AdjD.upArg_nil]; exact HKA.out⟩
       case round =>
        obtain ⟨r, rfl, hr, hbr, hkr⟩ := hrel
        have HBR := Lib.hid hbr
        have HKR := Lib.hid hkr
        clear hbr hkr
        by_cases hrn : r < x.args.length
        ·obtain ⟨bg, og, rfl, hbg, gg⟩ := HI6.out wr HBR.out (by omega)
         have cg1 := gg r hrn
         have HTK := Lib.hid (List.take_succ_eq_append_getElem hrn)
         have r1 : (0 : Int) ≤ (r : Int) := by omega
         have r2 : (r : Int) < (x.args.length : Int) := by omega
         have hr1 : r + 1 ≤ 9223372036854775807 := by have := HM6.out; omega
         clear gg
         generalize x.args[r] = a0 at cg1 HTK
         generalize x.args.take r = lr at HKR HTK
         have k1 : wr.cell? ⟨wo.heap.size, 1, none⟩ = some (.int .i64 (AdjD.upArg k tq ((q : Int) + 1) lr)) := HKR.out.cell 1
         by_cases ha : a0 = (k : Int)
         ·subst ha
          by_cases hlt : AdjD.upArg k tq ((q : Int) + 1) lr < (q : Int) + 1
          ·have HE := Lib.hid (AdjD.upArg_lt hlt)
           have fz := HKR.out.frozen 1
           have HKS := Lib.hid (HKR.out.set_ 1 (.int .i64 ((q : Int) + 1)))
           have HBS := Lib.hid (HBR.out.setCell (p := ⟨wo.heap.size, 1, none⟩) (Nat.le_refl _) (.int .i64 ((q : Int) + 1)))
           generalize AdjD.upArg k tq ((q : Int) + 1) lr = cu at k1 hlt HKS
           simp only [List.setIfInBounds_toArray, List.set_cons_zero, List.set_cons_succ] at HKS
           go_wp2_with fail
           go_roundw
           case rel => exact ⟨r + 1, by go_num, by omega, HBS.out, by rw [HTK.out, HE.out]; exact HKS.out⟩
           case measure => simp [intOf]; omega
          ·have HE := Lib.hid (AdjD.upArg_ge hlt)
           generalize hcu : AdjD.upArg k tq ((q : Int) + 1) lr = cu at k1 hlt HKR HE
           clear hcu
           go_wp2_with fail
           go_roundw
           case rel => exact ⟨r + 1, by go_num, by omega, HBR.out, by rw [HTK.out, HE.out]; exact HKR.out⟩
           case measure => simp [intOf]; omega
         ·have HE := Lib.hid (AdjD.upArg_miss (t := tq) (q1 := (q : Int) + 1) (l := lr) ha)
          have hq3 : (a0 == (k : Int)) = false := by simpa using ha
          clear ha
          go_wp2_with fail
          go_roundw
          case rel => exact ⟨r + 1, by go_num, by omega, HBR.out, by rw [HTK.out, HE.out]; exact HKR.out⟩
          case measure => simp [intOf]; omega
        ·have hre : r = x.args.length := by omega
         have HKN := Lib.hid (show Blk wr wo.heap.size 31 #[.int .i64 fr, .int .i64 (AdjD.upTo k (g.nodes.take (q + 1)) 0 ((k : Int) + 1)), .int .i64 sz] by
          rw [HUP.out]
          have h := HKR.out
          rw [hre, List.take_length] at h
          exact h)
         subst hre
         go_wp2_with fail
         go_roundw
         case rel => exact ⟨q + 1, by go_num, by omega, HBR.out, HKN.out⟩
         case measure => simp [intOf]; omega
      ·have hqe : q = n := by omega
       have HKU := Lib.hid (show Blk wq wo.heap.size 31 #[.int .i64 fr, .int .i64 (AdjD.upTo k g.nodes 0 ((k : Int) + 1)), .int .i64 sz] by
        have h := HKQ.out
        rwa [hqe, ← HN.out, List.take_length] at h)
       clear hqe
       obtain ⟨U, hU⟩ : ∃ U, AdjD.upTo k g.nodes 0 ((k : Int) + 1) = U := ⟨_, rfl⟩
       have HUU := Lib.hid hU
       rw [hU] at HKU
       clear hU
       go_wp2_with fail
       go_loopw [81] (fun sv wr => ∃ s : Nat, sv = .int .i64 (s : Int) ∧ s ≤ g.outs.length ∧ Below wo.heap.size wo wr ∧ Blk wr wo.heap.size 31 #[.int .i64 fr, .int .i64 (if (k : Int) ∈ g.outs.take s then (n : Int) + 1 else U), .int .i64 sz]) (fun sv _ => g.outs.length - (intOf sv).toNat)
       case atStart => exact ⟨0, rfl, by omega, HBQ.out, by rw [List.take_zero, if_neg (by simp)]; exact HKU.out⟩
       case round =>
        obtain ⟨s, rfl, hs, hbs, hks⟩ := hrel
        have HBS := Lib.hid hbs
        have HKS := Lib.hid hks
        clear hbs hks
        by_cases hsn : s < g.outs.length
        ·obtain ⟨bg, og, rfl, hbg, gg⟩ := HOS.out wr HBS.out (by omega)
         have cg1 := gg s hsn
         have HTK := Lib.hid (List.take_succ_eq_append_getElem hsn)
         have s1 : (0 : Int) ≤ (s : Int) := by omega
         have s2 : (s : Int) < (g.outs.length : Int) := by omega
         have hs1 : s + 1 ≤ 9223372036854775807 := by have := HLO.out; omega
         clear gg
         generalize g.outs[s] = a0 at cg1 HTK
         generalize g.outs.take s = lr at HKS HTK
         by_cases ha : a0 = (k : Int)
         ·subst ha
          have HE := Lib.hid (show (k : Int) ∈ lr ++ [(k : Int)] by simp)
          generalize (if (k : Int) ∈ lr then (n : Int) + 1 else U) = cu at HKS
          have k1 : wr.cell? ⟨wo.heap.size, 1, none⟩ = some (.int .i64 cu) := HKS.out.cell 1
          have fz := HKS.out.frozen 1
          have HKT := Lib.hid (HKS.out.set_ 1 (.int .i64 ((n : Int) + 1)))
          have HBT := Lib.hid (HBS.out.setCell (p := ⟨wo.heap.size, 1, none⟩) (Nat.le_refl _) (.int .i64 ((n : Int) + 1)))
          simp only [List.setIfInBounds_toArray, List.set_cons_zero, List.set_cons_succ] at HKT
          go_wp2_with fail
          go_roundw
          case rel => exact ⟨s + 1, by go_num, by omega, HBT.out, by rw [HTK.out, if_pos HE.out]; exact HKT.out⟩
          case measure => simp [intOf]; omega
         ·have HE := Lib.hid (show ((k : Int) ∈ lr ++ [a0]) = ((k : Int) ∈ lr) by simp [Ne.symm ha])
          have hq3 : (a0 == (k : Int)) = false := by simpa using ha
          clear ha
          go_wp2_with fail
          go_roundw
          case rel => exact ⟨s + 1, by go_num, by omega, HBS.out, by rw [HTK.out]; simp only [HE.out]; exact HKS.out⟩
          case measure => simp [intOf]; omega
        ·have hse : s = g.outs.length := by omega
         have HKF := Lib.hid (show Blk wr wo.heap.size 31 #[.int .i64 (AdjD.lifeOf g ds k).1, .int .i64 (AdjD.lifeOf g ds k).2.1, .int .i64 (AdjD.lifeOf g ds k).2.2] by
          have h := HKS.out
          rw [hse, List.take_length, ← HUU.out, ← HFR.out, ← HSZV.out] at h
          unfold AdjD.lifeOf
          rw [HN.out]
          exact h)
         subst hse
         have HMAP := Lib.hid (show ints (AdjD.ints3 ((List.range (k + 1)).map (AdjD.lifeOf g ds))) = ints (AdjD.ints3 ((List.range k).map (AdjD.lifeOf g ds))) ++ [.int .i64 (AdjD.lifeOf g ds k).1, .int .i64 (AdjD.lifeOf g ds k).2.1, .int .i64 (AdjD.lifeOf g ds k).2.2] by
          rw [List.range_succ, List.map_append, AdjD.ints3_append]; unfold ints; rw [List.map_append]; rfl)
         clear HKS HUU
         generalize (AdjD.lifeOf g ds k).1 = q0 at HKF HMAP
         generalize (AdjD.lifeOf g ds k).2.1 = q1 at HKF HMAP
         generalize (AdjD.lifeOf g ds k).2.2 = q2 at HKF HMAP
         have k0 : wr.cell? ⟨wo.heap.size, 0, none⟩ = some (.int .i64 q0) := HKF.out.cell 0
         have k1 : wr.cell? ⟨wo.heap.size, 1, none⟩ = some (.int .i64 q1) := HKF.out.cell 1
         have k2 : wr.cell? ⟨wo.heap.size, 2, none⟩ = some (.int .i64 q2) := HKF.out.cell 2
         have HOW := Lib.hid (Ar.own_keep HO.out (fun g hg => HBS.out.block g (HO.out.lt g hg).2))
         have hwx : w1.heap.size ≤ wr.heap.size := Nat.le_trans HB2.out.size HBS.out.size
         have HBX := Lib.hid (HB2.out.trans (HBS.out.mono HB2.out.size))
         obtain ⟨i0, g1, g2, g3, g4⟩ := info_parts Try.infoLife
         go_wp2_with (at_builtin; refine wpList_append_any _ rfl _ _ 26 rfl w1.heap.size 31 i0 (.agg #[.int .i64 0, .int .i64 0, .int .i64 0]) 3 24 Try.underlying26 g1 g2 g3 g4 rfl (by decide) (.slice Av k cv) k _ rfl (HOW.out.alloc _) _ (some ⟨wr.heap.size, 0, none⟩) 1 1 [.int .i64 q0, .int .i64 q1, .int .i64 q2] rfl (Ar.reads_cells (Blk.new wr 31 #[.int .i64 q0, .int .i64 q1, .int .i64 q2]) rfl) (by intro u hu; simp at hu; rcases hu with rfl | rfl | rfl <;> rfl) (by unfold maxLen; omega) (by omega) (by simp; omega) ?_)
         intro v' w6 how hgr _
         have HB6 := Lib.hid ((HBX.out.alloc hwx (.cells #[.int .i64 q0, .int .i64 q1, .int .i64 q2] 31)).grown hgr (by simp; omega) (fun g hg => (HOW.out.lt g hg).1))
         have HO6 := Lib.hid (show w6.ownsRow w1.heap.size 31 3 v' (k + 1) (ints (AdjD.ints3 ((List.range (k + 1)).map (AdjD.lifeOf g ds)))) by rw [HMAP.out]; exact how)
         obtain ⟨A6, c6, rfl⟩ := Gr.own_form (by decide) HO6.out
         clear how hgr
         go_wp2_with fail
         go_roundw
         case rel => exact ⟨k + 1, by go_num, by omega, HB6.out, ⟨_, _, rfl⟩, HO6.out⟩
         case measure => simp [intOf]; omega
    ·obtain ⟨fr, hfr⟩ : ∃ fr : Int, fr = (k : Int) := ⟨_, rfl⟩
     have HFR := Lib.hid (show (if k < AdjD.params g.nodes then (0 : Int) else (k : Int)) = fr by rw [HPA.out, if_neg hkp, hfr])
     have HKB := Lib.hid (show Blk w4 wo.heap.size 31 #[.int .i64 fr, .int .i64 ((k : Int) + 1), .int .i64 sz] by rw [hfr]; exact HK4.out)
     have HKW := HB4
     have y9 : w4.cell? ⟨w.heap.size, 0, none⟩ = some (.slice A n c) := (HXW.out _ HKW.out).cell 0
     clear hfr
     go_wp2_with fail
     clear hkp y9
     generalize w4 = wz at HKB HKW ⊢
     have y0 : wz.cell? ⟨w.heap.size, 0, none⟩ = some (.slice A n c) := (HXW.out wz HKW.out).cell 0
     go_wp2_with fail
     go_loopw [51] (fun jv wr => ∃ q : Nat, jv = .int .i64 (q : Int) ∧ q ≤ n ∧ Below wo.heap.size wo wr ∧ Blk wr wo.heap.size 31 #[.int .i64 fr, .int .i64 (AdjD.upTo k (g.nodes.take q) 0 ((k : Int) + 1)), .int .i64 sz]) (fun jv _ => n - (intOf jv).toNat)
     case atStart => exact ⟨0, rfl, by omega, HKW.out, HKB.out⟩
     case round =>
      obtain ⟨q, rfl, hq, hbq, hkq⟩ := hrel
      obtain ⟨wq, hwq⟩ : ∃ wq : World, wq = wr := ⟨_, rfl⟩
      subst hwq
      have HBQ := Lib.hid hbq
      have HKQ := Lib.hid hkq
      have hPq : wo.heap.size < wq.heap.size := hkq.lt
      have y0 : wq.cell? ⟨w.heap.size, 0, none⟩ = some (.slice A n c) := (HXW.out wq hbq).cell 0
      have y1 : wq.cell? ⟨w.heap.size, 1, none⟩ = some (.slice O g.outs.length co) := (HXW.out wq hbq).cell 1
      clear hbq hkq
      by_cases hqn : q < n
      ·have hql : q < g.nodes.length := by have := HN.out; omega
       obtain ⟨bn, on, rfl, hbn, gn⟩ := HNS.out wq HBQ.out (by omega)
       obtain ⟨v1, v2, v3, v4, v5, v6, ⟨z0, z1, z2, z3, z4, z5, z6, z7⟩, ⟨D1, e1, rfl, _⟩, ⟨D2, e2, rfl, _⟩, ⟨D3, e3, rfl, _⟩, ⟨D4, e4, rfl, _⟩, ⟨D5, e5, rfl, _⟩, ⟨D6, e6, rfl, i6, l6, m6⟩⟩ := gn q hql
       have HUP := Lib.hid (AdjD.upTo_take k g.nodes q hql ((k : Int) + 1))
       have q1 : (0 : Int) ≤ (q : Int) := by omega
       have q2 : (q : Int) < (n : Int) := by omega
       clear gn
       generalize g.nodes[q] = x at z0 z1 z2 z3 z4 z5 z6 z7 i6 l6 HUP
       generalize AdjD.upTo k (g.nodes.take q) 0 ((k : Int) + 1) = tq at HUP HKQ
       have HI6 := Lib.hid (fun W (hb : Below wo.heap.size wo W) => show Vw.IntsAt W B D6 x.args from fun hp => by
        obtain ⟨b, off, e, hlt, hc⟩ := i6 hp
        exact ⟨b, off, e, hlt, fun j hj => ((hb.cell (p := ⟨b, off + j, none⟩) (by show b < _; omega)).trans (HBQ.out.cell (p := ⟨b, off + j, none⟩) (by show b < _; omega)).symm).trans (hc j hj)⟩)
       have HM6 := Lib.hid (And.intro l6 m6)
       have HAL := Lib.hid (Blk.new wq 39 #[.int .i64 x.op.kind, .slice D1 x.op.dims.length e1, .slice D2 x.op.at_.length e2, .slice D3 x.op.lo.length e3, .slice D4 x.op.hi.length e4, .slice D5 x.op.step.length e5, .int .i64 x.op.value, .slice D6 x.args.length e6])
       have HBa := Lib.hid ((Below.refl wq.heap.size wq).alloc (Nat.le_refl _) (.cells #[.int .i64 x.op.kind, .slice D1 x.op.dims.length e1, .slice D2 x.op.at_.length e2, .slice D3 x.op.lo.length e3, .slice D4 x.op.hi.length e4, .slice D5 x.op.step.length e5, .int .i64 x.op.value, .slice D6 x.args.length e6] 39))
       have HKA := Lib.hid (HKQ.out.alloc (.cells #[.int .i64 x.op.kind, .slice D1 x.op.dims.length e1, .slice D2 x.op.at_.length e2, .slice D3 x.op.lo.length e3, .slice D4 x.op.hi.length e4, .slice D5 x.op.step.length e5, .int .i64 x.op.value, .slice D6 x.args.length e6] 39))
       obtain ⟨wa, hwa⟩ : ∃ wa, wq.alloc (.cells #[.int .i64 x.op.kind, .slice D1 x.op.dims.length e1, .slice D2 x.op.at_.length e2, .slice D3 x.op.lo.length e3, .slice D4 x.op.hi.length e4, .slice D5 x.op.step.length e5, .int .i64 x.op.value, .slice D6 x.args.length e6] 39) = wa := ⟨_, rfl⟩
       have a7 : (wq.alloc (.cells #[.int .i64 x.op.kind, .slice D1 x.op.dims.length e1, .slice D2 x.op.at_.length e2, .slice D3 x.op.lo.length e3, .slice D4 x.op.hi.length e4, .slice D5 x.op.step.length e5, .int .i64 x.op.value, .slice D6 x.args.length e6] 39)).cell? ⟨wq.heap.size, 7, none⟩ = some (.slice D6 x.args.length e6) := HAL.out.cell 7
       rw [hwa] at HAL HBa HKA
       have HWA := Lib.hid hwa
       have HBA := Lib.hid (HBQ.out.trans (HBa.out.mono (Nat.le_of_lt hPq)))
       clear hwa i6 l6 m6
       go_wp2_with fail
       simp only [HWA.out]
       go_loopw [59] (fun rv wr => ∃ r : Nat, rv = .int .i64 (r : Int) ∧ r ≤ x.args.length ∧ Below wo.heap.size wo wr ∧ Blk wr wo.heap.size 31 #[.int .i64 fr, .int .i64 (AdjD.upArg k tq ((q : Int) + 1) (x.args.take r)), .int .i64 sz]) (fun rv _ => x.args.length - (intOf rv).toNat)
       case atStart => exact ⟨0, rfl, by omega, HBA.out, by rw [List.take_zero, AdjD.upArg_nil]; exact HKA.out⟩
       case round =>
        obtain ⟨r, rfl, hr, hbr, hkr⟩ := hrel
        have HBR := Lib.hid hbr
        have HKR := Lib.hid hkr
        clear hbr hkr
        by_cases hrn : r < x.args.length
        ·obtain ⟨bg, og, rfl, hbg, gg⟩ := HI6.out wr HBR.out (by omega)
         have cg1 := gg r hrn
         have HTK := Lib.hid (List.take_succ_eq_append_getElem hrn)
         have r1 : (0 : Int) ≤ (r : Int) := by omega
         have r2 : (r : Int) < (x.args.length : Int) := by omega
         have hr1 : r + 1 ≤ 9223372036854775807 := by have := HM6.out; omega
         clear gg
         generalize x.args[r] = a0 at cg1 HTK
         generalize x.args.take r = lr at HKR HTK
         have k1 : wr.cell? ⟨wo.heap.size, 1, none⟩ = some (.int .i64 (AdjD.upArg k tq ((q : Int) + 1) lr)) := HKR.out.cell 1
         by_cases ha : a0 = (k : Int)
         ·subst ha
          by_cases hlt : AdjD.upArg k tq ((q : Int) + 1) lr < (q : Int) + 1
          ·have HE := Lib.hid (AdjD.upArg_lt hlt)
           have fz := HKR.out.frozen 1
           have HKS := Lib.hid (HKR.out.set_ 1 (.int .i64 ((q : Int) + 1)))
           have HBS := Lib.hid (HBR.out.setCell (p := ⟨wo.heap.size, 1, none⟩) (Nat.le_refl _) (.int .i64 ((q : Int) + 1)))
           generalize AdjD.upArg k tq ((q : Int) + 1) lr = cu at k1 hlt HKS
           simp only [List.setIfInBounds_toArray, List.set_cons_zero, List.set_cons_succ] at HKS
           go_wp2_with fail
           go_roundw
           case rel => exact ⟨r + 1, by go_num, by omega, HBS.out, by rw [HTK.out, HE.out]; exact HKS.out⟩
           case measure => simp [intOf]; omega
          ·have HE := Lib.hid (AdjD.upArg_ge hlt)
           generalize hcu : AdjD.upArg k tq ((q : Int) + 1) lr = cu at k1 hlt HKR HE
           clear hcu
           go_wp2_with fail
           go_roundw
           case rel => exact ⟨r + 1, by go_num, by omega, HBR.out, by rw [HTK.out, HE.out]; exact HKR.out⟩
           case measure => simp [intOf]; omega
         ·have HE := Lib.hid (AdjD.upArg_miss (t := tq) (q1 := (q : Int) + 1) (l := lr) ha)
          have hq3 : (a0 == (k : Int)) = false := by simpa using ha
          clear ha
          go_wp2_with fail
          go_roundw
          case rel => exact ⟨r + 1, by go_num, by omega, HBR.out, by rw [HTK.out, HE.out]; exact HKR.out⟩
          case measure => simp [intOf]; omega
        ·have hre : r = x.args.length := by omega
         have HKN := Lib.hid (show Blk wr wo.heap.size 31 #[.int .i64 fr, .int .i64 (AdjD.upTo k (g.nodes.take (q + 1)) 0 ((k : Int) + 1)), .int .i64 sz] by
          rw [HUP.out]
          have h := HKR.out
          rw [hre, List.take_length] at h
          exact h)
         subst hre
         go_wp2_with fail
         go_roundw
         case rel => exact ⟨q + 1, by go_num, by omega, HBR.out, HKN.out⟩
         case measure => simp [intOf]; omega
      ·have hqe : q = n := by omega
       have HKU := Lib.hid (show Blk wq wo.heap.size 31 #[.int .i64 fr, .int .i64 (AdjD.upTo k g.nodes 0 ((k : Int) + 1)), .int .i64 sz] by
        have h := HKQ.out
        rwa [hqe, ← HN.out, List.take_length] at h)
       clear hqe
       obtain ⟨U, hU⟩ : ∃ U, AdjD.upTo k g.nodes 0 ((k : Int) + 1) = U := ⟨_, rfl⟩
       have HUU := Lib.hid hU
       rw [hU] at HKU
       clear hU
       go_wp2_with fail
       go_loopw [81] (fun sv wr => ∃ s : Nat, sv = .int .i64 (s : Int) ∧ s ≤ g.outs.length ∧ Below wo.heap.size wo wr ∧ Blk wr wo.heap.size 31 #[.int .i64 fr, .int .i64 (if (k : Int) ∈ g.outs.take s then (n : Int) + 1 else U), .int .i64 sz]) (fun sv _ => g.outs.length - (intOf sv).toNat)
       case atStart => exact ⟨0, rfl, by omega, HBQ.out, by rw [List.take_zero, if_neg (by simp)]; exact HKU.out⟩
       case round =>
        obtain ⟨s, rfl, hs, hbs, hks⟩ := hrel
        have HBS := Lib.hid hbs
        have HKS := Lib.hid hks
        clear hbs hks
        by_cases hsn : s < g.outs.length
        ·obtain ⟨bg, og, rfl, hbg, gg⟩ := HOS.out wr HBS.out (by omega)
         have cg1 := gg s hsn
         have HTK := Lib.hid (List.take_succ_eq_append_getElem hsn)
         have s1 : (0 : Int) ≤ (s : Int) := by omega
         have s2 : (s : Int) < (g.outs.length : Int) := by omega
         have hs1 : s + 1 ≤ 9223372036854775807 := by have := HLO.out; omega
         clear gg
         generalize g.outs[s] = a0 at cg1 HTK
         generalize g.outs.take s = lr at HKS HTK
         by_cases ha : a0 = (k : Int)
         ·subst ha
          have HE := Lib.hid (show (k : Int) ∈ lr ++ [(k : Int)] by simp)
          generalize (if (k : Int) ∈ lr then (n : Int) + 1 else U) = cu at HKS
          have k1 : wr.cell? ⟨wo.heap.size, 1, none⟩ = some (.int .i64 cu) := HKS.out.cell 1
          have fz := HKS.out.frozen 1
          have HKT := Lib.hid (HKS.out.set_ 1 (.int .i64 ((n : Int) + 1)))
          have HBT := Lib.hid (HBS.out.setCell (p := ⟨wo.heap.size, 1, none⟩) (Nat.le_refl _) (.int .i64 ((n : Int) + 1)))
          simp only [List.setIfInBounds_toArray, List.set_cons_zero, List.set_cons_succ] at HKT
          go_wp2_with fail
          go_roundw
          case rel => exact ⟨s + 1, by go_num, by omega, HBT.out, by rw [HTK.out, if_pos HE.out]; exact HKT.out⟩
          case measure => simp [intOf]; omega
         ·have HE := Lib.hid (show ((k : Int) ∈ lr ++ [a0]) = ((k : Int) ∈ lr) by simp [Ne.symm ha])
          have hq3 : (a0 == (k : Int)) = false := by simpa using ha
          clear ha
          go_wp2_with fail
          go_roundw
          case rel => exact ⟨s + 1, by go_num, by omega, HBS.out, by rw [HTK.out]; simp only [HE.out]; exact HKS.out⟩
          case measure => simp [intOf]; omega
        ·have hse : s = g.outs.length := by omega
         have HKF := Lib.hid (show Blk wr wo.heap.size 31 #[.int .i64 (AdjD.lifeOf g ds k).1, .int .i64 (AdjD.lifeOf g ds k).2.1, .int .i64 (AdjD.lifeOf g ds k).2.2] by
          have h := HKS.out
          rw [hse, List.take_length, ← HUU.out, ← HFR.out, ← HSZV.out] at h
          unfold AdjD.lifeOf
          rw [HN.out]
          exact h)
         subst hse
         have HMAP := Lib.hid (show ints (AdjD.ints3 ((List.range (k + 1)).map (AdjD.lifeOf g ds))) = ints (AdjD.ints3 ((List.range k).map (AdjD.lifeOf g ds))) ++ [.int .i64 (AdjD.lifeOf g ds k).1, .int .i64 (AdjD.lifeOf g ds k).2.1, .int .i64 (AdjD.lifeOf g ds k).2.2] by
          rw [List.range_succ, List.map_append, AdjD.ints3_append]; unfold ints; rw [List.map_append]; rfl)
         clear HKS HUU
         generalize (AdjD.lifeOf g ds k).1 = q0 at HKF HMAP
         generalize (AdjD.lifeOf g ds k).2.1 = q1 at HKF HMAP
         generalize (AdjD.lifeOf g ds k).2.2 = q2 at HKF HMAP
         have k0 : wr.cell? ⟨wo.heap.size, 0, none⟩ = some (.int .i64 q0) := HKF.out.cell 0
         have k1 : wr.cell? ⟨wo.heap.size, 1, none⟩ = some (.int .i64 q1) := HKF.out.cell 1
         have k2 : wr.cell? ⟨wo.heap.size, 2, none⟩ = some (.int .i64 q2) := HKF.out.cell 2
         have HOW := Lib.hid (Ar.own_keep HO.out (fun g hg => HBS.out.block g (HO.out.lt g hg).2))
         have hwx : w1.heap.size ≤ wr.heap.size := Nat.le_trans HB2.out.size HBS.out.size
         have HBX := Lib.hid (HB2.out.trans (HBS.out.mono HB2.out.size))
         obtain ⟨i0, g1, g2, g3, g4⟩ := info_parts Try.infoLife
         go_wp2_with (at_builtin; refine wpList_append_any _ rfl _ _ 26 rfl w1.heap.size 31 i0 (.agg #[.int .i64 0, .int .i64 0, .int .i64 0]) 3 24 Try.underlying26 g1 g2 g3 g4 rfl (by decide) (.slice Av k cv) k _ rfl (HOW.out.alloc _) _ (some ⟨wr.heap.size, 0, none⟩) 1 1 [.int .i64 q0, .int .i64 q1, .int .i64 q2] rfl (Ar.reads_cells (Blk.new wr 31 #[.int .i64 q0, .int .i64 q1, .int .i64 q2]) rfl) (by intro u hu; simp at hu; rcases hu with rfl | rfl | rfl <;> rfl) (by unfold maxLen; omega) (by omega) (by simp; omega) ?_)
         intro v' w6 how hgr _
         have HB6 := Lib.hid ((HBX.out.alloc hwx (.cells #[.int .i64 q0, .int .i64 q1, .int .i64 q2] 31)).grown hgr (by simp; omega) (fun g hg => (HOW.out.lt g hg).1))
         have HO6 := Lib.hid (show w6.ownsRow w1.heap.size 31 3 v' (k + 1) (ints (AdjD.ints3 ((List.range (k + 1)).map (AdjD.lifeOf g ds)))) by rw [HMAP.out]; exact how)
         obtain ⟨A6, c6, rfl⟩ := Gr.own_form (by decide) HO6.out
         clear how hgr
         go_wp2_with fail
         go_roundw
         case rel => exact ⟨k + 1, by go_num, by omega, HB6.out, ⟨_, _, rfl⟩, HO6.out⟩
         case measure => simp [intOf]; omega
   ·obtain rfl : k = n := by omega
    have HLV := Lib.hid (Gr.lives_own HO.out)
    have HBW := Lib.hid (HB1.out.trans (HB2.out.mono (Nat.le_of_lt hsw1)))
    go_wp2_with fail
    go_ret2
    exact ⟨⟨_, _, _, by rw [HLK.out]; rfl, fun _ => ⟨HN.out.symm, by rw [HLK.out]; exact HLV.out⟩, fun h => absurd (by rw [HLK.out]) h⟩, HBW.out⟩
 ·have HZ := Lib.hid (AdjD.look_bad (g := g) (by rw [HLK.out]; exact he))
  have hq : (er != 0) = true := by simpa using he
  have HE := Lib.hid he
  clear he HFI
  go_enter Try.func5, Try.ntmps5
  go_wp2_with fail
  ((with_reducible refine HDM.out.mono ?_); rintro e w1 ⟨⟨A1, n1, c1, rfl, hn1, _⟩, hb1⟩)
  have HB1 := Lib.hid (HB.out.trans (hb1.mono HB.out.size))
  clear hb1 hn1 b0 b1
  go_wp2_with fail
  go_ret2
  exact ⟨⟨none, 0, 0, by rw [HLK.out]; rfl, fun h => absurd (by rw [HLK.out] at h; exact h) HE.out, fun _ => rfl⟩, HB1.out⟩
end Go.Proofs.Ytapedmpbkffopaa
end
section
namespace Go.Proofs.Ytapedmpbkffopaa
set_option linter.unusedVariables false
open Go.RowKit Adj Go.WideShapes Go.ChangeShapes Go.Deep
namespace Bk
theorem some_bulk {H : Type} : ∀ d : DataW H, 1 ≤ Rows.uptoBulk d
 | .lit l => by cases l <;> simp [Rows.uptoBulk]
 | .nil => by simp [Rows.uptoBulk]
 | .ptr d => by simp [Rows.uptoBulk]
 | .slice a b => by simp [Rows.uptoBulk]
 | .agg l => by simp [Rows.uptoBulk]
 | .iface _ d => by simp [Rows.uptoBulk]
 | .map l => by simp [Rows.uptoBulk]
 | .held _ => by simp [Rows.uptoBulk]
theorem all_len {H : Type} : ∀ l : List (DataW H), l.length ≤ Rows.uptoBulkAll l
 | [] => by simp
 | d :: l => by
  have h1 := some_bulk d
  have h2 := all_len l
  simp only [Rows.uptoBulkAll, List.length_cons]
  omega
theorem all_mem {H : Type} : ∀ {l : List (DataW H)} {d : DataW H}, d ∈ l → Rows.uptoBulk d ≤ Rows.uptoBulkAll l
 | [], _, h => by cases h
 | x :: l, d, h => by
  simp only [Rows.uptoBulkAll]
  rcases List.mem_cons.1 h with e | e
  ·subst e; omega
  ·have := all_mem e; omega
theorem agg_mem {H : Type} {l : List (DataW H)} {d : DataW H} (h : d ∈ l) : Rows.uptoBulk d ≤ Rows.uptoBulk (.agg l) := by
 have := all_mem h
 simp only [Rows.uptoBulk]
 omega
theorem slice_mem {H : Type} {l m : List (DataW H)} {d : DataW H} (h : d ∈ l) : Rows.uptoBulk d ≤ Rows.uptoBulk (.slice l m) := by
 have := all_mem h
 simp only [Rows.uptoBulk]
 omega
theorem slice_len {H : Type} (l m : List (DataW H)) : l.length ≤ Rows.uptoBulk (.slice l m) := by
 have := all_len l
 simp only [Rows.uptoBulk]
 omega
end Bk
theorem Try.cellsI1 : Try.prog.cellsOf 3 = 1 := by kernel_rfl
theorem Try.cellsNode : Try.prog.cellsOf 39 = 8 := by kernel_rfl
theorem Try.cellsOp : Try.prog.cellsOf 37 = 7 := by kernel_rfl
section
variable {H : Type} {enc : TypeId × Value → H} {w : World}
theorem Op.head {a : Addr} {v : Value} (h : w.cell? (a.add 0) = some v) : ∃ b off, a = ⟨b, off, none⟩ ∧ b < w.heap.size := by
 obtain ⟨b, off, spot⟩ := a
 have hlt := World.block_lt_of_cell? w _ h
 have hadd : ((⟨b, off, spot⟩ : Addr).add 0) = ⟨b, off, spot⟩ := by simp [Addr.add]
 rw [hadd] at h hlt
 have hsp : spot = none := by
  cases spot with
  | none => rfl
  | some s => simp [World.cell?] at h; split at h <;> simp_all
 subst hsp
 exact ⟨b, off, rfl, hlt⟩
theorem Op.ints {v : Value} {x : DataW H × List MemPlace} {fuel : Nat} (hf : DataW.trod enc Try.prog w 0 (fun _ => true) true fuel 23 [v] = some x) :
    ∃ L, Ar.SlAt w w.heap.size v L ∧ L.length ≤ Rows.uptoBulk x.1 := by
 rcases open_slice1 Try.underlying23 Try.cellsI1 hf with ⟨hcs, hx⟩ | ⟨a, len, cap, m, n, V, D, Pl, hcs, _, hl, hm, hmm, hx, hc⟩
 ·simp at hcs
  subst hcs
  exact ⟨[], ⟨none, 0, rfl, fun h => by simp at h, by simp, by omega⟩, by simp⟩
 ·simp at hcs
  subst hcs
  have hlm : len ≤ m := by rw [hmm]; split <;> omega
  have hz : ∀ i : Nat, ∃ z : Int, i < len → w.cell? (a.add i) = some (.int .i64 z) := fun i => by
   by_cases hi : i < len
   ·obtain ⟨h1, h2⟩ := hc i (by omega)
    obtain ⟨z, hz, _, _⟩ := DataW.trod_int Try.underlying3 h2
    simp only [List.cons.injEq, and_true] at hz
    exact ⟨z, fun _ => by rw [h1, hz]⟩
   ·exact ⟨0, fun h => absurd h hi⟩
  refine ⟨(List.range len).map fun i => (hz i).choose, ⟨some a, cap, by simp, fun hp => ?_, by simpa using hl, by unfold maxLen at hm; omega⟩, ?_⟩
  ·simp at hp
   obtain ⟨b, off, rfl, hlt⟩ := Op.head ((hz 0).choose_spec hp)
   refine ⟨b, off, rfl, hlt, fun i hi => ?_⟩
   simp at hi
   have := (hz i).choose_spec hi
   have e : w.cell? ((⟨b, off, none⟩ : Addr).add i) = w.cell? ⟨b, off + i, none⟩ := by rw [Addr.add_lit]
   refine (e.symm.trans this).trans ?_
   simp
  ·rw [hx]
   have := Bk.slice_len ((List.range len).map D) ((List.range (m - len)).map fun j => D (len + j))
   simpa using this
theorem Op.op {cs : List Value} {x : DataW H × List MemPlace} {fuel : Nat} (hf : DataW.trod enc Try.prog w 0 (fun _ => true) true fuel 37 cs = some x) :
    ∃ (y : AdjD.Op) (v1 v2 v3 v4 v5 : Value), cs = [.int .i64 y.kind, v1, v2, v3, v4, v5, .int .i64 y.value] ∧ Ar.SlAt w w.heap.size v1 y.dims ∧ Ar.SlAt w w.heap.size v2 y.at_ ∧ Ar.SlAt w w.heap.size v3 y.lo ∧ Ar.SlAt w w.heap.size v4 y.hi ∧ Ar.SlAt w w.heap.size v5 y.step ∧
     y.dims.length ≤ Rows.uptoBulk x.1 ∧ y.at_.length ≤ Rows.uptoBulk x.1 ∧ y.lo.length ≤ Rows.uptoBulk x.1 ∧ y.hi.length ≤ Rows.uptoBulk x.1 ∧ y.step.length ≤ Rows.uptoBulk x.1 := by
 obtain ⟨xs, n, _, rfl, hl, hlen, hfs⟩ := DataW.trod_struct Try.underlying37 hf
 rw [Try.cellsOp] at hl
 match cs, hl with
 | [u0, u1, u2, u3, u4, u5, u6], _ =>
 match xs, hlen with
 | [x0, x1, x2, x3, x4, x5, x6], _ =>
  have h0 := hfs 0 _ rfl
  have h1 := hfs 1 _ rfl
  have h2 := hfs 2 _ rfl
  have h3 := hfs 3 _ rfl
  have h4 := hfs 4 _ rfl
  have h5 := hfs 5 _ rfl
  have h6 := hfs 6 _ rfl
  have k0 : DataW.trod enc Try.prog w 0 (fun _ => true) true n 3 [u0] = some x0 := h0
  have k1 : DataW.trod enc Try.prog w 0 (fun _ => true) true n 23 [u1] = some x1 := h1
  have k2 : DataW.trod enc Try.prog w 0 (fun _ => true) true n 23 [u2] = some x2 := h2
  have k3 : DataW.trod enc Try.prog w 0 (fun _ => true) true n 23 [u3] = some x3 := h3
  have k4 : DataW.trod enc Try.prog w 0 (fun _ => true) true n 23 [u4] = some x4 := h4
  have k5 : DataW.trod enc Try.prog w 0 (fun _ => true) true n 23 [u5] = some x5 := h5
  have k6 : DataW.trod enc Try.prog w 0 (fun _ => true) true n 2 [u6] = some x6 := h6
  obtain ⟨m0, e0, _, _⟩ := DataW.trod_int Try.underlying3 k0
  obtain ⟨m6, e6, _, _⟩ := DataW.trod_int Try.underlying2 k6
  simp only [List.cons.injEq, and_true] at e0 e6
  subst e0 e6
  obtain ⟨L1, s1, b1⟩ := Op.ints k1
  obtain ⟨L2, s2, b2⟩ := Op.ints k2
  obtain ⟨L3, s3, b3⟩ := Op.ints k3
  obtain ⟨L4, s4, b4⟩ := Op.ints k4
  obtain ⟨L5, s5, b5⟩ := Op.ints k5
  exact ⟨⟨m0, L1, L2, L3, L4, L5, m6⟩, u1, u2, u3, u4, u5, rfl, s1, s2, s3, s4, s5, Nat.le_trans b1 (Bk.agg_mem (by simp)), Nat.le_trans b2 (Bk.agg_mem (by simp)), Nat.le_trans b3 (Bk.agg_mem (by simp)), Nat.le_trans b4 (Bk.agg_mem (by simp)), Nat.le_trans b5 (Bk.agg_mem (by simp))⟩
theorem Op.node {cs : List Value} {x : DataW H × List MemPlace} {fuel : Nat} (hf : DataW.trod enc Try.prog w 0 (fun _ => true) true fuel 39 cs = some x) (hb : Rows.uptoBulk x.1 ≤ 1048576) :
    ∃ (y : AdjD.Node) (v1 v2 v3 v4 v5 v6 : Value), cs = [.int .i64 y.op.kind, v1, v2, v3, v4, v5, .int .i64 y.op.value, v6] ∧ (Ar.SlAt w w.heap.size v1 y.op.dims ∧ Ar.SlAt w w.heap.size v2 y.op.at_ ∧ Ar.SlAt w w.heap.size v3 y.op.lo ∧ Ar.SlAt w w.heap.size v4 y.op.hi ∧ Ar.SlAt w w.heap.size v5 y.op.step ∧ Ar.SlAt w w.heap.size v6 y.args) ∧
     Ar.Short y.op ∧ y.args.length ≤ 4194304 := by
 obtain ⟨xs, n, _, rfl, hl, hlen, hfs⟩ := DataW.trod_struct Try.underlying39 hf
 rw [Try.cellsNode] at hl
 match cs, hl with
 | [u0, u1, u2, u3, u4, u5, u6, u7], _ =>
 match xs, hlen with
 | [x0, x1], _ =>
  have h0 := hfs 0 _ rfl
  have h1 := hfs 1 _ rfl
  have k0 : DataW.trod enc Try.prog w 0 (fun _ => true) true n 37 [u0, u1, u2, u3, u4, u5, u6] = some x0 := h0
  have k1 : DataW.trod enc Try.prog w 0 (fun _ => true) true n 23 [u7] = some x1 := h1
  obtain ⟨y, v1, v2, v3, v4, v5, e, s1, s2, s3, s4, s5, b1, b2, b3, b4, b5⟩ := Op.op k0
  obtain ⟨L, s6, b6⟩ := Op.ints k1
  simp only [List.cons.injEq, and_true] at e
  obtain ⟨rfl, rfl, rfl, rfl, rfl, rfl, rfl⟩ := e
  have c0 : Rows.uptoBulk x0.1 ≤ 1048576 := Nat.le_trans (Bk.agg_mem (by simp)) hb
  have c1 : Rows.uptoBulk x1.1 ≤ 1048576 := Nat.le_trans (Bk.agg_mem (by simp)) hb
  exact ⟨⟨y, L⟩, u1, u2, u3, u4, u5, u7, rfl, ⟨s1, s2, s3, s4, s5, s6⟩, ⟨by show y.dims.length ≤ _; omega, by show y.lo.length ≤ _; omega, by show y.at_.length ≤ _; omega, by show y.hi.length ≤ _; omega, by show y.step.length ≤ _; omega⟩, by show L.length ≤ _; omega⟩
theorem Op.graph {v : Value} {d : DataW H} {ps : List MemPlace} {base : Nat} (hv : Value.okWide Try.prog w .any base 25 v)
    (h : DataW.Trod enc Try.prog w 0 (fun _ => true) true 25 v d ps) (hb : Rows.uptoBulk d ≤ 1048576) : ∃ g, Gr.GraphAt w w.heap.size v g ∧ Gr.GShort g := by
 obtain ⟨v0, v1, y0, y1, n, rfl, rfl, _, h0, h1⟩ := Joins.open_agg2 Try.underlying25 (by kernel_rfl) (by kernel_rfl) hv h
 have k0 : DataW.trod enc Try.prog w 0 (fun _ => true) true n 22 [v0] = some y0 := h0
 have k1 : DataW.trod enc Try.prog w 0 (fun _ => true) true n 23 [v1] = some y1 := h1
 obtain ⟨L, sL, _⟩ := Op.ints k1
 have c0 : Rows.uptoBulk y0.1 ≤ 1048576 := Nat.le_trans (Bk.agg_mem (by simp)) hb
 rcases open_slice Try.underlying22 k0 with ⟨hcs, _⟩ | ⟨a, len, cap, m, n', D, Pl, hcs, _, hl, hm, hmm, hx, hc⟩
 ·simp at hcs
  subst hcs
  exact ⟨⟨[], L⟩, ⟨none, 0, v1, rfl, fun h => by simp at h, Nat.le_refl _, by omega, sL⟩, fun x hx => by cases hx⟩
 ·simp at hcs
  subst hcs
  have hlm : len ≤ m := by rw [hmm]; split <;> omega
  have hz : ∀ i : Nat, ∃ y : AdjD.Node, i < len → ∃ v1 v2 v3 v4 v5 v6, (∀ j u, [Value.int .i64 y.op.kind, v1, v2, v3, v4, v5, .int .i64 y.op.value, v6][j]? = some u → w.cell? (a.add (i * 8 + j)) = some u) ∧
      (Ar.SlAt w w.heap.size v1 y.op.dims ∧ Ar.SlAt w w.heap.size v2 y.op.at_ ∧ Ar.SlAt w w.heap.size v3 y.op.lo ∧ Ar.SlAt w w.heap.size v4 y.op.hi ∧ Ar.SlAt w w.heap.size v5 y.op.step ∧ Ar.SlAt w w.heap.size v6 y.args) ∧ Ar.Short y.op ∧ y.args.length ≤ 4194304 := fun i => by
   by_cases hi : i < len
   ·obtain ⟨cs', h2, h3⟩ := hc i (by omega)
    rw [Try.cellsNode] at h2
    obtain ⟨_, hcl, hat⟩ := World.cells?_some h2
    have hbd : Rows.uptoBulk (D i) ≤ 1048576 := by
     rw [hx] at c0
     exact Nat.le_trans (Bk.slice_mem (List.mem_map.2 ⟨i, List.mem_range.2 hi, rfl⟩)) c0
    obtain ⟨y, v1, v2, v3, v4, v5, v6, e, s, b1, b2⟩ := Op.node h3 hbd
    refine ⟨y, fun _ => ⟨v1, v2, v3, v4, v5, v6, fun j u hu => ?_, s, b1, b2⟩⟩
    have hj : j < 8 := by have := (List.getElem?_eq_some_iff.1 hu).1; simpa using this
    have := hat j hj
    rw [e] at this
    rw [← Go.Deep.add_add]
    exact this.trans hu
   ·exact ⟨⟨⟨0, [], [], [], [], [], 0⟩, []⟩, fun h => absurd h hi⟩
  refine ⟨⟨(List.range len).map fun i => (hz i).choose, L⟩, ⟨some a, cap, v1, by simp, fun hp => ?_, by simpa using hl, by unfold maxLen at hm; omega, sL⟩, fun x hx => ?_⟩
  ·simp at hp
   obtain ⟨_, _, _, _, _, _, g0, _⟩ := (hz 0).choose_spec hp
   have g00 := g0 0 _ rfl
   obtain ⟨b, off, rfl, hlt⟩ := Op.head (by simpa using g00)
   refine ⟨b, off, rfl, hlt, fun i hi => ?_⟩
   simp at hi
   obtain ⟨v1, v2, v3, v4, v5, v6, g, s, _⟩ := (hz i).choose_spec hi
   have e : ((List.range len).map fun i => (hz i).choose)[i]'(by simpa using hi) = (hz i).choose := by simp
   rw [e]
   have c : ∀ j u, [Value.int .i64 (hz i).choose.op.kind, v1, v2, v3, v4, v5, .int .i64 (hz i).choose.op.value, v6][j]? = some u → w.cell? ⟨b, off + i * 8 + j, none⟩ = some u := fun j u hu => by
    have := g j u hu
    rw [Addr.add_lit] at this
    rw [Nat.add_assoc]; exact this
   exact ⟨v1, v2, v3, v4, v5, v6, ⟨by have := c 0 _ rfl; simpa using this, c 1 _ rfl, c 2 _ rfl, c 3 _ rfl, c 4 _ rfl, c 5 _ rfl, c 6 _ rfl, c 7 _ rfl⟩, s⟩
  ·obtain ⟨i, hi, rfl⟩ := List.mem_map.1 hx
   obtain ⟨_, _, _, _, _, _, _, _, b1, b2⟩ := (hz i).choose_spec (List.mem_range.1 hi)
   exact ⟨b1, b2⟩
end
end Go.Proofs.Ytapedmpbkffopaa
end
section
namespace Adj
open Go Go.RowKit Go.WideShapes Go.ChangeShapes
section
variable {H : Type} {enc : TypeId × Value → H}
theorem trodAll_stays {P : Program} (hl : laidOutB P = true) {W W' : World} {sp : Nat → Bool} : ∀ {ts : List TypeId} {vs : List Value} {ds : List (DataW H)} {ps : List MemPlace},
    (∀ t ∈ ts, P.readableRec t = true ∧ t < P.types.size) → DataW.TrodAll enc P W 0 (fun _ => true) true ts vs ds ps →
    (∀ p ∈ ps, W.sameAt W' p) → (∀ p ∈ ps, sp p.block = true) → DataW.TrodAll enc P W' 0 sp true ts vs ds ps
 | [], [], [], _, _, h, _, _ => h
 | t :: ts, v :: vs, d :: ds, ps, ht, h, hs, hp => by
  obtain ⟨p, q, h1, h2, rfl⟩ := h
  have a := ht t (by simp)
  exact ⟨p, q, Go.WideElems.Trod_stays hl a.1 a.2 h1 (fun x hx => hs x (by simp [hx])) (fun x hx => hp x (by simp [hx])),
   trodAll_stays hl (fun u hu => ht u (by simp [hu])) h2 (fun x hx => hs x (by simp [hx])) (fun x hx => hp x (by simp [hx])), rfl⟩
 | [], [], _ :: _, _, _, h, _, _ => h.elim
 | [], _ :: _, _, _, _, h, _, _ => h.elim
 | _ :: _, [], _, _, _, h, _, _ => h.elim
 | _ :: _, _ :: _, [], _, _, h, _, _ => h.elim
theorem trodAll_length {P : Program} {W : World} {sp : Nat → Bool} {b : Nat} {hd : Bool} : ∀ {ts : List TypeId} {vs : List Value} {ds : List (DataW H)} {ps : List MemPlace},
    DataW.TrodAll enc P W b sp hd ts vs ds ps → ds.length = ts.length
 | [], [], [], _, _ => rfl
 | t :: ts, v :: vs, d :: ds, ps, h => by
  obtain ⟨p, q, _, h2, rfl⟩ := h
  simp [trodAll_length h2]
 | [], [], _ :: _, _, h => h.elim
 | [], _ :: _, _, _, h => h.elim
 | _ :: _, [], _, _, h => h.elim
 | _ :: _, _ :: _, [], _, h => h.elim
theorem post_of_law {P : Program} {f : Func} {s : ChangeSpec} {tb : TypeId} (hl : laidOutB P = true) (hv : s.vars = []) (hres : f.resultTypes = #[tb]) (hb : P.underlying tb = some .bool)
    (hr : ∀ t ∈ f.params.toList, P.readableRec t = true ∧ t < P.types.size)
    (hs : ∀ ds : List (DataW H), ds.length = f.params.toList.length → (s.fn H ds).results = [.lit (.bool true)] ∧ (s.fn H ds).args = ds ∧ (s.fn H ds).vars = [])
    {W W' : World} {args : Array Value} {ds gs : List (DataW H)} {before : List MemPlace}
    (hW : DataW.Whole enc P f.params.toList s.vars false W args.toList ds gs before) (hbel : Below W.heap.size W W') :
    s.post enc P f false true false false W args (.bool true) W' := by
 have hlt : ∀ p ∈ before, p.block < W.heap.size := fun p hp => hW.lt p hp
 have hW0 := hW
 obtain ⟨p, q, hA, hV, hpq, hz, hn⟩ := hW
 rw [hv] at hV
 obtain ⟨rfl, rfl⟩ : gs = [] ∧ q = [] := by
  cases gs with
  | nil => exact ⟨rfl, hV⟩
  | cons g gs => exact hV.elim
 rw [List.append_nil] at hpq
 subst hpq
 obtain ⟨e1, e2, e3⟩ := hs (ds ++ []) (by rw [List.append_nil]; exact trodAll_length hA)
 refine ⟨ds, [], before, [], before, [], hW0, ?_, ?_, ?_, World.keptBut_mono (fun p hp => ⟨hp, .inr (.inl hp)⟩) (hbel.frame (· ∈ before)), fun h => by cases h⟩
 ·rw [e1, hres]
  exact ⟨[], [], ⟨1, by simp [DataW.trod, hb, Value.cells]⟩, rfl, rfl⟩
 ·rw [e2, List.append_nil]
  exact trodAll_stays hl hr hA (fun x hx => hbel.same (hlt x hx)) (fun x hx => by simpa using hlt x hx)
 ·rw [e3, hv]
  rfl
end
end Adj
end
section
namespace Adj
open Go Go.RowKit Go.WideShapes Go.ChangeShapes
section
variable {H : Type} {enc : TypeId × Value → H}
theorem law_upto {C : Checked} {os : Os} {f : FuncId} {fn : Func} {t : ChangeSpec} {s : OpenSpec} {tb : TypeId} {k : (H : Type) → List (DataW H) → Bool} (hk : s.cond = some k) {F : Stop.Interp}
    (own : ownKnob C.prog.godebug = none) (started : os.Started) (noInit : C.prog.inits.idxOf? f = none) (hfn : C.prog.funcs[f]? = some fn)
    (hl : laidOutB C.prog = true) (hvs : s.vars = t.vars) (hv : t.vars = []) (hres : fn.resultTypes = #[tb]) (hb : C.prog.underlying tb = some .bool)
    (hr : ∀ t ∈ fn.params.toList, C.prog.readableRec t = true ∧ t < C.prog.types.size)
    (hs : ∀ ds : List (DataW H), ds.length = fn.params.toList.length → (t.fn H ds).results = [.lit (.bool true)] ∧ (t.fn H ds).args = ds ∧ (t.fn H ds).vars = [])
    (hpost : ∀ W args v W', t.post enc C.prog fn false true false false W args v W' → (s.at F).post enc C.prog fn false true false false W args v W')
    (witness : ∃ (w : World) (tape : Tape) (i : Input), w.os = os ∧ (w.forCall tape i).Shaped C.prog ∧ i.vars = [] ∧ Input.okWide C.prog (w.forCall tape i) .any w.heap.size f i ∧
     s.pre6 enc C.prog fn [] false (w.forCall tape i).memory i.args ∧ Assume.holds {} C.prog (lone (Frame.enter C.prog f i.args .normal) [] (w.forCall tape i)))
    (walk : ∀ (W : World) (base : Nat) (args : Array Value) (ds : List (DataW H)) (before : List MemPlace),
     (∀ (j : Nat) t v, fn.params[j]? = some t → args[j]? = some v → Value.okWide C.prog W .any base t v) →
     DataW.TrodAll enc C.prog W 0 (fun _ => true) true fn.params.toList args.toList ds before → W.noneFrozen before →
     k H ds = true →
     Calls C.prog f args W fun e W' => e = .returned (.bool true) ∧ Below W.heap.size W W') :
    ReturnsInHanded {} C os f .any (s.pre6 enc C.prog fn [] false) ((s.at F).post enc C.prog fn false true false false) := by
 refine returnsInHanded_of_cond hk own started noInit hfn witness ?_
 intro W base args ds gs before hval hW _ hkk _
 rw [hvs] at hW
 have hW0 := hW
 obtain ⟨p, q, hA, hV, hpq, hfz, hn⟩ := hW
 rw [hv] at hV
 obtain ⟨rfl, rfl⟩ : gs = [] ∧ q = [] := by
  cases gs with
  | nil => exact ⟨rfl, hV⟩
  | cons g gs => exact hV.elim
 rw [List.append_nil] at hpq hkk
 subst hpq
 refine (walk W base args ds before hval hA hfz hkk).mono fun e W' ⟨he, hbel⟩ => ?_
 exact ⟨_, he, hpost _ _ _ _ (post_of_law hl hv hres hb hr hs hW0 hbel)⟩
end
end Adj
end
