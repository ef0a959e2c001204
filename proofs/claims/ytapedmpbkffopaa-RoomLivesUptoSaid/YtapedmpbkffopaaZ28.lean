/-
  The walk of the reference's Dims of a graph. Conditions: where the theorems name them.
-/
import Derived.Test.YtapedmpbkffopaaZ23
import Derived.Test.YtapedmpbkffopaaZ27
section
namespace AdjD
theorem dims_bad {op : Op} {args : List (List Int)} (h : (dims op args).2 ≠ 0) : (dims op args).1 = [] := by
 unfold dims at h ⊢
 by_cases h1 : right op.kind args.length ≠ 0
 ·rw [if_pos h1]
 rw [if_neg h1] at h ⊢
 by_cases h2 : sizes args ≠ 0
 ·rw [if_pos h2]
 rw [if_neg h2] at h ⊢
 by_cases h3 : (ruled op args).2 ≠ 0
 ·rw [if_pos h3]
 rw [if_neg h3] at h ⊢
 by_cases h4 : (AdjV.size (ruled op args).1).2 ≠ 0
 ·rw [if_pos h4]
 ·rw [if_neg h4] at h; exact absurd rfl h
end AdjD
namespace Go.Proofs.Ytapedmpbkffopaa
set_option linter.unusedVariables false
open Go.RowKit Adj
namespace Gr
def LookR (w w' : World) (r : List (List Int) × Int) (e : Ending) : Prop := (∃ A n c, e = .returned (.tuple #[.slice A n c, .int .i64 r.2]) ∧ n = r.1.length ∧ n ≤ c ∧ c ≤ 9223372036854775807 ∧ Ar.ListsAt w' w'.heap.size A r.1) ∧ Below w.heap.size w w'
theorem own_room {w : World} {base size n n' c : Nat} {e : TypeId} {A : Option Addr} {xs : List Value} (h : w.ownsRow base e size (.slice A n c) n' xs) : n ≤ c := by
 rcases h.2 with ⟨e1, _⟩ | ⟨g, cap, cur, e1, hb, hh, hc, hm, hs, ht⟩
 ·injection e1 with _ e2 e3; omega
 ·injection e1 with _ e2 e3; omega
end Gr
set_option maxRecDepth 100000 in
set_option maxHeartbeats 8000000 in
theorem Gr.dims5_any (val : Value) (g : AdjD.Graph) (B : Nat) (w : World) (hB : B ≤ w.heap.size) (hsh : Gr.GShort g) (h : Gr.GraphAt w B val g) :
    Calls Try.prog 9 #[val] w fun e w' => Gr.LookR w w' (AdjD.look g) e := by
 have HG := Lib.hid (fun W (hb : Below w.heap.size w W) => (h.below (hb.mono hB)).up (Nat.le_trans hB hb.size))
 obtain ⟨A, c, vo, rfl, hns, hn, hc, ⟨O, co, rfl, io, lo, mo⟩⟩ := h
 have HX := Lib.hid (Blk.new w 25 #[.slice A g.nodes.length c, .slice O g.outs.length co])
 have HB := Lib.hid ((Below.refl w.heap.size w).alloc (Nat.le_refl _) (.cells #[.slice A g.nodes.length c, .slice O g.outs.length co] 25))
 obtain ⟨w0, hw0⟩ : ∃ w0, w.alloc (.cells #[.slice A g.nodes.length c, .slice O g.outs.length co] 25) = w0 := ⟨_, rfl⟩
 rw [hw0] at HX HB
 have hws : w.heap.size < w0.heap.size := HX.out.lt
 have HBW := Lib.hid (fun W (hb : Below w0.heap.size w0 W) => HB.out.trans (hb.mono (Nat.le_of_lt hws)))
 have b0 : w0.cell? ⟨w.heap.size, 0, none⟩ = some (.slice A g.nodes.length c) := HX.out.cell 0
 have b1 : w0.cell? ⟨w.heap.size, 1, none⟩ = some (.slice O g.outs.length co) := HX.out.cell 1
 have HB0 := Lib.hid (Below.refl w0.heap.size w0)
 by_cases hbig : 4096 < g.nodes.length
 ·have HV := Lib.hid (show AdjD.look g = ([], 5) by unfold AdjD.look; rw [if_pos hbig])
  have hb2 : (4096 : Int) < (g.nodes.length : Int) := by omega
  clear hns io hbig
  go_enter Try.func9, Try.ntmps9
  go_wp2_with fail
  go_ret2
  rw [HV.out]
  exact ⟨⟨_, _, _, rfl, rfl, Nat.le_refl _, by omega, fun h => by simp at h⟩, HBW.out _ HB0.out⟩
 ·have HLK := Lib.hid (show AdjD.look g = if (AdjD.lookGo (AdjD.params g.nodes) g.nodes []).2 ≠ 0 then ([], (AdjD.lookGo (AdjD.params g.nodes) g.nodes []).2) else if AdjD.ahead g.nodes.length g.outs = false then ([], 4) else ((AdjD.lookGo (AdjD.params g.nodes) g.nodes []).1, 0) by unfold AdjD.look; rw [if_neg hbig])
  have hbig2 : g.nodes.length ≤ 4096 := by omega
  have HNS := Lib.hid (fun W (hb : Below w0.heap.size w0 W) => hns.below ((HBW.out W hb).mono hB))
  have HOS := Lib.hid (fun W (hb : Below w0.heap.size w0 W) => io.below ((HBW.out W hb).mono hB))
  have HPL := Lib.hid (AdjD.params_le g.nodes)
  have HSH := Lib.hid hsh
  have HLO := Lib.hid (And.intro lo mo)
  clear hns io hbig hsh lo mo hn hc
  obtain ⟨p, hp⟩ : ∃ p, AdjD.params g.nodes = p := ⟨_, rfl⟩
  have HPP := Lib.hid (fun W (hb : Below w0.heap.size w0 W) => Gr.params2_any _ g W.heap.size W (Nat.le_refl _) (HG.out W (HBW.out W hb)))
  rw [hp] at HLK HPL HPP
  obtain ⟨n, hnn⟩ : ∃ n, g.nodes.length = n := ⟨_, rfl⟩
  have HN := Lib.hid hnn
  rw [hnn] at HX b0 hbig2 HPL hw0 HPP ⊢
  clear hnn
  go_enter Try.func9, Try.ntmps9
  go_wp2_with fail
  go_loopw [4, 23] (fun v kv wr => ∃ (k : Nat) (out : List (List Int)), kv = .int .i64 (k : Int) ∧ k ≤ n ∧ out.length = k ∧ AdjD.lookGo p g.nodes [] = AdjD.lookGo p (g.nodes.drop k) out ∧ Below w0.heap.size w0 wr ∧ (∃ Av cv, v = .slice Av k cv) ∧ Gr.RowsQ w0.heap.size wr v out) (fun _ kv _ => n - (intOf kv).toNat)
  case atStart => exact ⟨0, [], rfl, by omega, rfl, rfl, HB0.out, ⟨_, _, rfl⟩, Gr.RowsQ.nil _ _⟩
  case round =>
   obtain ⟨k, out, rfl, hk, hol, hgo, hb, ⟨Av, cv, rfl⟩, hrows⟩ := hrel
   obtain ⟨wo, hwo⟩ : ∃ wo : World, wo = wr := ⟨_, rfl⟩
   subst hwo
   have HOL := Lib.hid hol
   have HGO := Lib.hid hgo
   have HB2 := Lib.hid hb
   have HR2 := Lib.hid hrows
   have HX2 := Lib.hid (HX.out.below hb HX.out.lt)
   have y0 : wo.cell? ⟨w.heap.size, 0, none⟩ = some (.slice A n c) := HX2.out.cell 0
   have y1 : wo.cell? ⟨w.heap.size, 1, none⟩ = some (.slice O g.outs.length co) := HX2.out.cell 1
   clear hol hgo hb hrows
   by_cases hkn : k < n
   ·have hkl : k < g.nodes.length := by have := HN.out; omega
    obtain ⟨bn, on, rfl, hbn, gn⟩ := HNS.out wo HB2.out (by omega)
    obtain ⟨v1, v2, v3, v4, v5, v6, ⟨z0, z1, z2, z3, z4, z5, z6, z7⟩, s1, s2, s3, s4, s5, s6⟩ := gn k hkl
    have HDR := Lib.hid (List.drop_eq_getElem_cons hkl)
    have HSHK := Lib.hid (HSH.out g.nodes[k] (List.getElem_mem hkl))
    have i1 : (0 : Int) ≤ (k : Int) := by omega
    have i2 : (k : Int) < (n : Int) := by omega
    have hsw : w0.heap.size ≤ wo.heap.size := HB2.out.size
    have hBr : B ≤ wo.heap.size := by omega
    clear gn
    generalize g.nodes[k] = x at z0 z1 z2 z3 z4 z5 z6 z7 s1 s2 s3 s4 s5 s6 HDR HSHK
    have SS := Lib.hid (And.intro s1 (And.intro s2 (And.intro s3 (And.intro s4 (And.intro s5 s6)))))
    obtain ⟨D1, e1, rfl, ii1, ll1, mm1⟩ := s1
    obtain ⟨D2, e2, rfl, ii2, _⟩ := s2
    obtain ⟨D3, e3, rfl, _⟩ := s3
    obtain ⟨D4, e4, rfl, _⟩ := s4
    obtain ⟨D5, e5, rfl, _⟩ := s5
    obtain ⟨D6, e6, rfl, i6, _⟩ := s6
    have HAL := Lib.hid (Blk.new wo 39 #[.int .i64 x.op.kind, .slice D1 x.op.dims.length e1, .slice D2 x.op.at_.length e2, .slice D3 x.op.lo.length e3, .slice D4 x.op.hi.length e4, .slice D5 x.op.step.length e5, .int .i64 x.op.value, .slice D6 x.args.length e6])
    have HBa := Lib.hid ((Below.refl wo.heap.size wo).alloc (Nat.le_refl _) (.cells #[.int .i64 x.op.kind, .slice D1 x.op.dims.length e1, .slice D2 x.op.at_.length e2, .slice D3 x.op.lo.length e3, .slice D4 x.op.hi.length e4, .slice D5 x.op.step.length e5, .int .i64 x.op.value, .slice D6 x.args.length e6] 39))
    obtain ⟨wa, hwa⟩ : ∃ wa, wo.alloc (.cells #[.int .i64 x.op.kind, .slice D1 x.op.dims.length e1, .slice D2 x.op.at_.length e2, .slice D3 x.op.lo.length e3, .slice D4 x.op.hi.length e4, .slice D5 x.op.step.length e5, .int .i64 x.op.value, .slice D6 x.args.length e6] 39) = wa := ⟨_, rfl⟩
    rw [hwa] at HAL HBa
    have HWA := Lib.hid hwa
    have HBA := Lib.hid (show Below w0.heap.size w0 wa from HB2.out.trans (HBa.out.mono hsw))
    have HRA := Lib.hid (HR2.out.below HBa.out)
    have hsa : wo.heap.size < wa.heap.size := HAL.out.lt
    have a7 : wa.cell? ⟨wo.heap.size, 7, none⟩ = some (.slice D6 x.args.length e6) := HAL.out.cell 7
    rw [← hwa] at a7
    have HOPX := Lib.hid (fun W (hb : Below wa.heap.size wa W) => show Ar.OpAt W W.heap.size (.agg #[.int .i64 x.op.kind, .slice D1 x.op.dims.length e1, .slice D2 x.op.at_.length e2, .slice D3 x.op.lo.length e3, .slice D4 x.op.hi.length e4, .slice D5 x.op.step.length e5, .int .i64 x.op.value]) x.op from
     Ar.OpAt.up (Ar.OpAt.below (Ar.OpAt.below ⟨_, _, _, _, _, rfl, SS.out.1, SS.out.2.1, SS.out.2.2.1, SS.out.2.2.2.1, SS.out.2.2.2.2.1⟩ (HBa.out.mono hBr)) (hb.mono (Nat.le_trans hBr (Nat.le_of_lt hsa)))) (Nat.le_trans (Nat.le_trans hBr (Nat.le_of_lt hsa)) hb.size))
    have HI1 := Lib.hid (fun W (hb : Below wa.heap.size wa W) => (ii1.below (HBa.out.mono hBr)).below (hb.mono (Nat.le_trans hBr (Nat.le_of_lt hsa))))
    have HI2 := Lib.hid (fun W (hb : Below wa.heap.size wa W) => (ii2.below (HBa.out.mono hBr)).below (hb.mono (Nat.le_trans hBr (Nat.le_of_lt hsa))))
    have HM1 := Lib.hid (And.intro ll1 mm1)
    have HI6 := Lib.hid (fun W (hb : Below wa.heap.size wa W) => (i6.below (HBa.out.mono hBr)).below (hb.mono (Nat.le_trans hBr (Nat.le_of_lt hsa))))
    have HBB := Lib.hid (fun W (hb : Below wa.heap.size wa W) => show Below w0.heap.size w0 W from HBA.out.trans (hb.mono HBA.out.size))
    have HND := Lib.hid (show AdjD.lookGo p g.nodes [] = if (AdjD.nodeDims x k p out).2 ≠ 0 then ([], (AdjD.nodeDims x k p out).2) else AdjD.lookGo p (g.nodes.drop (k + 1)) (out ++ [(AdjD.nodeDims x k p out).1]) by
     rw [HGO.out, HDR.out, AdjD.lookGo_step, HOL.out])
    have HVE := Lib.hid (fun (e : Int) (he : e ≠ 0) (h : AdjD.nodeDims x k p out = ([], e)) => show AdjD.look g = ([], e) by
     have h2 := HND.out
     rw [h, if_pos he] at h2
     rw [HLK.out, h2, if_pos he])
    have HA0 := Lib.hid (show AdjD.ahead k x.args = false → AdjD.nodeDims x k p out = ([], 10) from fun h => by unfold AdjD.nodeDims; rw [if_pos h])
    have HA1 := Lib.hid (show AdjD.ahead k x.args = true → x.op.kind ≠ 1 → AdjD.nodeDims x k p out = AdjD.dims x.op (AdjD.ofArgs out x.args) from fun h h2 => by unfold AdjD.nodeDims; rw [if_neg (by simp [h]), if_pos h2])
    have HA2 := Lib.hid (show AdjD.ahead k x.args = true → x.op.kind = 1 → AdjD.nodeDims x k p out = if p ≤ k ∨ x.op.at_.length ≠ 1 ∨ x.op.at_.getD 0 0 ≠ (k : Int) then ([], 7) else if 0 < x.args.length then ([], 2) else if (AdjV.size x.op.dims).2 ≠ 0 then ([], (AdjV.size x.op.dims).2) else (x.op.dims, 0) from fun h h2 => by unfold AdjD.nodeDims; rw [if_neg (by simp [h]), if_neg (by simp [h2])])
    have HBz := Lib.hid (Below.refl wa.heap.size wa)
    have HLA := Lib.hid HRA.out.lists
    have HII := Lib.hid (info_parts Try.infoRow)
    have hna : x.args.length ≤ 4194304 := HSHK.out.2
    clear SS i6 ii1 ii2 ll1 mm1 hwa
    go_wp2_with fail
    simp only [HWA.out]
    go_loopw [7, 31] (fun v jv wx => ∃ (j : Nat) (vs : List Value), jv = .int .i64 (j : Int) ∧ j ≤ x.args.length ∧ (∀ i (hi : i < x.args.length), i < j → 0 ≤ x.args[i] ∧ x.args[i] < (k : Int)) ∧ Below wa.heap.size wa wx ∧ wx.ownsRow wa.heap.size 23 1 v vs.length vs ∧ vs.length = j ∧ Gr.Vals wx wa.heap.size vs (AdjD.ofArgs out (x.args.take j))) (fun _ jv _ => x.args.length - (intOf jv).toNat)
    case atStart => exact ⟨0, [], rfl, by omega, fun i _ h => by omega, HBz.out, ⟨rfl, .inl ⟨rfl, rfl⟩⟩, rfl, rfl, fun j h _ => by simp at h⟩
    case round =>
     obtain ⟨j, vs, rfl, hj, hall, hb, hown, hvl, hvals⟩ := hrel
     have HAL2 := Lib.hid hall
     have HB3 := Lib.hid hb
     have HBW3 := Lib.hid (HBB.out wr hb)
     have HO := Lib.hid hown
     have HVL := Lib.hid hvl
     have HVS := Lib.hid hvals
     obtain ⟨Ax, cx, hv, hcx⟩ := Vw.own_any hown
     subst hv
     have HN3 := Lib.hid (HAL.out.below hb HAL.out.lt)
     have hwz : wa.heap.size ≤ wr.heap.size := hb.size
     clear hall hb hown hvl hvals
     by_cases hjn : j < x.args.length
     ·obtain ⟨bg, og, rfl, hbg, gg⟩ := (HI6.out wr HB3.out) (by omega)
      have cg1 := gg j hjn
      have HBADA := Lib.hid (show ¬ (0 ≤ x.args[j] ∧ x.args[j] < (k : Int)) → AdjD.look g = ([], 10) from fun h => HVE.out 10 (by decide) (HA0.out (by
       cases ha : AdjD.ahead k x.args with
       | false => rfl
       | true =>
        exfalso; apply h
        have := List.all_eq_true.1 ha _ (List.getElem_mem hjn)
        simpa using this)))
      have HNX := Lib.hid (show (0 ≤ x.args[j] ∧ x.args[j] < (k : Int)) → ∀ i (hi : i < x.args.length), i < j + 1 → 0 ≤ x.args[i] ∧ x.args[i] < (k : Int) from fun h i hi hij => by
       by_cases e : i = j
       ·subst e; exact h
       ·exact HAL2.out i hi (by omega))
      have HTK := Lib.hid (List.take_succ_eq_append_getElem hjn)
      have j1 : (0 : Int) ≤ (j : Int) := by omega
      have j2 : (j : Int) < (x.args.length : Int) := by omega
      clear gg
      generalize x.args[j] = a0 at cg1 HBADA HNX HTK
      by_cases h1 : a0 < 0
      ·have HV := Lib.hid (HBADA.out (by omega))
       go_wp2_with fail
       go_ret2
       rw [HV.out]
       exact ⟨⟨_, _, _, rfl, rfl, Nat.le_refl _, by omega, fun h => by simp at h⟩, HBW.out _ HBW3.out⟩
      by_cases h2 : (k : Int) ≤ a0
      ·have HV := Lib.hid (HBADA.out (by omega))
       go_wp2_with fail
       go_ret2
       rw [HV.out]
       exact ⟨⟨_, _, _, rfl, rfl, Nat.le_refl _, by omega, fun h => by simp at h⟩, HBW.out _ HBW3.out⟩
      have HNX2 := Lib.hid (HNX.out (by omega))
      obtain ⟨a, rfl⟩ : ∃ a : Nat, a0 = (a : Int) := ⟨a0.toNat, by omega⟩
      have hai : a < out.length := by have := HOL.out; omega
      obtain ⟨bo, oo, rfl, hbo, go⟩ := (HLA.out.below HB3.out) (by omega)
      obtain ⟨va, cva, Aa, ca, rfl, ia, la, ma⟩ := go a hai
      have HSL := Lib.hid (show Ar.SlAt wr wa.heap.size (.slice Aa out[a].length ca) out[a] from ⟨Aa, ca, rfl, ia, la, ma⟩)
      have HOF := Lib.hid (show AdjD.ofArgs out (x.args.take (j + 1)) = AdjD.ofArgs out (x.args.take j) ++ [out[a]] by
       rw [HTK.out]; unfold AdjD.ofArgs; rw [List.map_append]; simp [List.getD_eq_getElem?_getD, hai])
      have i3 : (0 : Int) ≤ (a : Int) := by omega
      have i4 : (a : Int) < (k : Int) := by omega
      have hvk : vs.length ≤ 4194304 := by have := HVL.out; omega
      clear go ia h1 h2
      generalize out[a] = la0 at cva HSL HOF la
      obtain ⟨i0, g1, g2, g3, g4⟩ := HII.out
      go_wp2_with (at_builtin; refine wpList_append_any _ rfl _ _ 33 rfl wa.heap.size 23 i0 (.slice none 0 0) 1 24 Try.underlying33 g1 g2 g3 g4 rfl (by decide) _ _ _ rfl (HO.out.alloc _) _ (some ⟨wr.heap.size, 0, none⟩) 1 1 [.slice Aa la0.length ca] rfl (Ar.reads_cells (Blk.new wr 23 #[.slice Aa la0.length ca]) rfl) (by intro u hu; simp at hu; subst hu; rfl) (by unfold maxLen; omega) (by omega) (by simp; omega) ?_)
      intro v' w6 how hgr _
      have HB6 := Lib.hid ((HB3.out.alloc hwz (.cells #[.slice Aa la0.length ca] 23)).grown hgr (by simp; omega) (fun g hg => (HO.out.lt g hg).1))
      have hbB : Below wa.heap.size wr w6 := ((Below.refl wa.heap.size wr).alloc (by omega) (.cells #[.slice Aa la0.length ca] 23)).grown hgr (by simp; omega) (fun g hg => (HO.out.lt g hg).1)
      have HVS6 := Lib.hid (show Gr.Vals w6 wa.heap.size (vs ++ [.slice Aa la0.length ca]) (AdjD.ofArgs out (x.args.take (j + 1))) by
       rw [HOF.out]; exact (HVS.out.below hbB).snoc (HSL.out.below hbB))
      have HO6 := Lib.hid (show w6.ownsRow wa.heap.size 23 1 v' (vs ++ [Value.slice Aa la0.length ca]).length (vs ++ [Value.slice Aa la0.length ca]) by
       rw [List.length_append]; exact how)
      clear how hgr hbB
      go_wp2_with fail
      go_roundw
      case rel => exact ⟨j + 1, _, by go_num, by omega, HNX2.out, HB6.out, HO6.out, by simp [HVL.out], HVS6.out⟩
      case measure => simp [intOf]; omega
     ·have hjj : j = x.args.length := by omega
      have HAH := Lib.hid (show AdjD.ahead k x.args = true from List.all_eq_true.2 (fun a ha => by
       obtain ⟨i, hi, rfl⟩ := List.getElem_of_mem ha
       have := HAL2.out i hi (by omega)
       simp [this]))
      have HVN := Lib.hid (show Gr.Vals wr wa.heap.size vs (AdjD.ofArgs out x.args) by have h := HVS.out; rwa [hjj, List.take_length] at h)
      subst hjj
      have p0 : wr.cell? ⟨wo.heap.size, 0, none⟩ = some (.int .i64 x.op.kind) := HN3.out.cell 0
      have p1 : wr.cell? ⟨wo.heap.size, 1, none⟩ = some (.slice D1 x.op.dims.length e1) := HN3.out.cell 1
      have p2 : wr.cell? ⟨wo.heap.size, 2, none⟩ = some (.slice D2 x.op.at_.length e2) := HN3.out.cell 2
      have p3 : wr.cell? ⟨wo.heap.size, 3, none⟩ = some (.slice D3 x.op.lo.length e3) := HN3.out.cell 3
      have p4 : wr.cell? ⟨wo.heap.size, 4, none⟩ = some (.slice D4 x.op.hi.length e4) := HN3.out.cell 4
      have p5 : wr.cell? ⟨wo.heap.size, 5, none⟩ = some (.slice D5 x.op.step.length e5) := HN3.out.cell 5
      have p6 : wr.cell? ⟨wo.heap.size, 6, none⟩ = some (.int .i64 x.op.value) := HN3.out.cell 6
      have p7 : wr.cell? ⟨wo.heap.size, 7, none⟩ = some (.slice D6 x.args.length e6) := HN3.out.cell 7
      have hofl : (AdjD.ofArgs out x.args).length = vs.length := HVN.out.1.symm
      have hvn : vs.length = x.args.length := HVL.out
      clear hj hjn HVS HAL2 z0 z1 z2 z3 z4 z5 z6 z7 y0 y1
      by_cases hkd : x.op.kind = 1
      ·have HT := Lib.hid (HA2.out HAH.out hkd)
       have HXg := HX.out.below HBW3.out HX.out.lt
       have t0 : wr.cell? ⟨w.heap.size, 0, none⟩ = some (.slice (some ⟨bn, on, none⟩) n c) := HXg.cell 0
       have t1 : wr.cell? ⟨w.heap.size, 1, none⟩ = some (.slice O g.outs.length co) := HXg.cell 1
       have HPC := Lib.hid (HPP.out wr HBW3.out)
       rw [hkd] at p0
       clear hkd hofl HXg
       go_wp2_with fail
       ((with_reducible refine HPC.out.mono ?_); rintro e wy ⟨rfl, hb4⟩)
       have HB4 := Lib.hid (HB3.out.trans (hb4.mono HB3.out.size))
       have HBW4 := Lib.hid (HBB.out wy HB4.out)
       have HN4 := Lib.hid (HN3.out.below hb4 HN3.out.lt)
       clear hb4 p0 p1 p2 p3 p4 p5 p6 p7 t0 t1
       have p1 : wy.cell? ⟨wo.heap.size, 1, none⟩ = some (.slice D1 x.op.dims.length e1) := HN4.out.cell 1
       have p2 : wy.cell? ⟨wo.heap.size, 2, none⟩ = some (.slice D2 x.op.at_.length e2) := HN4.out.cell 2
       have p7 : wy.cell? ⟨wo.heap.size, 7, none⟩ = some (.slice D6 x.args.length e6) := HN4.out.cell 7
       by_cases a1 : p ≤ k
       ·have HV := Lib.hid (HVE.out 7 (by decide) (by rw [HT.out, if_pos (.inl a1)]))
        go_wp2_with fail
        go_ret2
        rw [HV.out]
        exact ⟨⟨_, _, _, rfl, rfl, Nat.le_refl _, by omega, fun h => by simp at h⟩, HBW.out _ HBW4.out⟩
       by_cases a2 : x.op.at_.length = 1
       ·obtain ⟨bt, ot, rfl, hbt, gt⟩ := HI2.out wy HB4.out (by omega)
        have ct0 := gt 0 (by omega)
        rw [Nat.add_zero, ← AdjD.getD_at x.op.at_ 0 (by omega)] at ct0
        have HA2' := Lib.hid a2
        rw [a2] at p2
        clear gt a2
        generalize x.op.at_.getD 0 0 = q0 at HT ct0
        by_cases a3 : q0 = (k : Int)
        ·subst a3
         by_cases a4 : 0 < x.args.length
         ·have HV := Lib.hid (HVE.out 2 (by decide) (by rw [HT.out, if_neg (by have := HA2'.out; omega), if_pos a4]))
          have a5 : (0 : Int) < (x.args.length : Int) := by omega
          go_wp2_with fail
          go_ret2
          rw [HV.out]
          exact ⟨⟨_, _, _, rfl, rfl, Nat.le_refl _, by omega, fun h => by simp at h⟩, HBW.out _ HBW4.out⟩
         ·have HT2 := Lib.hid (show AdjD.nodeDims x k p out = if (AdjV.size x.op.dims).2 ≠ 0 then ([], (AdjV.size x.op.dims).2) else (x.op.dims, 0) by rw [HT.out, if_neg (by have := HA2'.out; omega), if_neg a4])
          have a5 : ¬ (0 : Int) < (x.args.length : Int) := by omega
          have HSZ := Lib.hid (refSize_any D1 e1 x.op.dims B wy (by have := HM1.out; omega) (HI1.out wy HB4.out))
          unfold Vw.sizeR at HSZ
          by_cases he : (AdjV.size x.op.dims).2 = 0
          ·have HND2 := Lib.hid (show AdjD.lookGo p g.nodes [] = AdjD.lookGo p (g.nodes.drop (k + 1)) (out ++ [x.op.dims]) by
             rw [HND.out, HT2.out]; simp [he])
           rw [he] at HSZ
           generalize (AdjV.size x.op.dims).1 = sz at HSZ
           have HRX := Lib.hid (HRA.out.below HB4.out)
           have HBX := HBW4
           have HFX := Lib.hid (show Ar.SlAt wy wy.heap.size (.slice D1 x.op.dims.length e1) x.op.dims from ⟨D1, e1, rfl, (HI1.out wy HB4.out).up (Nat.le_trans (Nat.le_trans hBr (Nat.le_of_lt hsa)) HB4.out.size), HM1.out.1, HM1.out.2⟩)
           clear he
           go_wp2_with fail
           ((with_reducible refine HSZ.out.mono ?_); rintro e w7 ⟨rfl, hw7⟩)
           subst hw7
           obtain ⟨vso, ho1, ho2, ho3⟩ := HRX.out
           have HOX := Lib.hid (And.intro ho1 (And.intro ho2 ho3))
           have hvk2 : vso.length = k := by rw [ho2.1, HOL.out]
           have hvk3 : vso.length ≤ 4096 := by omega
           have HVK := Lib.hid hvk2
           clear hvk2
           have hwx : w0.heap.size ≤ (wy).heap.size := HBX.out.size
           have HBa2 := Lib.hid ((Below.refl (wy).heap.size (wy)).alloc (Nat.le_refl _) (.cells #[.slice D1 x.op.dims.length e1] 23))
           have HO2 := Lib.hid (show ((wy).alloc (.cells #[.slice D1 x.op.dims.length e1] 23)).ownsRow w0.heap.size 23 1 (.slice Av k cv) vso.length vso from Ar.own_keep ho1 (fun g hg => HBa2.out.block g (ho1.lt g hg).2))
           have HV2 := Lib.hid ((ho2.below HBa2.out).up HBa2.out.size)
           have HQ2 := Lib.hid (ho3.keep (w' := ((wy).alloc (.cells #[.slice D1 x.op.dims.length e1] 23))) (fun g hg => HBa2.out.block g (ho1.lt g hg).2))
           have HF2 := Lib.hid ((HFX.out.below HBa2.out).up HBa2.out.size)
           have HB5 := Lib.hid (HBX.out.alloc hwx (.cells #[.slice D1 x.op.dims.length e1] 23))
           have hc2 : ((wy).alloc (.cells #[.slice D1 x.op.dims.length e1] 23)).cell? ⟨(wy).heap.size, 0, none⟩ = some (.slice D1 x.op.dims.length e1) := (Blk.new (wy) 23 #[.slice D1 x.op.dims.length e1]).cell 0
           have hs2 : w0.heap.size ≤ ((wy).alloc (.cells #[.slice D1 x.op.dims.length e1] 23)).heap.size := by simp; omega
           obtain ⟨i0, g1, g2, g3, g4⟩ := info_parts Try.infoRow
           clear ho1 ho2 ho3
           go_wp2_with (at_builtin; refine wpList_push_q _ rfl _ _ 33 rfl w0.heap.size 23 i0 (.slice none 0 0) 24 Try.underlying33 g1 g2 g3 g4 rfl (.slice Av k cv) vso.length vso rfl HO2.out ⟨(wy).heap.size, 0, none⟩ 1 (.slice D1 x.op.dims.length e1) rfl hc2 rfl (by unfold maxLen; omega) (by omega) hs2 Gr.isSl HQ2.out ⟨_, _, _, rfl⟩ (by intro u hu; simp [Value.cells] at hu; exact ⟨_, _, _, hu⟩) ?_)
           intro v' w6 how hgr hwhere hq6
           have HB6 := Lib.hid (HB5.out.grown hgr hs2 (fun g hg => (HO2.out.lt g hg).1))
           have HR6 := Lib.hid (Gr.RowsQ.push HO2.out HV2.out HQ2.out HF2.out how hgr hq6)
           obtain ⟨A6, c6, hv6, _⟩ := Vw.own_any how
           rw [HVK.out] at hv6
           subst hv6
           clear how hgr hwhere hq6
           go_wp2_with fail
           go_roundw
           case rel => exact ⟨k + 1, _, by go_num, by omega, by rw [List.length_append, HOL.out]; rfl, HND2.out, HB6.out, ⟨_, _, rfl⟩, HR6.out⟩
           case measure => simp [intOf]; omega
          ·have hq : ((AdjV.size x.op.dims).2 != 0) = true := by simpa using he
           have HV := Lib.hid (HVE.out _ he (by rw [HT2.out, if_pos he]))
           generalize (AdjV.size x.op.dims).2 = er at hq HV HSZ he
           generalize (AdjV.size x.op.dims).1 = sz at HSZ
           clear he
           go_wp2_with fail
           ((with_reducible refine HSZ.out.mono ?_); rintro e w7 ⟨rfl, hw7⟩)
           subst hw7
           go_wp2_with fail
           go_ret2
           rw [HV.out]
           exact ⟨⟨_, _, _, rfl, rfl, Nat.le_refl _, by omega, fun h => by simp at h⟩, HBW.out _ HBW4.out⟩
        ·have HV := Lib.hid (HVE.out 7 (by decide) (by rw [HT.out, if_pos (.inr (.inr a3))]))
         have q3 : (q0 != (k : Int)) = true := by simpa using a3
         clear a3
         go_wp2_with fail
         go_ret2
         rw [HV.out]
         exact ⟨⟨_, _, _, rfl, rfl, Nat.le_refl _, by omega, fun h => by simp at h⟩, HBW.out _ HBW4.out⟩
       ·have HV := Lib.hid (HVE.out 7 (by decide) (by rw [HT.out, if_pos (.inr (.inl a2))]))
        have q2 : ((x.op.at_.length : Int) != 1) = true := by rw [bne_iff_ne]; omega
        clear a2
        go_wp2_with fail
        go_ret2
        rw [HV.out]
        exact ⟨⟨_, _, _, rfl, rfl, Nat.le_refl _, by omega, fun h => by simp at h⟩, HBW.out _ HBW4.out⟩
      ·have HT := Lib.hid (HA1.out HAH.out hkd)
       have hq : (x.op.kind == 1) = false := by simpa using hkd
       have HC := Lib.hid (Ar.dims2_any _ x.op Ax cx (AdjD.ofArgs out x.args) wr.heap.size wr (Nat.le_refl _) HSHK.out.1 (by omega) (by rw [hofl]; exact Gr.own_room HO.out) (Gr.own_cap HO.out) (HOPX.out wr HB3.out) (HVN.out.lists HO.out (by omega)))
       rw [hofl, hvn] at HC
       obtain ⟨⟨dl, de⟩, hdd⟩ : ∃ r, AdjD.dims x.op (AdjD.ofArgs out x.args) = r := ⟨_, rfl⟩
       have HDD := Lib.hid hdd
       rw [hdd] at HC HT
       clear hkd hofl hdd
       go_wp2_with fail
       ((with_reducible refine HC.out.mono ?_); rintro e w2 ⟨v, rfl, hsl, hb4⟩)
       dsimp only at hsl ⊢
       have HSL := Lib.hid hsl
       obtain ⟨A2, c2, rfl, _⟩ := hsl
       have HB4 := Lib.hid (HB3.out.trans (hb4.mono HB3.out.size))
       have HBW4 := Lib.hid (HBB.out w2 HB4.out)
       clear hb4 p0 p1 p2 p3 p4 p5 p6 p7
       by_cases he : de = 0
       ·subst he
        have HND2 := Lib.hid (show AdjD.lookGo p g.nodes [] = AdjD.lookGo p (g.nodes.drop (k + 1)) (out ++ [dl]) by
         rw [HND.out, HT.out, if_neg (by simp)])
        have HRX := Lib.hid (HRA.out.below HB4.out)
        have HBX := HBW4
        have HFX := HSL
        obtain ⟨vso, ho1, ho2, ho3⟩ := HRX.out
        have HOX := Lib.hid (And.intro ho1 (And.intro ho2 ho3))
        have hvk2 : vso.length = k := by rw [ho2.1, HOL.out]
        have hvk3 : vso.length ≤ 4096 := by omega
        have HVK := Lib.hid hvk2
        clear hvk2
        have hwx : w0.heap.size ≤ (w2).heap.size := HBX.out.size
        have HBa2 := Lib.hid ((Below.refl (w2).heap.size (w2)).alloc (Nat.le_refl _) (.cells #[.slice A2 dl.length c2] 23))
        have HO2 := Lib.hid (show ((w2).alloc (.cells #[.slice A2 dl.length c2] 23)).ownsRow w0.heap.size 23 1 (.slice Av k cv) vso.length vso from Ar.own_keep ho1 (fun g hg => HBa2.out.block g (ho1.lt g hg).2))
        have HV2 := Lib.hid ((ho2.below HBa2.out).up HBa2.out.size)
        have HQ2 := Lib.hid (ho3.keep (w' := ((w2).alloc (.cells #[.slice A2 dl.length c2] 23))) (fun g hg => HBa2.out.block g (ho1.lt g hg).2))
        have HF2 := Lib.hid ((HFX.out.below HBa2.out).up HBa2.out.size)
        have HB5 := Lib.hid (HBX.out.alloc hwx (.cells #[.slice A2 dl.length c2] 23))
        have hc2 : ((w2).alloc (.cells #[.slice A2 dl.length c2] 23)).cell? ⟨(w2).heap.size, 0, none⟩ = some (.slice A2 dl.length c2) := (Blk.new (w2) 23 #[.slice A2 dl.length c2]).cell 0
        have hs2 : w0.heap.size ≤ ((w2).alloc (.cells #[.slice A2 dl.length c2] 23)).heap.size := by simp; omega
        obtain ⟨i0, g1, g2, g3, g4⟩ := info_parts Try.infoRow
        clear ho1 ho2 ho3
        go_wp2_with (at_builtin; refine wpList_push_q _ rfl _ _ 33 rfl w0.heap.size 23 i0 (.slice none 0 0) 24 Try.underlying33 g1 g2 g3 g4 rfl (.slice Av k cv) vso.length vso rfl HO2.out ⟨(w2).heap.size, 0, none⟩ 1 (.slice A2 dl.length c2) rfl hc2 rfl (by unfold maxLen; omega) (by omega) hs2 Gr.isSl HQ2.out ⟨_, _, _, rfl⟩ (by intro u hu; simp [Value.cells] at hu; exact ⟨_, _, _, hu⟩) ?_)
        intro v' w6 how hgr hwhere hq6
        have HB6 := Lib.hid (HB5.out.grown hgr hs2 (fun g hg => (HO2.out.lt g hg).1))
        have HR6 := Lib.hid (Gr.RowsQ.push HO2.out HV2.out HQ2.out HF2.out how hgr hq6)
        obtain ⟨A6, c6, hv6, _⟩ := Vw.own_any how
        rw [HVK.out] at hv6
        subst hv6
        clear how hgr hwhere hq6
        go_wp2_with fail
        go_roundw
        case rel => exact ⟨k + 1, _, by go_num, by omega, by rw [List.length_append, HOL.out]; rfl, HND2.out, HB6.out, ⟨_, _, rfl⟩, HR6.out⟩
        case measure => simp [intOf]; omega
       ·have hq : (de != 0) = true := by simpa using he
        have HV := Lib.hid (HVE.out de he (by
         have h := AdjD.dims_bad (op := x.op) (args := AdjD.ofArgs out x.args) (by rw [HDD.out]; exact he)
         rw [HDD.out] at h
         rw [HT.out]; exact Prod.ext h rfl))
        clear he
        go_wp2_with fail
        go_ret2
        rw [HV.out]
        exact ⟨⟨_, _, _, rfl, rfl, Nat.le_refl _, by omega, fun h => by simp at h⟩, HBW.out _ HBW4.out⟩
   ·have hkk : k = n := by omega
    subst hkk
    have HGF := Lib.hid (show AdjD.lookGo p g.nodes [] = (out, 0) by rw [HGO.out, List.drop_eq_nil_of_le (by rw [HN.out]; omega)]; rfl)
    have HLF := Lib.hid (show AdjD.look g = if AdjD.ahead g.nodes.length g.outs = false then ([], 4) else (out, 0) by rw [HLK.out, HGF.out, if_neg (by simp)])
    clear hk hkn
    go_wp2_with fail
    go_loopw [112] (fun kv wx => ∃ q : Nat, kv = .int .i64 (q : Int) ∧ q ≤ g.outs.length ∧ (∀ j (hj : j < g.outs.length), j < q → 0 ≤ g.outs[j] ∧ g.outs[j] < (k : Int)) ∧ wx = wo) (fun kv _ => g.outs.length - (intOf kv).toNat)
    case atStart => exact ⟨0, rfl, by omega, fun j _ h => by omega, rfl⟩
    case round =>
     obtain ⟨q, rfl, hq, hall, rfl⟩ := hrel
     have HAL := Lib.hid hall
     clear hall
     by_cases hqn : q < g.outs.length
     ·obtain ⟨bo, oo, rfl, hbo, go⟩ := HOS.out _ HB2.out (by omega)
      have co1 := go q hqn
      have HBD := Lib.hid (show ¬ (0 ≤ g.outs[q] ∧ g.outs[q] < (k : Int)) → AdjD.look g = ([], 4) from fun h => by
       rw [HLF.out, if_pos]
       cases ha : AdjD.ahead g.nodes.length g.outs with
       | false => rfl
       | true =>
        exfalso; apply h
        have := List.all_eq_true.1 ha _ (List.getElem_mem hqn)
        rw [HN.out] at this
        simpa using this)
      have HNX := Lib.hid (show (0 ≤ g.outs[q] ∧ g.outs[q] < (k : Int)) → ∀ j (hj : j < g.outs.length), j < q + 1 → 0 ≤ g.outs[j] ∧ g.outs[j] < (k : Int) from fun h j hj hjk => by
       by_cases e : j = q
       ·subst e; exact h
       ·exact HAL.out j hj (by omega))
      have i1 : (0 : Int) ≤ (q : Int) := by omega
      have i2 : (q : Int) < (g.outs.length : Int) := by omega
      obtain ⟨hlo1, hlo2⟩ := HLO.out
      have hq1 : q + 1 ≤ 9223372036854775807 := by omega
      clear go hlo1 hlo2
      generalize g.outs[q] = o at co1 HBD HNX
      by_cases h1 : o < 0
      ·have HV := Lib.hid (HBD.out (by omega))
       go_wp2_with fail
       go_ret2
       rw [HV.out]
       exact ⟨⟨_, _, _, rfl, rfl, Nat.le_refl _, by omega, fun h => by simp at h⟩, HBW.out _ HB2.out⟩
      by_cases h2 : (k : Int) ≤ o
      ·have HV := Lib.hid (HBD.out (by omega))
       go_wp2_with fail
       go_ret2
       rw [HV.out]
       exact ⟨⟨_, _, _, rfl, rfl, Nat.le_refl _, by omega, fun h => by simp at h⟩, HBW.out _ HB2.out⟩
      have HNX2 := Lib.hid (HNX.out (by omega))
      go_wp2_with fail
      go_roundw
      case rel => exact ⟨q + 1, by go_num, by omega, HNX2.out, by first | trivial | rfl⟩
      case measure => simp [intOf]; omega
     ·have HV := Lib.hid (show AdjD.look g = (out, 0) by
        rw [HLF.out, if_neg]
        intro ha
        have : AdjD.ahead g.nodes.length g.outs = true := List.all_eq_true.2 (fun o ho => by
         obtain ⟨j, hj, rfl⟩ := List.getElem_of_mem ho
         have := HAL.out j hj (by omega)
         rw [HN.out]
         simp [this])
        rw [this] at ha; cases ha)
      have HFIN := Lib.hid (show k ≤ cv ∧ cv ≤ 9223372036854775807 ∧ Ar.ListsAt wr wr.heap.size Av out from by
       obtain ⟨vs, r1, r2, r3⟩ := HR2.out
       exact ⟨Gr.own_room r1, Gr.own_cap r1, HR2.out.lists⟩)
      go_wp2_with fail
      go_ret2
      rw [HV.out]
      exact ⟨⟨_, _, _, rfl, HOL.out.symm, HFIN.out.1, HFIN.out.2.1, HFIN.out.2.2⟩, HBW.out _ HB2.out⟩
end Go.Proofs.Ytapedmpbkffopaa
end
