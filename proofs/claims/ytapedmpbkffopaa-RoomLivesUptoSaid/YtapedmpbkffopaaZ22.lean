/-
  The walk of graph.look: the dimensions of all nodes; Plain: what is fine about a graph's dimensions where nothing is wrong; The walk of graph.Dims; Plain: when what a graph's nodes are worth is needed, step by step; The walk of room.Lives. Conditions: where the theorems name them.
-/
import Derived.Test.YtapedmpbkffopaaZ12
import Derived.Test.YtapedmpbkffopaaZ21
section
namespace AdjD
theorem lookGo_step (ps : Nat) (x : Node) (r : List Node) (out : List (List Int)) : lookGo ps (x :: r) out = if (nodeDims x out.length ps out).2 ≠ 0 then ([], (nodeDims x out.length ps out).2) else lookGo ps r (out ++ [(nodeDims x out.length ps out).1]) := rfl
end AdjD
namespace Go.Proofs.Ytapedmpbkffopaa
set_option linter.unusedVariables false
open Go.RowKit Adj
namespace Gr
theorem sl_grown {w w' : World} {B : Nat} {v : Value} {l : List Int} {row : Option Nat} (h : Ar.SlAt w B v l) (hB : B ≤ w.heap.size) (hne : 0 < l.length → ∀ g, v.ownBlock = some g → some g ≠ row) (hg : w.grownBy w' row) : Ar.SlAt w' B v l := by
 obtain ⟨A, c, rfl, hi, h2⟩ := h
 refine ⟨A, c, rfl, fun hp => ?_, h2⟩
 obtain ⟨b, off, rfl, hb, hc⟩ := hi hp
 refine ⟨b, off, rfl, hb, fun k hk => ?_⟩
 exact (World.cell?_of_block (hg.block b (by omega) (hne hp b rfl))).trans (hc k hk)
def Rows (N : Nat) (w : World) (v : Value) (ls : List (List Int)) : Prop :=
 ∃ vs : List Value, w.ownsRow N 23 1 v vs.length vs ∧ Vals w w.heap.size vs ls ∧ ∀ j (h : j < vs.length) (h2 : j < ls.length) g, 0 < ls[j].length → vs[j].ownBlock = some g → v.ownBlock ≠ some g
theorem Rows.nil (N : Nat) (w : World) : Rows N w (.slice none 0 0) [] := ⟨[], ⟨rfl, .inl ⟨rfl, rfl⟩⟩, ⟨rfl, fun j h _ => by simp at h⟩, fun j h _ => by simp at h⟩
theorem Rows.below {N : Nat} {w w' : World} {v : Value} {ls : List (List Int)} (h : Rows N w v ls) (hb : Below w.heap.size w w') : Rows N w' v ls := by
 obtain ⟨vs, h1, h2, h3⟩ := h
 exact ⟨vs, Ar.own_keep h1 (fun g hg => hb.block g (h1.lt g hg).2), (h2.below hb).up hb.size, h3⟩
theorem Rows.lists {N n c : Nat} {w : World} {A : Option Addr} {ls : List (List Int)} (h : Rows N w (.slice A n c) ls) : Ar.ListsAt w w.heap.size A ls := by
 obtain ⟨vs, h1, h2, _⟩ := h
 have hn : vs.length = n := by
  rcases h1.2 with ⟨e1, h0⟩ | ⟨g, cap, cur, e1, hb, hh, hc, hm, hs, ht⟩
  ·injection e1 with _ e2; omega
  ·injection e1 with _ e2; omega
 rw [hn] at h1
 exact h2.lists h1 (Nat.le_refl _)
theorem Rows.lower {N N' : Nat} {w : World} {v : Value} {ls : List (List Int)} (h : Rows N w v ls) (hN : N' ≤ N) : Rows N' w v ls := by
 obtain ⟨vs, h1, h2, h3⟩ := h
 exact ⟨vs, Vw.own_base h1 hN, h2, h3⟩
theorem Rows.push {N : Nat} {w w1 w2 : World} {v v' : Value} {vs : List Value} {ls : List (List Int)} {l : List Int} {G : Option Addr} {n c : Nat} (h1 : w.ownsRow N 23 1 v vs.length vs) (h2 : Vals w w.heap.size vs ls)
    (h3 : ∀ j (h : j < vs.length) (h2 : j < ls.length) g, 0 < ls[j].length → vs[j].ownBlock = some g → v.ownBlock ≠ some g) (hb : Below w.heap.size w w1) (hf : Ar.FrAt w.heap.size w1 (.slice G n c) l)
    (how : w2.ownsRow N 23 1 v' (vs.length + 1) (vs ++ [.slice G n c])) (hgr : (w1.alloc (.cells #[.slice G n c] 23)).grownBy w2 v.ownBlock) (hw : v'.ownBlock = v.ownBlock ∨ v'.ownBlock = some (w1.heap.size + 1)) : Rows N w2 v' (ls ++ [l]) := by
 have hal : Below w1.heap.size w1 (w1.alloc (.cells #[.slice G n c] 23)) := (Below.refl _ _).alloc (Nat.le_refl _) _
 have hsz : w1.heap.size + 1 ≤ w2.heap.size := by have := hgr.size; simpa using this
 have hvl : vs.length = ls.length := h2.1
 have hz := hb.size
 have hlt : ∀ g, v.ownBlock = some g → g < w.heap.size := fun g hg => (h1.lt g hg).2
 have hlist : ∀ j (hj : j < vs.length) (hj2 : j < ls.length), Ar.SlAt w2 w2.heap.size vs[j] ls[j] := fun j hj hj2 => by
  refine Ar.SlAt.up (sl_grown (B := w.heap.size) (((h2.2 j hj hj2).below hb).below (hal.mono hz)) (by simp; omega) (fun hp g hg e => ?_) hgr) (by omega)
  exact h3 j hj hj2 g hp hg e.symm
 have hnew : Ar.SlAt w2 w2.heap.size (.slice G n c) l := by
  refine Ar.SlAt.up (sl_grown (B := w1.heap.size) (hf.1.below hal) (by simp) (fun hp g hg e => ?_) hgr) (by omega)
  have := hf.2 hp g hg
  have := hlt g e.symm
  omega
 refine ⟨vs ++ [.slice G n c], by rw [List.length_append]; exact how, ⟨by simp [hvl], fun j j1 j2 => ?_⟩, fun j j1 j2 g hp hg => ?_⟩
 ·by_cases hj : j < vs.length
  ·rw [List.getElem_append_left hj, List.getElem_append_left (by omega)]
   exact hlist j hj _
  ·have e1 : j = vs.length := by simp at j1; omega
   have g1 : (vs ++ [Value.slice G n c])[j] = .slice G n c := by rw [List.getElem_append_right (by omega)]; simp
   have g2 : (ls ++ [l])[j] = l := by rw [List.getElem_append_right (by omega)]; simp
   rw [g1, g2]; exact hnew
 ·by_cases hj : j < vs.length
  ·rw [List.getElem_append_left hj] at hg
   rw [List.getElem_append_left (by omega)] at hp
   have hb1 : g < w.heap.size := by
    obtain ⟨A, cc, e, hi, _⟩ := h2.2 j hj (by omega)
    obtain ⟨b, off, rfl, hlt2, _⟩ := hi hp
    rw [e] at hg
    simp [Value.ownBlock] at hg
    omega
   rcases hw with e | e
   ·rw [e]; exact h3 j hj (by omega) g hp hg
   ·rw [e]; intro e2; injection e2 with e2; omega
  ·have e1 : j = vs.length := by simp at j1; omega
   have g1 : (vs ++ [Value.slice G n c])[j] = .slice G n c := by rw [List.getElem_append_right (by omega)]; simp
   have g2 : (ls ++ [l])[j] = l := by rw [List.getElem_append_right (by omega)]; simp
   rw [g1] at hg
   rw [g2] at hp
   have h5 := hf.2 hp g hg
   have hb1 : g < w1.heap.size := by
    obtain ⟨A, cc, e, hi, _⟩ := hf.1
    injection e with e1
    subst e1
    obtain ⟨b, off, rfl, hlt2, _⟩ := hi hp
    simp [Value.ownBlock] at hg
    omega
   rcases hw with e | e
   ·rw [e]; intro e2; have := hlt g e2; omega
   ·rw [e]; intro e2; injection e2 with e2; omega
def GShort (g : AdjD.Graph) : Prop := ∀ x ∈ g.nodes, Ar.Short x.op ∧ x.args.length ≤ 4194304
def LookOut (w w' : World) (r : List (List Int) × Int) (e : Ending) : Prop := (∃ A n c, e = .returned (.tuple #[.slice A n c, .int .i64 r.2]) ∧ n = r.1.length ∧ Rows w.heap.size w' (.slice A n c) r.1) ∧ Below w.heap.size w w'
theorem made_nil (c : Nat) : madeCells (Value.slice none 0 0).cells c = (List.replicate c (Value.slice none 0 0)).toArray := by
 apply Array.ext
 ·simp [size_madeCells, Value.cells]
 ·intro i h1 h2
  simp [madeCells, Value.cells, Nat.mod_one]
end Gr
theorem Gr.run_make_rows (c : Nat) (h : c ≤ 65536) (w : World) :
    (Instr.makeSlice 33 (.int .i64 0) (.int .i64 (c : Int))).run Try.prog w = .ok (.slice (some ⟨w.heap.size, 0, none⟩) 0 c) (w.alloc (.cells (Array.replicate c (Value.slice none 0 0)) 23)) := by
 rw [← List.toArray_replicate, ← Gr.made_nil]
 obtain ⟨i0, hi, hz0, hz1, hz2⟩ := info_parts Try.infoRow
 have hb : (i0.bytes : Int) * (c : Int) ≤ 281474976710656 := by rw [hz2]; omega
 have hr := run_make (P := Try.prog) w 33 23 i0 _ Try.underlying33 hi hz0 .i64 .i64 0 c (by omega) (by omega) hb (by omega)
 simp only [Int.toNat_natCast, hz1, Nat.mul_one] at hr
 exact hr
set_option maxRecDepth 100000 in
set_option maxHeartbeats 8000000 in
theorem Gr.look_any (val : Value) (g : AdjD.Graph) (B : Nat) (w : World) (hB : B ≤ w.heap.size) (hsh : Gr.GShort g) (h : Gr.GraphAt w B val g) :
    Calls Try.prog 12 #[val] w fun e w' => Gr.LookOut w w' (AdjD.look g) e := by
 have HG := Lib.hid (fun W (hb : Below w.heap.size w W) => (h.below (hb.mono hB)).up (Nat.le_trans hB hb.size))
 obtain ⟨A, c, vo, rfl, hns, hn, hc, ⟨O, co, rfl, io, lo, mo⟩⟩ := h
 have HX := Lib.hid (Blk.new w 25 #[.slice A g.nodes.length c, .slice O g.outs.length co])
 have HB := Lib.hid ((Below.refl w.heap.size w).alloc (Nat.le_refl _) (.cells #[.slice A g.nodes.length c, .slice O g.outs.length co] 25))
 obtain ⟨w0, hw0⟩ : ∃ w0, w.alloc (.cells #[.slice A g.nodes.length c, .slice O g.outs.length co] 25) = w0 := ⟨_, rfl⟩
 rw [hw0] at HX HB
 have hws : w.heap.size < w0.heap.size := HX.out.lt
 have b0 : w0.cell? ⟨w.heap.size, 0, none⟩ = some (.slice A g.nodes.length c) := HX.out.cell 0
 have b1 : w0.cell? ⟨w.heap.size, 1, none⟩ = some (.slice O g.outs.length co) := HX.out.cell 1
 by_cases hbig : 4096 < g.nodes.length
 ·have HV := Lib.hid (show AdjD.look g = ([], 5) by unfold AdjD.look; rw [if_pos hbig])
  have hb2 : (4096 : Int) < (g.nodes.length : Int) := by omega
  clear hns io hbig
  go_enter Try.func12, Try.ntmps12
  go_wp2_with fail
  go_ret2
  rw [HV.out]
  exact ⟨⟨_, _, _, rfl, rfl, Gr.Rows.nil _ _⟩, HB.out⟩
 ·have HLK := Lib.hid (show AdjD.look g = if (AdjD.lookGo (AdjD.params g.nodes) g.nodes []).2 ≠ 0 then ([], (AdjD.lookGo (AdjD.params g.nodes) g.nodes []).2) else if AdjD.ahead g.nodes.length g.outs = false then ([], 4) else ((AdjD.lookGo (AdjD.params g.nodes) g.nodes []).1, 0) by unfold AdjD.look; rw [if_neg hbig])
  have hbig2 : g.nodes.length ≤ 4096 := by omega
  have hmk := fun W => Gr.run_make_rows g.nodes.length (by omega) W
  have HNS := Lib.hid (fun W (hb : Below w.heap.size w W) => hns.below (hb.mono hB))
  have HOS := Lib.hid (fun W (hb : Below w.heap.size w W) => io.below (hb.mono hB))
  have HPL := Lib.hid (AdjD.params_le g.nodes)
  have HSH := Lib.hid hsh
  have HLO := Lib.hid (And.intro lo mo)
  have HCC := Lib.hid (And.intro hn hc)
  clear hns io hbig hsh lo mo hn hc
  obtain ⟨p, hp⟩ : ∃ p, AdjD.params g.nodes = p := ⟨_, rfl⟩
  have HPP := Lib.hid (fun W (hb : Below w.heap.size w W) => Gr.params_any _ g W.heap.size W (Nat.le_refl _) (HG.out W hb))
  rw [hp] at HLK HPL HPP
  obtain ⟨n, hnn⟩ : ∃ n, g.nodes.length = n := ⟨_, rfl⟩
  have HN := Lib.hid hnn
  rw [hnn] at HX b0 hbig2 hmk HPL HCC hw0 HPP ⊢
  have HM := Lib.hid (Blk.new w0 23 (Array.replicate n (Value.slice none 0 0)))
  have HBM := Lib.hid ((Below.refl w0.heap.size w0).alloc (Nat.le_refl _) (.cells (Array.replicate n (Value.slice none 0 0)) 23))
  obtain ⟨wm, hwm⟩ : ∃ wm, w0.alloc (.cells (Array.replicate n (Value.slice none 0 0)) 23) = wm := ⟨_, rfl⟩
  rw [hwm] at HM HBM
  have hrow : wm.ownsRow w0.heap.size 23 1 (.slice (some ⟨w0.heap.size, 0, none⟩) 0 n) 0 [] := ⟨rfl, .inr ⟨_, n, _, rfl, Nat.le_refl _, HM.out, by omega, by unfold maxLen; omega, by simp, by simp⟩⟩
  have HROW := Lib.hid hrow
  have HBw := Lib.hid (HB.out.trans (HBM.out.mono HB.out.size))
  have HXM := Lib.hid (HX.out.below HBM.out HX.out.lt)
  have HWM := Lib.hid hwm
  have c0 : (w0.alloc (.cells (Array.replicate n (Value.slice none 0 0)) 23)).cell? ⟨w.heap.size, 0, none⟩ = some (.slice A n c) := by rw [hwm]; exact HXM.out.cell 0
  have c1 : (w0.alloc (.cells (Array.replicate n (Value.slice none 0 0)) 23)).cell? ⟨w.heap.size, 1, none⟩ = some (.slice O g.outs.length co) := by rw [hwm]; exact HXM.out.cell 1
  have HP1 := Lib.hid (HPP.out wm HBw.out)
  clear hrow hnn hwm
  go_enter Try.func12, Try.ntmps12
  go_wp2_with fail
  rw [HWM.out]
  ((with_reducible refine HP1.out.mono ?_); rintro e w1 ⟨rfl, hb1⟩)
  have HX1 := Lib.hid (HXM.out.below hb1 HXM.out.lt)
  have HB1 := Lib.hid (show Below w0.heap.size w0 w1 from HBM.out.trans (hb1.mono HBM.out.size))
  have HRW := Lib.hid (show Gr.Rows w0.heap.size w1 (.slice (some ⟨w0.heap.size, 0, none⟩) 0 n) [] from Gr.Rows.below ⟨[], HROW.out, ⟨rfl, fun j h _ => by simp at h⟩, fun j h _ => by simp at h⟩ hb1)
  have y0 : w1.cell? ⟨w.heap.size, 0, none⟩ = some (.slice A n c) := HX1.out.cell 0
  clear hb1 b0 b1 c0 c1
  go_wp2_with fail
  go_loopw [4, 25] (fun v kv wr => ∃ (k : Nat) (out : List (List Int)), kv = .int .i64 (k : Int) ∧ k ≤ n ∧ out.length = k ∧ AdjD.lookGo p g.nodes [] = AdjD.lookGo p (g.nodes.drop k) out ∧ Below w0.heap.size w0 wr ∧ (∃ Av cv, v = .slice Av k cv) ∧ Gr.Rows w0.heap.size wr v out) (fun _ kv _ => n - (intOf kv).toNat)
  case atStart => exact ⟨0, [], rfl, by omega, rfl, rfl, HB1.out, ⟨_, _, rfl⟩, HRW.out⟩
  case round =>
   obtain ⟨k, out, rfl, hk, hol, hgo, hb, ⟨Av, cv, rfl⟩, hrows⟩ := hrel
   have HOL := Lib.hid hol
   have HGO := Lib.hid hgo
   have HB2 := Lib.hid hb
   have HR2 := Lib.hid hrows
   have HBW2 := Lib.hid (HB.out.trans (hb.mono (by omega)))
   have HX2 := Lib.hid (HX.out.below hb HX.out.lt)
   clear hol hgo hb hrows
   by_cases hkn : k < n
   ·have hkl : k < g.nodes.length := by have := HN.out; omega
    obtain ⟨bn, on, rfl, hbn, gn⟩ := HNS.out wr HBW2.out (by omega)
    obtain ⟨v1, v2, v3, v4, v5, v6, ⟨z0, z1, z2, z3, z4, z5, z6, z7⟩, s1, s2, s3, s4, s5, s6⟩ := gn k hkl
    have HDR := Lib.hid (List.drop_eq_getElem_cons hkl)
    have hshk := HSH.out g.nodes[k] (List.getElem_mem hkl)
    have HSHK := Lib.hid hshk
    have i1 : (0 : Int) ≤ (k : Int) := by omega
    have i2 : (k : Int) < (n : Int) := by omega
    have hsw : w.heap.size ≤ wr.heap.size := HBW2.out.size
    clear gn hshk
    generalize g.nodes[k] = x at z0 z1 z2 z3 z4 z5 z6 z7 s1 s2 s3 s4 s5 s6 HDR HSHK
    obtain ⟨D1, e1, rfl, _⟩ := id s1
    obtain ⟨D2, e2, rfl, _⟩ := id s2
    obtain ⟨D3, e3, rfl, _⟩ := id s3
    obtain ⟨D4, e4, rfl, _⟩ := id s4
    obtain ⟨D5, e5, rfl, _⟩ := id s5
    obtain ⟨D6, e6, rfl, _⟩ := id s6
    obtain ⟨V, hV⟩ : ∃ V : Value, V = .agg #[.int .i64 x.op.kind, .slice D1 x.op.dims.length e1, .slice D2 x.op.at_.length e2, .slice D3 x.op.lo.length e3, .slice D4 x.op.hi.length e4, .slice D5 x.op.step.length e5, .int .i64 x.op.value, .slice D6 x.args.length e6] := ⟨_, rfl⟩
    have HAL := Lib.hid (Blk.new wr 39 #[.int .i64 x.op.kind, .slice D1 x.op.dims.length e1, .slice D2 x.op.at_.length e2, .slice D3 x.op.lo.length e3, .slice D4 x.op.hi.length e4, .slice D5 x.op.step.length e5, .int .i64 x.op.value, .slice D6 x.args.length e6])
    have HBa := Lib.hid ((Below.refl wr.heap.size wr).alloc (Nat.le_refl _) (.cells #[.int .i64 x.op.kind, .slice D1 x.op.dims.length e1, .slice D2 x.op.at_.length e2, .slice D3 x.op.lo.length e3, .slice D4 x.op.hi.length e4, .slice D5 x.op.step.length e5, .int .i64 x.op.value, .slice D6 x.args.length e6] 39))
    obtain ⟨wa, hwa⟩ : ∃ wa, wr.alloc (.cells #[.int .i64 x.op.kind, .slice D1 x.op.dims.length e1, .slice D2 x.op.at_.length e2, .slice D3 x.op.lo.length e3, .slice D4 x.op.hi.length e4, .slice D5 x.op.step.length e5, .int .i64 x.op.value, .slice D6 x.args.length e6] 39) = wa := ⟨_, rfl⟩
    rw [hwa] at HAL HBa
    have HNV := Lib.hid (show Gr.NodeV wa wa.heap.size V x from Gr.NodeV.up (Gr.NodeV.below ⟨_, _, _, _, _, _, hV, s1, s2, s3, s4, s5, s6⟩ (HBa.out.mono (Nat.le_trans hB hsw))) (Nat.le_trans (Nat.le_trans hB hsw) HBa.out.size))
    rw [hV] at HNV
    have HRa := Lib.hid (HR2.out.below HBa.out)
    obtain ⟨vs, r1, r2, r3⟩ := HRa.out
    have hcv := Gr.own_cap r1
    have hvk : vs.length = k := by rw [r2.1, HOL.out]
    have hkc : k ≤ cv := by
     rcases r1.2 with ⟨e1, h0⟩ | ⟨g', cap, cur, e1, hb', hh, hc', hm, hs', ht⟩
     ·injection e1 with _ e2; omega
     ·injection e1 with _ e2 e3; omega
    have HVS := Lib.hid (And.intro r1 (And.intro r2 r3))
    have HVK := Lib.hid hvk
    clear r1 r2 r3 hvk
    have HC := Lib.hid (Gr.node_any _ x k p Av cv out wa.heap.size wa (Nat.le_refl _) HSHK.out.1 HSHK.out.2 HOL.out (by omega) (by have := HPL.out; omega) hkc hcv HNV.out HRa.out.lists)
    have q0 : (wr.alloc (.cells #[.int .i64 x.op.kind, .slice D1 x.op.dims.length e1, .slice D2 x.op.at_.length e2, .slice D3 x.op.lo.length e3, .slice D4 x.op.hi.length e4, .slice D5 x.op.step.length e5, .int .i64 x.op.value, .slice D6 x.args.length e6] 39)).heap.size = wr.heap.size + 1 := by simp
    have HWA := Lib.hid hwa
    have HND := Lib.hid (show AdjD.lookGo p g.nodes [] = if (AdjD.nodeDims x k p out).2 ≠ 0 then ([], (AdjD.nodeDims x k p out).2) else AdjD.lookGo p (g.nodes.drop (k + 1)) (out ++ [(AdjD.nodeDims x k p out).1]) by
     rw [HGO.out, HDR.out, AdjD.lookGo_step, HOL.out])
    clear hwa hV s1 s2 s3 s4 s5 s6 hcv
    obtain ⟨⟨dl, de⟩, hdd⟩ : ∃ r, AdjD.nodeDims x k p out = r := ⟨_, rfl⟩
    rw [hdd] at HC HND
    dsimp only at HND
    clear hdd
    go_wp2_with fail
    rw [HWA.out]
    ((with_reducible refine HC.out.mono ?_); rintro e w2 ⟨⟨G, m, cm, rfl, hfr⟩, hb2⟩)
    have HB3 := Lib.hid (show Below w0.heap.size w0 w2 from (HB2.out.trans (HBa.out.mono HB2.out.size)).trans (hb2.mono (Nat.le_trans HB2.out.size HBa.out.size)))
    have HBW3 := Lib.hid (HB.out.trans (HB3.out.mono (by omega)))
    have HBb := Lib.hid hb2
    have HFR := Lib.hid hfr
    clear hb2 hfr
    by_cases he : de = 0
    ·subst he
     have HND2 := Lib.hid (show AdjD.lookGo p g.nodes [] = AdjD.lookGo p (g.nodes.drop (k + 1)) (out ++ [dl]) by rw [HND.out, if_neg (by simp)])
     have hfr := HFR.out (by first | trivial | rfl)
     obtain ⟨r1, r2, r3⟩ := HVS.out
     have ho2 : w2.ownsRow w0.heap.size 23 1 (.slice Av k cv) vs.length vs := Ar.own_keep r1 (fun g hg => HBb.out.block g (r1.lt g hg).2)
     have HO2 := Lib.hid ho2
     have hvk2 : vs.length ≤ 4096 := by have := HVK.out; omega
     have hws2 : w0.heap.size ≤ w2.heap.size := HB3.out.size
     obtain ⟨i0, g1, g2, g3, g4⟩ := info_parts Try.infoRow
     clear r1 r2 r3 ho2 hfr
     go_wp2_with (at_builtin; refine wpList_append_any _ rfl _ _ 33 rfl w0.heap.size 23 i0 (.slice none 0 0) 1 24 Try.underlying33 g1 g2 g3 g4 rfl (by decide) _ _ _ rfl (HO2.out.alloc _) _ (some ⟨w2.heap.size, 0, none⟩) 1 1 [.slice G m cm] rfl (Ar.reads_cells (Blk.new w2 23 #[.slice G m cm]) rfl) (by intro u hu; simp at hu; subst hu; rfl) (by unfold maxLen; omega) (by omega) (by simp; omega) ?_)
     intro v' w6 how hgr hwhere
     have HB6 := Lib.hid ((HB3.out.alloc hws2 (.cells #[.slice G m cm] 23)).grown hgr (by simp; omega) (fun g hg => (HO2.out.lt g hg).1))
     have HR6 := Lib.hid (Gr.Rows.push HVS.out.1 HVS.out.2.1 HVS.out.2.2 HBb.out (HFR.out (by first | trivial | rfl)) how hgr (by rcases hwhere with e | e; exact .inl e; exact .inr (e.trans (by simp))))
     obtain ⟨A6, c6, hv6, _⟩ := Vw.own_any how
     rw [HVK.out] at hv6
     subst hv6
     clear how hgr hwhere
     go_wp2_with fail
     go_roundw
     case rel => exact ⟨k + 1, _, by go_num, by omega, by rw [List.length_append, HOL.out]; rfl, HND2.out, HB6.out, ⟨_, _, rfl⟩, HR6.out⟩
     case measure => simp [intOf]; omega
    ·have HV := Lib.hid (show AdjD.look g = ([], de) by
       have h := HND.out
       rw [if_pos he] at h
       rw [HLK.out, h, if_pos he])
     have hq : (de != 0) = true := by simpa using he
     clear he
     go_wp2_with fail
     go_ret2
     rw [HV.out]
     exact ⟨⟨_, _, _, rfl, rfl, Gr.Rows.nil _ _⟩, HBW3.out⟩
   ·have hkk : k = n := by omega
    subst hkk
    have HGF := Lib.hid (show AdjD.lookGo p g.nodes [] = (out, 0) by rw [HGO.out, List.drop_eq_nil_of_le (by rw [HN.out]; omega)]; rfl)
    have HLF := Lib.hid (show AdjD.look g = if AdjD.ahead g.nodes.length g.outs = false then ([], 4) else (out, 0) by rw [HLK.out, HGF.out, if_neg (by simp)])
    have y0 : wr.cell? ⟨w.heap.size, 0, none⟩ = some (.slice A k c) := HX2.out.cell 0
    have y1 : wr.cell? ⟨w.heap.size, 1, none⟩ = some (.slice O g.outs.length co) := HX2.out.cell 1
    obtain ⟨wp, hwp⟩ : ∃ wp : World, wp = wr := ⟨_, rfl⟩
    subst hwp
    clear hk hkn
    go_wp2_with fail
    go_loopw [49] (fun kv wx => ∃ q : Nat, kv = .int .i64 (q : Int) ∧ q ≤ g.outs.length ∧ (∀ j (hj : j < g.outs.length), j < q → 0 ≤ g.outs[j] ∧ g.outs[j] < (k : Int)) ∧ wx = wp) (fun kv _ => g.outs.length - (intOf kv).toNat)
    case atStart => exact ⟨0, rfl, by omega, fun j _ h => by omega, rfl⟩
    case round =>
     obtain ⟨q, rfl, hq, hall, rfl⟩ := hrel
     have HAL := Lib.hid hall
     clear hall
     by_cases hqn : q < g.outs.length
     ·obtain ⟨bo, oo, rfl, hbo, go⟩ := HOS.out _ HBW2.out (by omega)
      have co1 := go q hqn
      have HBD := Lib.hid (show ¬ (0 ≤ g.outs[q] ∧ g.outs[q] < (k : Int)) → AdjD.look g = ([], 4) from fun h => by
       rw [HLF.out, if_pos]
       cases ha : AdjD.ahead g.nodes.length g.outs with
       | false => rfl
       | true =>
        exfalso; apply h
        have := List.all_eq_true.1 ha _ (List.getElem_mem hqn)
        rw [HN.out] at this
        simpa using this)
      have HNX := Lib.hid (show (0 ≤ g.outs[q] ∧ g.outs[q] < (k : Int)) → ∀ j (hj : j < g.outs.length), j < q + 1 → 0 ≤ g.outs[j] ∧ g.outs[j] < (k : Int) from fun h j hj hjk => by
       by_cases e : j = q
       ·subst e; exact h
       ·exact HAL.out j hj (by omega))
      have i1 : (0 : Int) ≤ (q : Int) := by omega
      have i2 : (q : Int) < (g.outs.length : Int) := by omega
      obtain ⟨hlo1, hlo2⟩ := HLO.out
      have hq1 : q + 1 ≤ 9223372036854775807 := by omega
      clear go hlo1 hlo2
      generalize g.outs[q] = o at co1 HBD HNX
      by_cases h1 : o < 0
      ·have HV := Lib.hid (HBD.out (by omega))
       go_wp2_with fail
       go_ret2
       rw [HV.out]
       exact ⟨⟨_, _, _, rfl, rfl, Gr.Rows.nil _ _⟩, HBW2.out⟩
      by_cases h2 : (k : Int) ≤ o
      ·have HV := Lib.hid (HBD.out (by omega))
       go_wp2_with fail
       go_ret2
       rw [HV.out]
       exact ⟨⟨_, _, _, rfl, rfl, Gr.Rows.nil _ _⟩, HBW2.out⟩
      have HNX2 := Lib.hid (HNX.out (by omega))
      go_wp2_with fail
      go_roundw
      case rel => exact ⟨q + 1, by go_num, by omega, HNX2.out, by first | trivial | rfl⟩
      case measure => simp [intOf]; omega
     ·have HV := Lib.hid (show AdjD.look g = (out, 0) by
        rw [HLF.out, if_neg]
        intro ha
        have : AdjD.ahead g.nodes.length g.outs = true := List.all_eq_true.2 (fun o ho => by
         obtain ⟨j, hj, rfl⟩ := List.getElem_of_mem ho
         have := HAL.out j hj (by omega)
         rw [HN.out]
         simp [this])
        rw [this] at ha; cases ha)
      go_wp2_with fail
      go_ret2
      rw [HV.out]
      exact ⟨⟨_, _, _, rfl, HOL.out.symm, HR2.out.lower (by omega)⟩, HBW2.out⟩
end Go.Proofs.Ytapedmpbkffopaa
end
section
namespace AdjD
set_option linter.unusedVariables false
open AdjV (size)
theorem dims_fine {op : Op} {args : List (List Int)} (h : (dims op args).2 = 0) : (size (dims op args).1).2 = 0 := by
 unfold dims at h ⊢
 by_cases h1 : right op.kind args.length ≠ 0
 ·rw [if_pos h1] at h; exact absurd h h1
 rw [if_neg h1] at h ⊢
 by_cases h2 : sizes args ≠ 0
 ·rw [if_pos h2] at h; exact absurd h h2
 rw [if_neg h2] at h ⊢
 by_cases h3 : (ruled op args).2 ≠ 0
 ·rw [if_pos h3] at h; exact absurd h h3
 rw [if_neg h3] at h ⊢
 by_cases h4 : (size (ruled op args).1).2 ≠ 0
 ·rw [if_pos h4] at h; exact absurd h h4
 rw [if_neg h4]
 dsimp only
 omega
theorem node_fine {x : Node} {i ps : Nat} {out : List (List Int)} (h : (nodeDims x i ps out).2 = 0) : (size (nodeDims x i ps out).1).2 = 0 ∧ ahead i x.args = true := by
 unfold nodeDims at h ⊢
 by_cases h1 : ahead i x.args = false
 ·rw [if_pos h1] at h; cases h
 rw [if_neg h1] at h ⊢
 refine ⟨?_, by simpa using h1⟩
 by_cases h2 : x.op.kind ≠ 1
 ·rw [if_pos h2] at h ⊢; exact dims_fine h
 rw [if_neg h2] at h ⊢
 by_cases h3 : ps ≤ i ∨ x.op.at_.length ≠ 1 ∨ x.op.at_.getD 0 0 ≠ (i : Int)
 ·rw [if_pos h3] at h; cases h
 rw [if_neg h3] at h ⊢
 by_cases h4 : 0 < x.args.length
 ·rw [if_pos h4] at h; cases h
 rw [if_neg h4] at h ⊢
 by_cases h5 : (size x.op.dims).2 ≠ 0
 ·rw [if_pos h5] at h; exact absurd h h5
 rw [if_neg h5]
 dsimp only
 omega
theorem go_fine (ps : Nat) : ∀ (ns : List Node) (out : List (List Int)), (∀ d ∈ out, (size d).2 = 0) → (lookGo ps ns out).2 = 0 →
    (lookGo ps ns out).1.length = out.length + ns.length ∧ (∀ d ∈ (lookGo ps ns out).1, (size d).2 = 0) ∧ ∀ k (h : k < ns.length), ahead (out.length + k) ns[k].args = true
 | [], out, ho, _ => ⟨rfl, ho, fun k h => by simp at h⟩
 | x :: r, out, ho, h => by
  have e : lookGo ps (x :: r) out = if (nodeDims x out.length ps out).2 ≠ 0 then ([], (nodeDims x out.length ps out).2) else lookGo ps r (out ++ [(nodeDims x out.length ps out).1]) := rfl
  rw [e] at h ⊢
  by_cases h1 : (nodeDims x out.length ps out).2 ≠ 0
  ·rw [if_pos h1] at h; exact absurd h h1
  rw [if_neg h1] at h ⊢
  obtain ⟨n1, n2⟩ := node_fine (show (nodeDims x out.length ps out).2 = 0 by omega)
  obtain ⟨a1, a2, a3⟩ := go_fine ps r _ (fun d hd => by
   rcases List.mem_append.1 hd with hd | hd
   ·exact ho d hd
   ·rw [List.mem_singleton.1 hd]; exact n1) h
  refine ⟨by rw [a1, List.length_append, List.length_cons, List.length_cons, List.length_nil]; omega, a2, fun k hk => ?_⟩
  cases k with
  | zero => simpa using n2
  | succ k =>
   have := a3 k (by simpa using hk)
   rw [List.length_append, List.length_cons, List.length_nil] at this
   rw [show out.length + (k + 1) = out.length + (0 + 1) + k by omega]
   simpa using this
theorem look_bad {g : Graph} (h : (look g).2 ≠ 0) : (look g).1 = [] := by
 unfold look at h ⊢
 by_cases h1 : 4096 < g.nodes.length
 ·rw [if_pos h1]
 rw [if_neg h1] at h ⊢
 by_cases h2 : (lookGo (params g.nodes) g.nodes []).2 ≠ 0
 ·rw [if_pos h2]
 rw [if_neg h2] at h ⊢
 by_cases h3 : ahead g.nodes.length g.outs = false
 ·rw [if_pos h3]
 ·rw [if_neg h3] at h; exact absurd rfl h
theorem look_fine {g : Graph} (h : (look g).2 = 0) : (look g).1.length = g.nodes.length ∧ g.nodes.length ≤ 4096 ∧ (∀ d ∈ (look g).1, (size d).2 = 0) ∧ (∀ k (h : k < g.nodes.length), ahead k g.nodes[k].args = true) ∧ ahead g.nodes.length g.outs = true := by
 unfold look at h ⊢
 by_cases h1 : 4096 < g.nodes.length
 ·rw [if_pos h1] at h; cases h
 rw [if_neg h1] at h ⊢
 by_cases h2 : (lookGo (params g.nodes) g.nodes []).2 ≠ 0
 ·rw [if_pos h2] at h; exact absurd h h2
 rw [if_neg h2] at h ⊢
 by_cases h3 : ahead g.nodes.length g.outs = false
 ·rw [if_pos h3] at h; cases h
 rw [if_neg h3]
 obtain ⟨a1, a2, a3⟩ := go_fine (params g.nodes) g.nodes [] (fun d hd => by cases hd) (by omega)
 refine ⟨by simpa using a1, by omega, a2, fun k hk => by have := a3 k hk; simpa using this, by simpa using h3⟩
theorem look_len (g : Graph) : (look g).1.length ≤ 4096 ∧ ∀ d ∈ (look g).1, d.length ≤ 6 := by
 by_cases h : (look g).2 = 0
 ·obtain ⟨h1, h2, h3, _⟩ := look_fine h
  exact ⟨by omega, fun d hd => (AdjV.size_fine (h3 d hd)).1⟩
 ·rw [look_bad h]; exact ⟨by simp, fun d hd => by cases hd⟩
end AdjD
end
section
namespace Go.Proofs.Ytapedmpbkffopaa
set_option linter.unusedVariables false
open Go.RowKit Adj
namespace Gr
theorem Rows.at_ {N k c : Nat} {w : World} {A : Option Addr} {ls : List (List Int)} (h : Rows N w (.slice A k c) ls) (hk : ls.length = k) {j : Nat} (hj : j < ls.length) :
    ∃ b m G gc, A = some ⟨b, 0, none⟩ ∧ N ≤ b ∧ b < w.heap.size ∧ w.cell? ⟨b, j, none⟩ = some (.slice G m gc) ∧ m = ls[j].length ∧ Ar.SlAt w w.heap.size (.slice G m gc) ls[j] := by
 obtain ⟨b, off, e, hb, hc⟩ := h.lists (by omega)
 obtain ⟨vs, h1, h2, h3⟩ := h
 obtain ⟨v, hv, hs⟩ := hc j hj
 obtain ⟨G, gc, rfl, hi, h4, h5⟩ := hs
 have hp : 0 < k := by omega
 rcases h1.2 with ⟨e1, h0⟩ | ⟨g, cap, cur, e1, hb', hh, hc', hm, hs', ht⟩
 ·have := h2.1; omega
 ·injection e1 with e2 e3 e4
  rw [e2] at e
  injection e with e
  injection e with e5 e6
  subst e5 e6
  rw [Nat.zero_add] at hv
  exact ⟨g, _, G, gc, e2, hb', hb, hv, rfl, ⟨G, gc, rfl, hi, h4, h5⟩⟩
theorem Rows.set {N k c : Nat} {w w1 : World} {b : Nat} {ls : List (List Int)} (h : Rows N w (.slice (some ⟨b, 0, none⟩) k c) ls) {j : Nat} (hj : j < ls.length) {v : Value} {l : List Int} (hb : Below w.heap.size w w1) (hf : Ar.FrAt w.heap.size w1 v l) :
    Rows N (w1.setCell ⟨b, j, none⟩ v) (.slice (some ⟨b, 0, none⟩) k c) (ls.set j l) := by
 obtain ⟨vs, h1, h2, h3⟩ := h
 have hvl : vs.length = ls.length := h2.1
 have h1' : w1.ownsRow N 23 1 (.slice (some ⟨b, 0, none⟩) k c) vs.length vs := Ar.own_keep h1 (fun g hg => hb.block g (h1.lt g hg).2)
 have hbw : b < w.heap.size := (h1.lt b (by simp [Value.ownBlock])).2
 have hbo : ∀ j (hj : j < vs.length) (hj2 : j < ls.length), 0 < ls[j].length → ∀ g, vs[j].ownBlock = some g → g ≠ b := fun j hj hj2 hp g hg e => h3 j hj hj2 g hp hg (by rw [e]; rfl)
 have hkeep : ∀ {v : Value} {l : List Int} {B : Nat}, Ar.SlAt w1 B v l → (0 < l.length → ∀ g, v.ownBlock = some g → g ≠ b) → ∀ u, Ar.SlAt (w1.setCell ⟨b, j, none⟩ u) B v l := fun {v l B} hs hne u => by
  obtain ⟨A, cc, rfl, hi, h2⟩ := hs
  refine ⟨A, cc, rfl, fun hp => ?_, h2⟩
  obtain ⟨b2, off, rfl, hlt, hcell⟩ := hi hp
  refine ⟨b2, off, rfl, hlt, fun q hq => ?_⟩
  exact (World.cell?_of_block (Below.heap_setCell w1 ⟨b, j, none⟩ u b2 (hne hp b2 rfl))).trans (hcell q hq)
 refine ⟨vs.set j v, ?_, ⟨by simp [hvl], fun q q1 q2 => ?_⟩, fun q q1 q2 g hp hg => ?_⟩
 ·rcases h1'.2 with ⟨e1, h0⟩ | ⟨g, cap, cur, e1, hb', hh, hc', hm, hs', ht⟩
  ·injection e1 with e2; cases e2
  ·injection e1 with e2 e3 e4
   injection e2 with e2
   injection e2 with e2
   subst e2 e4
   refine ⟨(Nat.mul_one _).symm, .inr ⟨b, c, cur.setIfInBounds j v, by rw [e3]; simp, hb', ?_, by simpa using hc', hm, by simpa using hs', ?_⟩⟩
   ·have hblk : Blk w1 b 23 cur := hh
    exact hblk.set_ j v
   ·have ht2 : cur.toList.take vs.length = vs := by simpa using ht
    simp only [List.length_set, Nat.mul_one, Array.toList_setIfInBounds]
    rw [List.take_set, ht2]
 ·have q1' : q < vs.length := by simpa using q1
  by_cases e : q = j
  ·subst e
   have g1 : (vs.set q v)[q] = v := by simp
   have g2 : (ls.set q l)[q] = l := by simp
   rw [g1, g2]
   refine (hkeep hf.1 (fun hp g hg => ?_) v).up (by simp)
   have := hf.2 hp g hg; omega
  ·rw [List.getElem_set_ne (Ne.symm e), List.getElem_set_ne (Ne.symm e)]
   have hs := (h2.2 q q1' (by omega)).below hb
   refine (hkeep hs (fun hp g hg => hbo q q1' (by omega) hp g hg) v).up ?_
   simp; exact hb.size
 ·have q1' : q < vs.length := by simpa using q1
  by_cases e : q = j
  ·subst e
   have g1 : (vs.set q v)[q] = v := by simp
   have g2 : (ls.set q l)[q] = l := by simp
   rw [g1] at hg
   rw [g2] at hp
   have := hf.2 hp g hg
   intro e2
   simp [Value.ownBlock] at e2
   omega
  ·rw [List.getElem_set_ne (Ne.symm e)] at hp hg
   exact h3 q q1' (by omega) g hp hg
end Gr
set_option maxRecDepth 100000 in
set_option maxHeartbeats 8000000 in
theorem Gr.dims_any (val : Value) (g : AdjD.Graph) (B : Nat) (w : World) (hB : B ≤ w.heap.size) (hsh : Gr.GShort g) (h : Gr.GraphAt w B val g) :
    Calls Try.prog 6 #[val] w fun e w' => Gr.LookOut w w' (AdjD.look g) e := by
 have HG := Lib.hid (fun W (hb : Below w.heap.size w W) => (h.below (hb.mono hB)).up (Nat.le_trans hB hb.size))
 obtain ⟨A, c, vo, rfl, hns, hn, hc, ⟨O, co, rfl, io, lo, mo⟩⟩ := h
 have HX := Lib.hid (Blk.new w 25 #[.slice A g.nodes.length c, .slice O g.outs.length co])
 have HB := Lib.hid ((Below.refl w.heap.size w).alloc (Nat.le_refl _) (.cells #[.slice A g.nodes.length c, .slice O g.outs.length co] 25))
 obtain ⟨w0, hw0⟩ : ∃ w0, w.alloc (.cells #[.slice A g.nodes.length c, .slice O g.outs.length co] 25) = w0 := ⟨_, rfl⟩
 rw [hw0] at HX HB
 have b0 : w0.cell? ⟨w.heap.size, 0, none⟩ = some (.slice A g.nodes.length c) := HX.out.cell 0
 have b1 : w0.cell? ⟨w.heap.size, 1, none⟩ = some (.slice O g.outs.length co) := HX.out.cell 1
 have HLK := Lib.hid (Gr.look_any _ g w0.heap.size w0 (Nat.le_refl _) hsh (HG.out w0 HB.out))
 obtain ⟨hlen, hsz⟩ := AdjD.look_len g
 obtain ⟨⟨ds, er⟩, hr⟩ : ∃ r, AdjD.look g = r := ⟨_, rfl⟩
 rw [hr] at HLK hsz hlen ⊢
 have HLEN := Lib.hid (show ds.length ≤ 4096 from hlen)
 have HSZ := Lib.hid hsz
 clear hns io lo mo hn hc hr hsz hlen
 go_enter Try.func6, Try.ntmps6
 go_wp2_with fail
 ((with_reducible refine HLK.out.mono ?_); rintro e w1 ⟨⟨A1, n1, c1, rfl, hn1, hrows⟩, hb1⟩)
 have HR1 := Lib.hid (hrows.lower (Nat.le_of_lt HX.out.lt))
 have HB1 := Lib.hid (HB.out.trans (hb1.mono HB.out.size))
 have HN1 := Lib.hid hn1
 clear hrows hb1 b0 b1 hn1
 go_wp2_with fail
 go_loopw [14] (fun kv wr => ∃ (k : Nat) (cur : List (List Int)), kv = .int .i64 (k : Int) ∧ k ≤ n1 ∧ cur = ds ∧ Below w.heap.size w wr ∧ Gr.Rows w.heap.size wr (.slice A1 n1 c1) cur) (fun kv _ => n1 - (intOf kv).toNat)
 case atStart => exact ⟨0, ds, rfl, by omega, rfl, HB1.out, HR1.out⟩
 case round =>
  obtain ⟨k, cur, rfl, hk, rfl, hb, hrows⟩ := hrel
  have HB2 := Lib.hid hb
  have HR2 := Lib.hid hrows
  by_cases hkn : k < n1
  ·have hkl : k < cur.length := by have := HN1.out; omega
   obtain ⟨b, m, G, gc, rfl, hNb, hbs, hcell, hml, hsl⟩ := hrows.at_ (by have := HN1.out; omega) hkl
   obtain ⟨G', gc', e1, hi, hl1, hl2⟩ := hsl
   have hl3 := HSZ.out cur[k] (List.getElem_mem hkl)
   rw [hml] at hcell
   injection e1 with e2 e3 e4
   subst e2 e4
   have HCL := Lib.hid (Clone_any G gc cur[k] wr.heap.size wr (by omega) hi (Nat.le_refl _))
   have HSET := Lib.hid (show cur.set k cur[k] = cur from List.set_getElem_self hkl)
   have i0 : k < 4096 := by have := HLEN.out; omega
   have i1 : (0 : Int) ≤ (k : Int) := by omega
   have i2 : (k : Int) < (n1 : Int) := by omega
   have HST := Lib.hid (fun w3 v (hb3 : Below wr.heap.size wr w3) (hf : Ar.FrAt wr.heap.size w3 v cur[k]) => HSET.out ▸ HR2.out.set hkl hb3 hf)
   have hfz : ∀ W, Below wr.heap.size wr W → W.frozen? ⟨b, k, none⟩ = false := fun W hW => by
    obtain ⟨vs, h1, _, _⟩ := HR2.out
    rcases h1.2 with ⟨e1, h0⟩ | ⟨g', cap, cu, e1, hb', hh, hc', hm, hs', ht⟩
    ·injection e1 with e2; cases e2
    ·injection e1 with e2
     injection e2 with e2
     injection e2 with e2
     subst e2
     have hblk : Blk wr b 23 cu := hh
     exact (hblk.below hW hbs).frozen k
   have HFZ := Lib.hid hfz
   clear hi hb hrows hml e3 hfz
   generalize cur[k] = l at hcell HCL HST hl1 hl3
   go_wp2_with fail
   ((with_reducible refine HCL.out.mono ?_); rintro e w3 ⟨v, rfl, ho, hb3⟩)
   have HR3 := Lib.hid (HST.out w3 v hb3 (Ar.fr_own ho (Nat.le_refl _)))
   obtain ⟨A3, c3, hv3, _⟩ := Vw.own_any ho
   subst hv3
   have HB3 := Lib.hid ((HB2.out.trans (hb3.mono HB2.out.size)).setCell (p := ⟨b, k, none⟩) hNb (.slice A3 l.length c3))
   have hfz := HFZ.out w3 hb3
   have hcl := (hb3.cell (p := ⟨b, k, none⟩) hbs).trans hcell
   clear ho hb3 hcell
   go_wp2_with fail
   go_roundw
   case rel => exact ⟨k + 1, cur, by go_num, by omega, rfl, HB3.out, HR3.out⟩
   case measure => simp [intOf]; omega
  ·have hkk : k = n1 := by omega
   subst hkk
   clear hb hrows
   go_wp2_with fail
   go_ret2
   exact ⟨⟨_, _, _, rfl, HN1.out, HR2.out⟩, HB2.out⟩
end Go.Proofs.Ytapedmpbkffopaa
end
section
namespace AdjD
set_option linter.unusedVariables false
open AdjV (size)
def frm (g : Graph) (i : Nat) : Int := if i < params g.nodes then 0 else (i : Int)
def wrd (ds : List (List Int)) (i : Nat) : Int := (size (ds.getD i [])).1
def lifeK (g : Graph) (ds : List (List Int)) (k i : Nat) : Int × Int × Int :=
 if i < k then (frm g i, upTo i (g.nodes.take k) 0 ((i : Int) + 1), wrd ds i) else (0, 0, 0)
def lifeKJ (g : Graph) (ds : List (List Int)) (k : Nat) (aa : List Int) (j i : Nat) : Int × Int × Int :=
 if i = k then (frm g k, (k : Int) + 1, wrd ds k)
 else if i < k then (frm g i, if (i : Int) ∈ aa.take j then max (upTo i (g.nodes.take k) 0 ((i : Int) + 1)) ((k : Int) + 1) else upTo i (g.nodes.take k) 0 ((i : Int) + 1), wrd ds i) else (0, 0, 0)
def lifeQ (g : Graph) (ds : List (List Int)) (q i : Nat) : Int × Int × Int :=
 (frm g i, if (i : Int) ∈ g.outs.take q then (g.nodes.length : Int) + 1 else upTo i g.nodes 0 ((i : Int) + 1), wrd ds i)
theorem kj_zero (g : Graph) (ds : List (List Int)) (k : Nat) (aa : List Int) (i : Nat) : lifeKJ g ds k aa 0 i = if i = k then (frm g k, (k : Int) + 1, wrd ds k) else lifeK g ds k i := by
 unfold lifeKJ lifeK
 by_cases h : i = k
 ·rw [if_pos h, if_pos h]
 ·rw [if_neg h, if_neg h, List.take_zero]
  simp
theorem kj_step (g : Graph) (ds : List (List Int)) (k : Nat) (aa : List Int) (j : Nat) (hj : j < aa.length) (a : Nat) (ha : aa[j] = (a : Int)) (hak : a < k) (i : Nat) :
    lifeKJ g ds k aa (j + 1) i = if i = a then ((lifeKJ g ds k aa j i).1, max (lifeKJ g ds k aa j i).2.1 ((k : Int) + 1), (lifeKJ g ds k aa j i).2.2) else lifeKJ g ds k aa j i := by
 have ht : aa.take (j + 1) = aa.take j ++ [(a : Int)] := by rw [List.take_succ_eq_append_getElem hj, ha]
 unfold lifeKJ
 by_cases h : i = k
 ·have : i ≠ a := by omega
  simp [h, show k ≠ a by omega]
 ·by_cases hik : i < k
  ·simp only [if_neg h, if_pos hik, ht, List.mem_append, List.mem_singleton]
   by_cases hia : i = a
   ·subst hia
    rw [if_pos rfl, if_pos (.inr rfl)]
    by_cases hm : (i : Int) ∈ aa.take j
    ·simp only [if_pos hm]; congr 2; omega
    ·simp only [if_neg hm]
   ·rw [if_neg hia]
    have hne : ¬ (i : Int) = (a : Int) := by omega
    by_cases hm : (i : Int) ∈ aa.take j
    ·rw [if_pos (.inl hm), if_pos hm]
    ·rw [if_neg (fun h => h.elim hm hne), if_neg hm]
  ·have : i ≠ a := by omega
   simp only [if_neg h, if_neg hik, if_neg this]
theorem kj_end (g : Graph) (ds : List (List Int)) (k : Nat) (hk : k < g.nodes.length) (i : Nat) : lifeKJ g ds k g.nodes[k].args g.nodes[k].args.length i = lifeK g ds (k + 1) i := by
 unfold lifeKJ lifeK
 rw [List.take_length]
 by_cases h : i = k
 ·subst h
  rw [if_pos rfl, if_pos (by omega), upTo_early i g.nodes (i + 1) (by omega)]
 ·by_cases hik : i < k
  ·rw [if_neg h, if_pos hik, if_pos (show i < k + 1 by omega), upTo_take i g.nodes k hk]
   refine Prod.ext rfl (Prod.ext ?_ rfl)
   show (if (i : Int) ∈ g.nodes[k].args then _ else _) = _
   by_cases hm : (i : Int) ∈ g.nodes[k].args
   ·rw [if_pos hm]
    by_cases hu : upTo i (g.nodes.take k) 0 ((i : Int) + 1) < (k : Int) + 1
    ·dsimp only; rw [if_pos ⟨hm, hu⟩]; omega
    ·dsimp only; rw [if_neg (fun h => hu h.2)]; omega
   ·dsimp only; rw [if_neg hm, if_neg (fun h => hm h.1)]
  ·rw [if_neg h, if_neg hik, if_neg (show ¬ i < k + 1 by omega)]
theorem q_zero (g : Graph) (ds : List (List Int)) (i : Nat) (hi : i < g.nodes.length) : lifeQ g ds 0 i = lifeK g ds g.nodes.length i := by
 unfold lifeQ lifeK
 rw [if_pos hi, List.take_zero, List.take_length, if_neg (by simp)]
theorem q_step (g : Graph) (ds : List (List Int)) (q : Nat) (hq : q < g.outs.length) (o : Nat) (ho : g.outs[q] = (o : Int)) (i : Nat) :
    lifeQ g ds (q + 1) i = if i = o then ((lifeQ g ds q i).1, (g.nodes.length : Int) + 1, (lifeQ g ds q i).2.2) else lifeQ g ds q i := by
 have ht : g.outs.take (q + 1) = g.outs.take q ++ [(o : Int)] := by rw [List.take_succ_eq_append_getElem hq, ho]
 unfold lifeQ
 rw [ht]
 simp only [List.mem_append, List.mem_singleton]
 by_cases h : i = o
 ·subst h
  rw [if_pos rfl, if_pos (.inr rfl)]
 ·have hne : ¬ (i : Int) = (o : Int) := by omega
  rw [if_neg h]
  by_cases hm : (i : Int) ∈ g.outs.take q
  ·rw [if_pos (.inl hm), if_pos hm]
  ·rw [if_neg (fun h => h.elim hm hne), if_neg hm]
theorem q_end (g : Graph) (ds : List (List Int)) (i : Nat) : lifeQ g ds g.outs.length i = lifeOf g ds i := by
 unfold lifeQ lifeOf frm wrd
 rw [List.take_length]
end AdjD
end
section
namespace Go.Proofs.Ytapedmpbkffopaa
set_option linter.unusedVariables false
open Go.RowKit Adj
theorem Try.infoLife : (Try.prog.info? 31).map (fun i => (i.zero, i.size, i.bytes)) = some (some (.agg #[.int .i64 0, .int .i64 0, .int .i64 0]), 3, 24) := by kernel_rfl
namespace Gr
def Lf (w : World) (P n : Nat) (F : Nat → Int × Int × Int) : Prop := ∃ row : Array Value, Blk w P 31 row ∧ row.size = n * 3 ∧ ∀ i, i < n → row[i * 3]? = some (.int .i64 (F i).1) ∧ row[i * 3 + 1]? = some (.int .i64 (F i).2.1) ∧ row[i * 3 + 2]? = some (.int .i64 (F i).2.2)
variable {w w' : World} {P n : Nat} {F G : Nat → Int × Int × Int}
theorem Lf.below {B : Nat} (h : Lf w P n F) (hb : Below B w w') (hP : P < B) : Lf w' P n F := by
 obtain ⟨row, h1, h2⟩ := h
 exact ⟨row, h1.below hb hP, h2⟩
theorem Lf.lt (h : Lf w P n F) : P < w.heap.size := by obtain ⟨row, h1, _⟩ := h; exact h1.lt
theorem Lf.cells (h : Lf w P n F) {i : Nat} (hi : i < n) : w.cell? ⟨P, i * 3, none⟩ = some (.int .i64 (F i).1) ∧ w.cell? ⟨P, i * 3 + 1, none⟩ = some (.int .i64 (F i).2.1) ∧ w.cell? ⟨P, i * 3 + 2, none⟩ = some (.int .i64 (F i).2.2) := by
 obtain ⟨row, h1, _, h3⟩ := h
 obtain ⟨a, b, c⟩ := h3 i hi
 exact ⟨h1.at a, h1.at b, h1.at c⟩
theorem Lf.frozen (h : Lf w P n F) (i : Nat) : w.frozen? ⟨P, i, none⟩ = false := by obtain ⟨row, h1, _⟩ := h; exact h1.frozen i
theorem Lf.same (h : Lf w P n F) (hFG : ∀ i, i < n → G i = F i) : Lf w P n G := by
 obtain ⟨row, h1, h2, h3⟩ := h
 exact ⟨row, h1, h2, fun i hi => by rw [hFG i hi]; exact h3 i hi⟩
theorem Lf.set1 (h : Lf w P n F) {k : Nat} (hk : k < n) (x : Int) (hG : ∀ i, i < n → G i = if i = k then ((F i).1, x, (F i).2.2) else F i) : Lf (w.setCell ⟨P, k * 3 + 1, none⟩ (.int .i64 x)) P n G := by
 obtain ⟨row, h1, h2, h3⟩ := h
 refine ⟨_, h1.set_ (k * 3 + 1) _, by simp [h2], fun i hi => ?_⟩
 obtain ⟨a, b, c⟩ := h3 i hi
 rw [hG i hi]
 simp only [Array.getElem?_setIfInBounds]
 by_cases e : i = k
 ·subst e
  refine ⟨by rw [if_neg (by omega), if_pos rfl]; exact a, by rw [if_pos rfl, if_pos (by omega), if_pos rfl], by rw [if_neg (by omega), if_pos rfl]; exact c⟩
 ·rw [if_neg e]
  exact ⟨by rw [if_neg (by omega)]; exact a, by rw [if_neg (by omega)]; exact b, by rw [if_neg (by omega)]; exact c⟩
theorem Lf.set0 (h : Lf w P n F) {k : Nat} (hk : k < n) (x : Int) (hG : ∀ i, i < n → G i = if i = k then (x, (F i).2.1, (F i).2.2) else F i) : Lf (w.setCell ⟨P, k * 3, none⟩ (.int .i64 x)) P n G := by
 obtain ⟨row, h1, h2, h3⟩ := h
 refine ⟨_, h1.set_ (k * 3) _, by simp [h2], fun i hi => ?_⟩
 obtain ⟨a, b, c⟩ := h3 i hi
 rw [hG i hi]
 simp only [Array.getElem?_setIfInBounds]
 by_cases e : i = k
 ·subst e
  refine ⟨by rw [if_pos rfl, if_pos (by omega), if_pos rfl], by rw [if_neg (by omega), if_pos rfl]; exact b, by rw [if_neg (by omega), if_pos rfl]; exact c⟩
 ·rw [if_neg e]
  exact ⟨by rw [if_neg (by omega)]; exact a, by rw [if_neg (by omega)]; exact b, by rw [if_neg (by omega)]; exact c⟩
theorem Lf.set2 (h : Lf w P n F) {k : Nat} (hk : k < n) (x : Int) (hG : ∀ i, i < n → G i = if i = k then ((F i).1, (F i).2.1, x) else F i) : Lf (w.setCell ⟨P, k * 3 + 2, none⟩ (.int .i64 x)) P n G := by
 obtain ⟨row, h1, h2, h3⟩ := h
 refine ⟨_, h1.set_ (k * 3 + 2) _, by simp [h2], fun i hi => ?_⟩
 obtain ⟨a, b, c⟩ := h3 i hi
 rw [hG i hi]
 simp only [Array.getElem?_setIfInBounds]
 by_cases e : i = k
 ·subst e
  refine ⟨by rw [if_neg (by omega), if_pos rfl]; exact a, by rw [if_neg (by omega), if_pos rfl]; exact b, by rw [if_pos rfl, if_pos (by omega), if_pos rfl]⟩
 ·rw [if_neg e]
  exact ⟨by rw [if_neg (by omega)]; exact a, by rw [if_neg (by omega)]; exact b, by rw [if_neg (by omega)]; exact c⟩
theorem Lf.set3 (h : Lf w P n F) {k : Nat} (hk : k < n) (x y z : Int) : Lf (((w.setCell ⟨P, k * 3, none⟩ (.int .i64 x)).setCell ⟨P, k * 3 + 1, none⟩ (.int .i64 y)).setCell ⟨P, k * 3 + 2, none⟩ (.int .i64 z)) P n (fun i => if i = k then (x, y, z) else F i) :=
 ((h.set0 (G := fun i => if i = k then (x, (F i).2.1, (F i).2.2) else F i) hk x (fun _ _ => rfl)).set1 (G := fun i => if i = k then (x, y, (F i).2.2) else F i) hk y (fun i _ => by by_cases e : i = k <;> simp [e])).set2 hk z (fun i _ => by by_cases e : i = k <;> simp [e])
def LivesAt (w : World) (A : Option Addr) (n : Nat) (F : Nat → Int × Int × Int) : Prop :=
 0 < n → ∃ b off, A = some ⟨b, off, none⟩ ∧ b < w.heap.size ∧ ∀ i, i < n → w.cell? ⟨b, off + i * 3, none⟩ = some (.int .i64 (F i).1) ∧ w.cell? ⟨b, off + i * 3 + 1, none⟩ = some (.int .i64 (F i).2.1) ∧ w.cell? ⟨b, off + i * 3 + 2, none⟩ = some (.int .i64 (F i).2.2)
end Gr
theorem Gr.run_make_lives (c : Nat) (h : c ≤ 65536) : ∃ M : Array Value, (M.size = c * 3 ∧ ∀ j, j < c * 3 → M[j]? = some (.int .i64 0)) ∧ ∀ w : World,
    (Instr.makeSlice 26 (.int .i64 (c : Int)) (.int .i64 (c : Int))).run Try.prog w = .ok (.slice (some ⟨w.heap.size, 0, none⟩) c c) (w.alloc (.cells M 31)) := by
 obtain ⟨i0, hi, hz0, hz1, hz2⟩ := info_parts Try.infoLife
 refine ⟨madeCells (Value.agg #[.int .i64 0, .int .i64 0, .int .i64 0]).cells (c * 3), ⟨by simp [size_madeCells], fun j hj => ?_⟩, fun w => ?_⟩
 ·rw [Array.getElem?_eq_getElem (by simp [size_madeCells]; exact hj)]
  have : j % 3 = 0 ∨ j % 3 = 1 ∨ j % 3 = 2 := by omega
  rcases this with e | e | e <;> simp [madeCells, Value.cells, e]
 ·have hb : (i0.bytes : Int) * (c : Int) ≤ 281474976710656 := by rw [hz2]; omega
  have hr := run_make (P := Try.prog) w 26 31 i0 _ Try.underlying26 hi hz0 .i64 .i64 c c (by omega) (by omega) hb (by omega)
  simp only [Int.toNat_natCast, hz1] at hr
  exact hr
end Go.Proofs.Ytapedmpbkffopaa
end
