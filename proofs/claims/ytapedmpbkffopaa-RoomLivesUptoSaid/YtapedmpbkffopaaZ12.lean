/-
  The walks of array.summed, array.padded; Plain: when what a graph's nodes are worth is needed; Graphs in memory; the walks of graph.Params (its question, the search) and of the reference's Params. Conditions: where the theorems name them.
-/
import Derived.Test.YtapedmpbkffopaaZ02
import Derived.Test.YtapedmpbkffopaaZ10
import Derived.Test.YtapedmpbkffopaaZ11
section
namespace Go.Proofs.Ytapedmpbkffopaa
set_option linter.unusedVariables false
open Go.RowKit Adj
namespace AdjD'
open AdjD (chosen free)
open AdjV (rangeZ pick)
def keepTo (d ins : List Int) (j : Nat) : List Int := (rangeZ j).filter fun k => !decide (k ∈ ins)
theorem range_next (j : Nat) : rangeZ (j + 1) = rangeZ j ++ [(j : Int)] := by unfold AdjV.rangeZ; rw [List.range_succ, List.map_append]; rfl
theorem keep_next (d ins : List Int) (j : Nat) : keepTo d ins (j + 1) = if (j : Int) ∈ ins then keepTo d ins j else keepTo d ins j ++ [(j : Int)] := by
 unfold keepTo
 rw [range_next, List.filter_append]
 by_cases h : (j : Int) ∈ ins
 ·rw [if_pos h]; simp [h]
 ·rw [if_neg h]; simp [h]
theorem keep_all (d ins : List Int) : keepTo d ins d.length = free d ins := rfl
theorem keep_len (d ins : List Int) (j : Nat) : (keepTo d ins j).length ≤ j := by
 unfold keepTo
 have := List.length_filter_le (fun k => !decide (k ∈ ins)) (rangeZ j)
 rwa [AdjV.rangeZ_length] at this
theorem chosen_snoc (d l : List Int) (k : Nat) (hk : k < d.length) : chosen d (l ++ [(k : Int)]) = chosen d l ++ [d[k]] := by
 unfold AdjD.chosen
 rw [List.map_append, List.map_cons, AdjV.pick_nat d k hk]; rfl
def summed (l d : List Int) : List Int × Int := if AdjV.riseB d.length l then (chosen d (free d l), 0) else ([], 6)
end AdjD'
theorem Ar.reads_cells {W : World} {g n s : Nat} {t : TypeId} {l : List Value} (h : Blk W g t l.toArray) (hl : l.length = n * s) : Adj.Reads W W.heap.size s (some ⟨g, 0, none⟩) n l :=
 ⟨hl, fun _ => ⟨⟨g, 0, none⟩, rfl, h.lt, fun j u hu => by
  have h2 : (⟨g, 0, none⟩ : Addr).add j = ⟨g, j, none⟩ := by
   unfold Addr.add
   split
   ·rename_i e; subst e; rfl
   ·simp
  rw [h2]
  exact h.at (by simpa using hu)⟩⟩
theorem Ar.sl_own {w : World} {base n : Nat} {v : Value} {l : List Int} (h : w.ownsRow base 3 1 v n (ints l)) : Ar.SlAt w w.heap.size v l := by
 have hn : l.length = n := by
  have h1 := h.1
  rw [ints_length, Nat.mul_one] at h1
  exact h1
 subst hn
 obtain ⟨A, c, rfl, h1, h2, h3, _⟩ := Vw.own_view h
 exact ⟨A, c, rfl, h1, h2, h3⟩
theorem Ar.sl_blk {w : World} {g n : Nat} {l : List Int} (h : Blk w g 3 (ints l).toArray) (hn : l.length = n) (hm : n ≤ 9223372036854775807) : Ar.SlAt w w.heap.size (.slice (some ⟨g, 0, none⟩) n n) l := by
 subst hn
 refine ⟨_, _, rfl, fun hp => ⟨g, 0, rfl, h.lt, fun i hi => ?_⟩, Nat.le_refl _, hm⟩
 rw [Nat.zero_add]
 exact h.at (by simpa using ints_at l i hi)
def Ar.FrAt (N : Nat) (w : World) (v : Value) (l : List Int) : Prop := Ar.SlAt w w.heap.size v l ∧ (0 < l.length → ∀ g, v.ownBlock = some g → N ≤ g)
theorem Ar.FrAt.nil (N : Nat) (w : World) : Ar.FrAt N w (.slice none 0 0) [] := ⟨Ar.SlAt.nil _ _, fun h => by simp at h⟩
theorem Ar.fr_of {w : World} {N n c : Nat} {A : Option Addr} {l : List Int} (h : Ar.SlAt w w.heap.size (.slice A n c) l) (ha : ∀ b off, A = some ⟨b, off, none⟩ → 0 < l.length → N ≤ b) : Ar.FrAt N w (.slice A n c) l :=
 ⟨h, fun hp g hg => by
  obtain ⟨A', c', e, hi, _⟩ := h
  injection e with e1
  subst e1
  obtain ⟨b, off, e2, _⟩ := hi hp
  subst e2
  simp [Value.ownBlock] at hg
  have := ha b off rfl hp
  omega⟩
theorem Ar.fr_own {w : World} {base n N : Nat} {v : Value} {l : List Int} (h : w.ownsRow base 3 1 v n (ints l)) (hN : N ≤ base) : Ar.FrAt N w v l := ⟨Ar.sl_own h, fun _ g hg => Nat.le_trans hN (h.lt g hg).1⟩
set_option maxRecDepth 100000 in
set_option maxHeartbeats 4000000 in
theorem Ar.summed_any (A A' : Option Addr) (ca cd : Nat) (l d : List Int) (B : Nat) (w : World) (hB : B ≤ w.heap.size) (hl : l.length ≤ 9223372036854775807) (hd : d.length ≤ 65536) (h1 : Vw.IntsAt w B A l) (h2 : Vw.IntsAt w B A' d) :
    Calls Try.prog 37 #[.slice A l.length ca, .slice A' d.length cd] w fun e w' => ∃ v, e = .returned (.tuple #[v, .int .i64 (AdjD'.summed l d).2]) ∧ Ar.FrAt w.heap.size w' v (AdjD'.summed l d).1 ∧ Below w.heap.size w w' := by
 have HR := Lib.hid (Ar.rising_any A ca d.length l B w hl hd hB h1)
 have HC := Lib.hid (fun x W (hb : Below w.heap.size w W) => Contains_any x A ca l B W hl (h1.below (hb.mono hB)))
 have HD := Lib.hid (fun W (hb : Below w.heap.size w W) => (h2.below (hb.mono hB)))
 have HE := Lib.hid (show AdjD'.summed l d = if AdjV.riseB d.length l then (AdjD.chosen d (AdjD.free d l), 0) else ([], 6) from rfl)
 have HI := Lib.hid (info_parts Try.infoOf3)
 obtain ⟨n, hnn⟩ : ∃ n, d.length = n := ⟨_, rfl⟩
 have HN := Lib.hid hnn
 rw [hnn] at hd HE HR ⊢
 clear h1 h2 hnn
 cases hr : AdjV.riseB n l with
 | false =>
  have HV := Lib.hid (show AdjD'.summed l d = ([], 6) by rw [HE.out, hr]; rfl)
  rw [hr] at HR
  clear hr
  go_enter Try.func37, Try.ntmps37
  go_wp2_with fail
  ((with_reducible refine HR.out.mono ?_); rintro e w1 ⟨rfl, hb1⟩)
  have HB1 := Lib.hid hb1
  clear hb1
  go_wp2_with fail
  go_ret2
  rw [HV.out]
  exact ⟨_, rfl, Ar.FrAt.nil _ _, HB1.out⟩
 | true =>
  have HV := Lib.hid (show AdjD'.summed l d = (AdjD.chosen d (AdjD.free d l), 0) by rw [HE.out, hr]; rfl)
  rw [hr] at HR
  clear hr
  go_enter Try.func37, Try.ntmps37
  go_wp2_with fail
  ((with_reducible refine HR.out.mono ?_); rintro e w1 ⟨rfl, hb1⟩)
  have HB1 := Lib.hid hb1
  clear hb1
  go_wp2_with fail
  go_loopw [6, 16] (fun v kv wr => ∃ k : Nat, kv = .int .i64 (k : Int) ∧ k ≤ n ∧ Below w.heap.size w wr ∧ wr.ownsRow w.heap.size 3 1 v (AdjD.chosen d (AdjD'.keepTo d l k)).length (ints (AdjD.chosen d (AdjD'.keepTo d l k)))) (fun _ kv _ => n - (intOf kv).toNat)
  case atStart => exact ⟨0, rfl, by omega, HB1.out, rfl, .inl ⟨rfl, rfl⟩⟩
  case round =>
   obtain ⟨k, rfl, hk, hb, hown⟩ := hrel
   have HB2 := Lib.hid hb
   have HO2 := Lib.hid hown
   obtain ⟨Av, cv, hv, hcv⟩ := Vw.own_any hown
   subst hv
   have HCK := Lib.hid (HC.out (k : Int) wr hb)
   clear hb hown
   by_cases hkn : k < n
   ·have hkl : k < d.length := by have := HN.out; omega
    obtain ⟨b, off, rfl, hbb, hc⟩ := HD.out _ HB2.out (by omega)
    have c1 := hc k hkl
    have HKN := Lib.hid (AdjD'.keep_next d l k)
    have HCS := Lib.hid (AdjD'.chosen_snoc d (AdjD'.keepTo d l k) k hkl)
    have hkl2 := AdjD'.keep_len d l k
    have hcl := AdjD.chosen_length d (AdjD'.keepTo d l k)
    have i1 : (0 : Int) ≤ (k : Int) := by omega
    have i2 : (k : Int) < (n : Int) := by omega
    have hbl : (AdjD.chosen d (AdjD'.keepTo d l k)).length ≤ 65536 := by omega
    clear hc hcl hkl2
    generalize d[k] = x at c1 HCS
    by_cases hin : (k : Int) ∈ l
    ·rw [decide_eq_true hin] at HCK
     have HX := Lib.hid (show AdjD'.keepTo d l (k + 1) = AdjD'.keepTo d l k by rw [HKN.out, if_pos hin])
     clear hin
     go_wp2_with fail
     ((with_reducible refine HCK.out.mono ?_); rintro e w3 ⟨rfl, hw3⟩)
     rw [← hw3]
     clear hw3
     go_wp2_with fail
     go_roundw
     case rel => exact ⟨k + 1, by go_num, by omega, HB2.out, by rw [HX.out]; exact HO2.out⟩
     case measure => simp [intOf]; omega
    ·rw [decide_eq_false hin] at HCK
     have HX := Lib.hid (show AdjD'.keepTo d l (k + 1) = AdjD'.keepTo d l k ++ [(k : Int)] by rw [HKN.out, if_neg hin])
     clear hin
     obtain ⟨i0, g1, g2, g3, g4⟩ := HI.out
     have hwsz := HB2.out.size
     generalize hLk : AdjD.chosen d (AdjD'.keepTo d l k) = Lk at HO2 HCS hbl ⊢
     go_wp2_with fail
     ((with_reducible refine HCK.out.mono ?_); rintro e w3 ⟨rfl, hw3⟩)
     rw [← hw3]
     clear hw3
     go_wp2_with (at_builtin; refine wpList_append_any _ rfl _ _ 23 rfl w.heap.size 3 i0 (.int .i64 0) 1 8 Try.underlying23 g1 g2 g3 g4 rfl (by decide) _ _ _ rfl (HO2.out.alloc _) _ (some ⟨wr.heap.size, 0, none⟩) 1 1 [.int .i64 x] rfl (Ar.reads_cells (Blk.new wr 3 #[.int .i64 x]) rfl) (by intro u hu; simp at hu; subst hu; rfl) (by unfold maxLen; omega) (by omega) (by simp; omega) ?_)
     intro v' w6 how hgr _
     have HBZ := Lib.hid ((HB2.out.alloc hwsz (.cells #[.int .i64 x] 3)).grown hgr (by simp; omega) (fun g hg => (HO2.out.lt g hg).1))
     have HO6 := Lib.hid (show w6.ownsRow w.heap.size 3 1 v' (AdjD.chosen d (AdjD'.keepTo d l (k + 1))).length (ints (AdjD.chosen d (AdjD'.keepTo d l (k + 1)))) by
      rw [HX.out, HCS.out, List.length_append, Vw.ints_snoc]; exact how)
     clear how hgr hLk
     go_wp2_with fail
     go_roundw
     case rel => exact ⟨k + 1, by go_num, by omega, HBZ.out, HO6.out⟩
     case measure => simp [intOf]; omega
   ·obtain rfl : k = n := by omega
    have HX := Lib.hid (show AdjD'.keepTo d l k = AdjD.free d l by rw [← HN.out]; rfl)
    rw [HX.out] at HO2 ⊢
    generalize AdjD.chosen d (AdjD.free d l) = Lk at HO2 HV ⊢
    go_wp2_with fail
    go_ret2
    rw [HV.out]
    exact ⟨_, rfl, Ar.fr_own HO2.out (Nat.le_refl _), HB2.out⟩
namespace AdjD'
open AdjD (padB padOne)
def padRow (op : AdjD.Op) (d : List Int) (k : Nat) : List Int := (List.range d.length).map fun j => if j < k then padOne (d.getD j 0) (op.lo.getD j 0) (op.hi.getD j 0) (op.step.getD j 0) else 0
theorem padRow_len (op : AdjD.Op) (d : List Int) (k : Nat) : (padRow op d k).length = d.length := by simp [padRow]
theorem padRow_zero (op : AdjD.Op) (d : List Int) : padRow op d 0 = List.replicate d.length 0 := by
 unfold padRow
 apply List.ext_getElem
 ·simp
 ·intro i h1 h2; simp
theorem padRow_set (op : AdjD.Op) (d : List Int) {k : Nat} (hk : k < d.length) : (padRow op d k).set k (padOne (d.getD k 0) (op.lo.getD k 0) (op.hi.getD k 0) (op.step.getD k 0)) = padRow op d (k + 1) := by
 apply List.ext_getElem
 ·simp [padRow]
 ·intro i h1 h2
  rw [List.getElem_set]
  simp only [padRow, List.getElem_map, List.getElem_range]
  by_cases e : k = i
  ·subst e; rw [if_pos rfl, if_pos (by omega)]
  ·rw [if_neg e]
   by_cases h : i < k
   ·rw [if_pos h, if_pos (by omega)]
   ·rw [if_neg h, if_neg (by omega)]
theorem padRow_all (op : AdjD.Op) (d : List Int) : padRow op d d.length = (List.range d.length).map fun k => padOne (d.getD k 0) (op.lo.getD k 0) (op.hi.getD k 0) (op.step.getD k 0) := by
 unfold padRow
 exact List.map_congr_left (fun j hj => by rw [if_pos (List.mem_range.1 hj)])
end AdjD'
set_option maxRecDepth 100000 in
theorem Ar.padBad_any (x y : Int) (w : World) : Calls Try.prog 52 #[.int .i64 x, .int .i64 y] w fun e w' => e = .returned (.bool (decide (x < y) || decide (4096 < x))) ∧ w' = w := by
 by_cases h : x < y
 ·have hd : decide (x < y) = true := by simpa using h
  go_enter Try.func52, Try.ntmps52
  go_wp2_with fail
  go_ret
  exact ⟨by first | rfl | (rw [hd]; rfl), rfl⟩
 ·have hd : decide (x < y) = false := by simpa using h
  go_enter Try.func52, Try.ntmps52
  go_wp2_with fail
  go_ret
  exact ⟨by first | rfl | (rw [hd]; rfl), rfl⟩
set_option maxRecDepth 100000 in
set_option maxHeartbeats 8000000 in
theorem Ar.padded_any (val : Value) (op : AdjD.Op) (A' : Option Addr) (cd : Nat) (d : List Int) (B : Nat) (w : World) (hB : B ≤ w.heap.size) (hd : d.length ≤ 65536) (hdp : ∀ x ∈ d, 0 ≤ x ∧ x ≤ 4096) (hop : Ar.OpAt w B val op) (h2 : Vw.IntsAt w B A' d) :
    Calls Try.prog 38 #[val, .slice A' d.length cd] w fun e w' => ∃ v, e = .returned (.tuple #[v, .int .i64 (AdjD.padDims op d).2]) ∧ Ar.FrAt w.heap.size w' v (AdjD.padDims op d).1 ∧ Below w.heap.size w w' := by
 obtain ⟨v1, v2, v3, v4, v5, rfl, _, _, ⟨L, cl, rfl, il, _, ml⟩, ⟨I, ci, rfl, ii, _, mi⟩, ⟨T, ct, rfl, it, _, mt⟩⟩ := hop
 have HB := Lib.hid ((Below.refl w.heap.size w).alloc (Nat.le_refl _) (.cells #[.int .i64 op.kind, v1, v2, .slice L op.lo.length cl, .slice I op.hi.length ci, .slice T op.step.length ct, .int .i64 op.value] 37))
 have HX := Lib.hid (Blk.new w 37 #[.int .i64 op.kind, v1, v2, .slice L op.lo.length cl, .slice I op.hi.length ci, .slice T op.step.length ct, .int .i64 op.value])
 have HL := Lib.hid (fun W (hb : Below w.heap.size w W) => And.intro (il.below (hb.mono hB)) (And.intro (ii.below (hb.mono hB)) (And.intro (it.below (hb.mono hB)) (h2.below (hb.mono hB)))))
 have HE := Lib.hid (show AdjD.padDims op d = if op.lo.length ≠ d.length ∨ op.hi.length ≠ d.length ∨ op.step.length ≠ d.length then ([], 6) else if (List.range d.length).all (fun k => AdjD.padB (op.lo.getD k 0) (op.hi.getD k 0) (op.step.getD k 0)) then (AdjD'.padRow op d d.length, 0) else ([], 4) by rw [AdjD'.padRow_all]; rfl)
 have HDP := Lib.hid hdp
 have HPB := Lib.hid (fun x y W => Ar.padBad_any x y W)
 have hmk := fun W => run_make_int d.length hd W
 have hcf : ∀ (args : Array Value) (W : World), (callFunc 52 args).run Try.prog W = .ok (.enter 52 args) W := fun _ _ => rfl
 clear il ii it h2 hdp
 have x3 := HX.out.cell 3
 have x4 := HX.out.cell 4
 have x5 := HX.out.cell 5
 obtain ⟨w0, hw0⟩ : ∃ w0, w.alloc (.cells #[.int .i64 op.kind, v1, v2, .slice L op.lo.length cl, .slice I op.hi.length ci, .slice T op.step.length ct, .int .i64 op.value] 37) = w0 := ⟨_, rfl⟩
 rw [hw0] at HB HX x3 x4 x5
 obtain ⟨n, hnn⟩ : ∃ n, d.length = n := ⟨_, rfl⟩
 have HN := Lib.hid hnn
 rw [hnn] at hd HE hmk ⊢
 clear hnn
 by_cases h1 : op.lo.length = n
 ·have d1 : ((op.lo.length : Int) != (n : Int)) = false := by simp; omega
  by_cases h2 : op.hi.length = n
  ·have d2 : ((op.hi.length : Int) != (n : Int)) = false := by simp; omega
   by_cases h3 : op.step.length = n
   ·have d3 : ((op.step.length : Int) != (n : Int)) = false := by simp; omega
    have HE2 := Lib.hid (show AdjD.padDims op d = if (List.range n).all (fun k => AdjD.padB (op.lo.getD k 0) (op.hi.getD k 0) (op.step.getD k 0)) then (AdjD'.padRow op d n, 0) else ([], 4) by rw [HE.out, if_neg (by omega)])
    have HLN := Lib.hid (And.intro h1 (And.intro h2 h3))
    clear h1 h2 h3
    go_enter Try.func38, Try.ntmps38
    go_wp2_with fail
    have HBW0 := Lib.hid (show Below w0.heap.size w0 (w0.alloc (.cells (ints (List.replicate n 0)).toArray 3)) from (Below.refl _ _).alloc (Nat.le_refl _) _)
    have HR0 := Lib.hid (show Blk (w0.alloc (.cells (ints (List.replicate n 0)).toArray 3)) w0.heap.size 3 (ints (AdjD'.padRow op d 0)).toArray by
     rw [AdjD'.padRow_zero, HN.out]; exact Blk.new _ _ _)
    go_loopw [35] (fun kv wr => ∃ k : Nat, kv = .int .i64 (k : Int) ∧ k ≤ n ∧ (∀ j, j < k → AdjD.padB (op.lo.getD j 0) (op.hi.getD j 0) (op.step.getD j 0) = true) ∧ Below w0.heap.size w0 wr ∧ Blk wr w0.heap.size 3 (ints (AdjD'.padRow op d k)).toArray) (fun kv _ => n - (intOf kv).toNat)
    case atStart => exact ⟨0, rfl, by omega, fun j hj => by omega, HBW0.out, HR0.out⟩
    case round =>
     obtain ⟨k, rfl, hk, hall, hb, hblk⟩ := hrel
     have HALL := Lib.hid hall
     have HB1 := Lib.hid hb
     have HB2 := Lib.hid (HB.out.trans (hb.mono HB.out.size))
     have HBK := Lib.hid hblk
     have hx1 := HX.out.below hb HX.out.lt
     have HX1 := Lib.hid hx1
     clear hall hb hblk x3 x4 x5
     by_cases hkn : k < n
     ·have hkd : k < d.length := by have := HN.out; omega
      obtain ⟨hL, hI, hT, hD⟩ := HL.out wr HB2.out
      have hll := HLN.out
      obtain ⟨bl, ol, rfl, _, gl⟩ := hL (by omega)
      obtain ⟨bi, oi, rfl, _, gi⟩ := hI (by omega)
      obtain ⟨bt, ot, rfl, hbtB, gt⟩ := hT (by omega)
      obtain ⟨bd, od, rfl, hbdB, gd⟩ := hD (by omega)
      have cl1 := gl k (by omega)
      have ci1 := gi k (by omega)
      have ct1 := gt k (by omega)
      have cd1 := gd k hkd
      rw [← AdjD.getD_at op.lo k (by omega)] at cl1
      rw [← AdjD.getD_at op.hi k (by omega)] at ci1
      rw [← AdjD.getD_at op.step k (by omega)] at ct1
      rw [← AdjD.getD_at d k hkd] at cd1
      have hxd := HDP.out (d.getD k 0) (by rw [AdjD.getD_at d k hkd]; exact List.getElem_mem hkd)
      have HBAD := Lib.hid (fun (h : AdjD.padB (op.lo.getD k 0) (op.hi.getD k 0) (op.step.getD k 0) = false) => show AdjD.padDims op d = ([], 4) by
       rw [HE2.out, if_neg]
       intro ha
       have := List.all_eq_true.1 ha k (List.mem_range.2 hkn)
       rw [h] at this; cases this)
      have HGOOD := Lib.hid (fun (h : AdjD.padB (op.lo.getD k 0) (op.hi.getD k 0) (op.step.getD k 0) = true) => show ∀ j, j < k + 1 → AdjD.padB (op.lo.getD j 0) (op.hi.getD j 0) (op.step.getD j 0) = true from fun j hj => by
       by_cases e : j = k
       ·subst e; exact h
       ·exact HALL.out j (by omega))
      have HSET := Lib.hid (AdjD'.padRow_set op d hkd)
      have i1 : (0 : Int) ≤ (k : Int) := by omega
      have i2 : (k : Int) < (n : Int) := by omega
      have i3 : (k : Int) < (op.lo.length : Int) := by omega
      have i4 : (k : Int) < (op.hi.length : Int) := by omega
      have i5 : (k : Int) < (op.step.length : Int) := by omega
      have y3 := HX1.out.cell 3
      have y4 := HX1.out.cell 4
      have y5 := HX1.out.cell 5
      clear gl gi gt gd hL hI hT hD hll hx1
      generalize op.lo.getD k 0 = lo at cl1 HBAD HGOOD HSET
      generalize op.hi.getD k 0 = hi at ci1 HBAD HGOOD HSET
      generalize op.step.getD k 0 = st at ct1 HBAD HGOOD HSET
      generalize d.getD k 0 = x at cd1 hxd HSET
      obtain ⟨hx0, hx1⟩ := hxd
      by_cases g1 : 0 ≤ lo ∧ lo ≤ 4096
      ·have HP1 := Lib.hid (fun W => show Calls Try.prog 52 #[.int .i64 lo, .int .i64 0] W fun e w' => e = .returned (.bool false) ∧ w' = W from (Ar.padBad_any lo 0 W).mono (fun e w' h => ⟨by rw [h.1]; congr 2; simp; omega, h.2⟩))
       by_cases g2 : 0 ≤ hi ∧ hi ≤ 4096
       ·have HP2 := Lib.hid (fun W => show Calls Try.prog 52 #[.int .i64 hi, .int .i64 0] W fun e w' => e = .returned (.bool false) ∧ w' = W from (Ar.padBad_any hi 0 W).mono (fun e w' h => ⟨by rw [h.1]; congr 2; simp; omega, h.2⟩))
        by_cases g3 : 1 ≤ st ∧ st ≤ 4096
        ·have HP3 := Lib.hid (fun W => show Calls Try.prog 52 #[.int .i64 st, .int .i64 1] W fun e w' => e = .returned (.bool false) ∧ w' = W from (Ar.padBad_any st 1 W).mono (fun e w' h => ⟨by rw [h.1]; congr 2; simp; omega, h.2⟩))
         have HALL2 := Lib.hid (HGOOD.out (by unfold AdjD.padB; simp; omega))
         obtain ⟨g1a, g1b⟩ := g1
         obtain ⟨g2a, g2b⟩ := g2
         obtain ⟨g3a, g3b⟩ := g3
         go_wp2_with fail
         ((with_reducible refine (HP1.out _).mono ?_); rintro e w3 ⟨rfl, hw3⟩; rw [hw3]; clear hw3)
         go_wp2_with fail
         ((with_reducible refine (HP2.out _).mono ?_); rintro e w3 ⟨rfl, hw3⟩; rw [hw3]; clear hw3)
         go_wp2_with fail
         ((with_reducible refine (HP3.out _).mono ?_); rintro e w3 ⟨rfl, hw3⟩; rw [hw3]; clear hw3)
         have hfz : wr.frozen? ⟨w0.heap.size, k, none⟩ = false := HBK.out.frozen k
         obtain ⟨u, hu⟩ : ∃ u, wr.cell? ⟨w0.heap.size, k, none⟩ = some u := ⟨_, (HBK.out.cell k).trans (Array.getElem?_eq_getElem (by rw [List.size_toArray, ints_length, AdjD'.padRow_len]; exact hkd))⟩
         have HBK2 := Lib.hid (show Blk (wr.setCell ⟨w0.heap.size, k, none⟩ (.int .i64 (lo + hi))).drew w0.heap.size 3 (ints ((AdjD'.padRow op d k).set k (lo + hi))).toArray by
          have h2 := (HBK.out.set_ k (.int .i64 (lo + hi))).drew
          rwa [ints_set] at h2)
         have HB3 := Lib.hid ((HB1.out.setCell (p := ⟨w0.heap.size, k, none⟩) (Nat.le_refl _) (.int .i64 (lo + hi))).drew)
         have hw0s : w.heap.size < w0.heap.size := HX.out.lt
         have cd2 : (wr.setCell ⟨w0.heap.size, k, none⟩ (.int .i64 (lo + hi))).drew.cell? ⟨bd, od + k, none⟩ = some (.int .i64 x) := by
          have h1 := (Below.cell (Below.drew (Below.setCell (Below.refl w0.heap.size wr) (p := ⟨w0.heap.size, k, none⟩) (Nat.le_refl _) (.int .i64 (lo + hi)))) (p := ⟨bd, od + k, none⟩) (by show bd < w0.heap.size; omega))
          exact h1.trans cd1
         have ct2 : (wr.setCell ⟨w0.heap.size, k, none⟩ (.int .i64 (lo + hi))).drew.cell? ⟨bt, ot + k, none⟩ = some (.int .i64 st) := by
          have h1 := (Below.cell (Below.drew (Below.setCell (Below.refl w0.heap.size wr) (p := ⟨w0.heap.size, k, none⟩) (Nat.le_refl _) (.int .i64 (lo + hi)))) (p := ⟨bt, ot + k, none⟩) (by show bt < w0.heap.size; omega))
          exact h1.trans ct1
         have HX2 := Lib.hid (HX.out.below HB3.out HX.out.lt)
         have qlh : IntKind.i64.wrap (lo + hi) = lo + hi := IntWalk.i64_in _ (by omega)
         obtain ⟨W2, hW2⟩ : ∃ W2, (wr.setCell ⟨w0.heap.size, k, none⟩ (.int .i64 (lo + hi))).drew = W2 := ⟨_, rfl⟩
         rw [hW2] at HBK2 HB3 cd2 ct2 HX2
         have z5 := HX2.out.cell 5
         by_cases hpos : 0 < x
         ·have HPO := Lib.hid (show AdjD.padOne x lo hi st = lo + hi + ((x - 1) * st + 1) by unfold AdjD.padOne; rw [if_pos hpos]; omega)
          have hm1 : 0 ≤ (x - 1) * st := Int.mul_nonneg (by omega) (by omega)
          have hm2 : (x - 1) * st ≤ 4096 * 4096 := Int.mul_le_mul (by omega) (by omega) (by omega) (by omega)
          have co2 : W2.cell? ⟨w0.heap.size, k, none⟩ = some (.int .i64 (lo + hi)) := HBK2.out.at (by
           have h2 : k < ((AdjD'.padRow op d k).set k (lo + hi)).length := by rw [List.length_set, AdjD'.padRow_len]; exact hkd
           have h3 := ints_at ((AdjD'.padRow op d k).set k (lo + hi)) k h2
           rw [List.getElem_set_self] at h3
           simpa using h3)
          have hf2 : W2.frozen? ⟨w0.heap.size, k, none⟩ = false := HBK2.out.frozen k
          rw [HPO.out] at HSET
          have HBK3 := Lib.hid (show Blk (W2.setCell ⟨w0.heap.size, k, none⟩ (.int .i64 (lo + hi + ((x - 1) * st + 1)))).drew w0.heap.size 3 (ints (AdjD'.padRow op d (k + 1))).toArray by
           have h2 := (HBK2.out.set_ k (.int .i64 (lo + hi + ((x - 1) * st + 1)))).drew
           rw [ints_set, List.set_set, HSET.out] at h2
           exact h2)
          have HB4 := Lib.hid ((HB3.out.setCell (p := ⟨w0.heap.size, k, none⟩) (Nat.le_refl _) (.int .i64 (lo + hi + ((x - 1) * st + 1)))).drew)
          generalize hmm : (x - 1) * st = m at hm1 hm2 HBK3 HB4
          have q1 : IntKind.i64.wrap (x - 1) = x - 1 := IntWalk.i64_in _ (by omega)
          have q2 : IntKind.i64.wrap m = m := IntWalk.i64_in _ (by omega)
          have q3 : IntKind.i64.wrap (m + 1) = m + 1 := IntWalk.i64_in _ (by omega)
          have q4 : IntKind.i64.wrap (lo + hi + (m + 1)) = lo + hi + (m + 1) := IntWalk.i64_in _ (by omega)
          go_wp2_with fail
          refine wp_region_T (fun w' => w'.cell? ⟨w.heap.size, 3, none⟩ = some (.slice (some ⟨bl, ol, none⟩) op.lo.length cl) ∧ w'.cell? ⟨w.heap.size, 4, none⟩ = some (.slice (some ⟨bi, oi, none⟩) op.hi.length ci) ∧ w'.cell? ⟨bl, ol + k, none⟩ = some (.int .i64 lo) ∧ w'.cell? ⟨bi, oi + k, none⟩ = some (.int .i64 hi)) 14 (fun _ => True) 14 15 rfl (by kernel_rfl) ⟨⟨y3, y4, cl1, ci1⟩, trivial⟩ (fun hHeld => ?_)
          simp only [List.replicate_succ, List.replicate_zero]
          refine tk (v := ?_) [] 0 63 hHeld ?_ ?_; rotate_left; (intro w h; (try dsimp only at h); go_simp; try with_reducible rfl); try simp only [Act.put, zA, zB, zC]
          refine tk (v := ?_) [] 1 64 hHeld ?_ ?_; rotate_left; (intro w h; (try dsimp only at h); go_simp; try with_reducible rfl); try simp only [Act.put, zA, zB, zC]
          refine tk (v := ?_) [] 2 65 hHeld ?_ ?_; rotate_left; (intro w h; (try dsimp only at h); go_simp; try with_reducible rfl); try simp only [Act.put, zA, zB, zC]
          refine tk (v := ?_) [] 3 66 hHeld ?_ ?_; rotate_left; (intro w h; (try dsimp only at h); go_simp; try with_reducible rfl); try simp only [Act.put, zA, zB, zC]
          refine tk (v := ?_) [] 4 67 hHeld ?_ ?_; rotate_left; (intro w h; (try dsimp only at h); go_simp; try with_reducible rfl); try simp only [Act.put, zA, zB, zC]
          refine tk (v := ?_) [] 5 68 hHeld ?_ ?_; rotate_left; (intro w h; (try dsimp only at h); go_simp; try with_reducible rfl); try simp only [Act.put, zA, zB, zC]
          refine tk (v := ?_) [] 6 69 hHeld ?_ ?_; rotate_left; (intro w h; (try dsimp only at h); go_simp; try with_reducible rfl); try simp only [Act.put, zA, zB, zC]
          refine tk (v := ?_) [] 7 70 hHeld ?_ ?_; rotate_left; (intro w h; (try dsimp only at h); go_simp; try with_reducible rfl); try simp only [Act.put, zA, zB, zC]
          refine tk (v := ?_) [] 8 71 hHeld ?_ ?_; rotate_left; (intro w h; (try dsimp only at h); go_simp; try with_reducible rfl); try simp only [Act.put, zA, zB, zC]
          refine tk (v := ?_) [] 9 72 hHeld ?_ ?_; rotate_left; (intro w h; (try dsimp only at h); go_simp; try with_reducible rfl); try simp only [Act.put, zA, zB, zC]
          refine tk (v := ?_) [] 10 73 hHeld ?_ ?_; rotate_left; (intro w h; (try dsimp only at h); go_simp; try with_reducible rfl); try simp only [Act.put, zA, zB, zC]
          refine tk (v := ?_) [] 11 74 hHeld ?_ ?_; rotate_left; (intro w h; (try dsimp only at h); go_simp; try with_reducible rfl); try simp only [Act.put, zA, zB, zC]
          refine tk (v := ?_) [] 12 75 hHeld ?_ ?_; rotate_left; (intro w h; (try dsimp only at h); go_simp; try with_reducible rfl); try simp only [Act.put, zA, zB, zC]
          refine tk (v := ?_) [] 13 76 hHeld ?_ ?_; rotate_left; (intro w h; (try dsimp only at h); go_simp; try with_reducible rfl); try simp only [Act.put, zA, zB, zC]
          refine wpT_tail [_] 14 [] rfl (by kernel_rfl) ?_
          go_wp2_with fail
          refine wp_region_T (fun w' => w'.cell? ⟨w.heap.size, 5, none⟩ = some (.slice (some ⟨bt, ot, none⟩) op.step.length ct) ∧ w'.cell? ⟨bd, od + k, none⟩ = some (.int .i64 x) ∧ w'.cell? ⟨bt, ot + k, none⟩ = some (.int .i64 st) ∧ w'.cell? ⟨w0.heap.size, k, none⟩ = some (.int .i64 (lo + hi))) 18 (fun _ => True) 18 19 rfl (by kernel_rfl) ⟨⟨z5, cd2, ct2, co2⟩, trivial⟩ (fun hHeld => ?_)
          simp only [List.replicate_succ, List.replicate_zero]
          refine tk (v := ?_) [] 0 82 hHeld ?_ ?_; rotate_left; (intro w h; (try dsimp only at h); go_simp; try with_reducible rfl); try simp only [Act.put, zA, zB, zC]
          refine tk (v := ?_) [] 1 83 hHeld ?_ ?_; rotate_left; (intro w h; (try dsimp only at h); go_simp; try with_reducible rfl); try simp only [Act.put, zA, zB, zC]
          refine tk (v := ?_) [] 2 84 hHeld ?_ ?_; rotate_left; (intro w h; (try dsimp only at h); go_simp; try with_reducible rfl); try simp only [Act.put, zA, zB, zC]
          refine tk (v := ?_) [] 3 85 hHeld ?_ ?_; rotate_left; (intro w h; (try dsimp only at h); go_simp; try with_reducible rfl); try simp only [Act.put, zA, zB, zC]
          refine tk (v := ?_) [] 4 86 hHeld ?_ ?_; rotate_left; (intro w h; (try dsimp only at h); go_simp; try with_reducible rfl); try simp only [Act.put, zA, zB, zC]
          refine tk (v := ?_) [] 5 87 hHeld ?_ ?_; rotate_left; (intro w h; (try dsimp only at h); go_simp; try with_reducible rfl); try simp only [Act.put, zA, zB, zC]
          refine tk (v := ?_) [] 6 88 hHeld ?_ ?_; rotate_left; (intro w h; (try dsimp only at h); go_simp; try with_reducible rfl); try simp only [Act.put, zA, zB, zC]
          refine tk (v := ?_) [] 7 89 hHeld ?_ ?_; rotate_left; (intro w h; (try dsimp only at h); go_simp; try with_reducible rfl); try simp only [Act.put, zA, zB, zC]
          refine tk (v := ?_) [] 8 90 hHeld ?_ ?_; rotate_left; (intro w h; (try dsimp only at h); go_simp; try with_reducible rfl); try simp only [Act.put, zA, zB, zC]
          refine tk (v := ?_) [] 9 91 hHeld ?_ ?_; rotate_left; (intro w h; (try dsimp only at h); go_simp; try with_reducible rfl); try simp only [Act.put, zA, zB, zC]
          refine tk (v := ?_) [] 10 92 hHeld ?_ ?_; rotate_left; (intro w h; (try dsimp only at h); go_simp; try with_reducible rfl); try simp only [Act.put, zA, zB, zC]
          refine tk (v := ?_) [] 11 93 hHeld ?_ ?_; rotate_left; (intro w h; (try dsimp only at h); go_simp; try with_reducible rfl); try simp only [Act.put, zA, zB, zC]
          refine tk (v := ?_) [] 12 94 hHeld ?_ ?_; rotate_left; (intro w h; (try dsimp only at h); go_simp; try with_reducible rfl); try simp only [Act.put, zA, zB, zC]
          refine tk (v := ?_) [] 13 95 hHeld ?_ ?_; rotate_left; (intro w h; (try dsimp only at h); go_simp; try with_reducible rfl); try simp only [Act.put, zA, zB, zC]
          refine tk (v := ?_) [] 14 96 hHeld ?_ ?_; rotate_left; (intro w h; (try dsimp only at h); go_simp; try with_reducible rfl); try simp only [Act.put, zA, zB, zC]
          refine tk (v := ?_) [] 15 97 hHeld ?_ ?_; rotate_left; (intro w h; (try dsimp only at h); go_simp; try with_reducible rfl); try simp only [Act.put, zA, zB, zC]
          refine tk (v := ?_) [] 16 98 hHeld ?_ ?_; rotate_left; (intro w h; (try dsimp only at h); go_simp; try with_reducible rfl); try simp only [Act.put, zA, zB, zC]
          refine tk (v := ?_) [] 17 99 hHeld ?_ ?_; rotate_left; (intro w h; (try dsimp only at h); go_simp; try with_reducible rfl); try simp only [Act.put, zA, zB, zC]
          refine wpT_tail [_] 18 [] rfl (by kernel_rfl) ?_
          obtain ⟨W3, hW3⟩ : ∃ W3, (W2.setCell ⟨w0.heap.size, k, none⟩ (.int .i64 (lo + hi + (m + 1)))).drew = W3 := ⟨_, rfl⟩
          rw [hW3] at HBK3 HB4
          clear hHeld
          go_wp2_with fail
          go_roundw
          case rel => exact ⟨k + 1, by go_num, by omega, HALL2.out, HB4.out, HBK3.out⟩
          case measure => simp [intOf]; omega
         ·have HPO := Lib.hid (show AdjD.padOne x lo hi st = lo + hi by unfold AdjD.padOne; rw [if_neg hpos]; omega)
          rw [HPO.out] at HSET
          have HBK3 := Lib.hid (show Blk W2 w0.heap.size 3 (ints (AdjD'.padRow op d (k + 1))).toArray by rw [← HSET.out]; exact HBK2.out)
          go_wp2_with fail
          refine wp_region_T (fun w' => w'.cell? ⟨w.heap.size, 3, none⟩ = some (.slice (some ⟨bl, ol, none⟩) op.lo.length cl) ∧ w'.cell? ⟨w.heap.size, 4, none⟩ = some (.slice (some ⟨bi, oi, none⟩) op.hi.length ci) ∧ w'.cell? ⟨bl, ol + k, none⟩ = some (.int .i64 lo) ∧ w'.cell? ⟨bi, oi + k, none⟩ = some (.int .i64 hi)) 14 (fun _ => True) 14 15 rfl (by kernel_rfl) ⟨⟨y3, y4, cl1, ci1⟩, trivial⟩ (fun hHeld => ?_)
          simp only [List.replicate_succ, List.replicate_zero]
          refine tk (v := ?_) [] 0 63 hHeld ?_ ?_; rotate_left; (intro w h; (try dsimp only at h); go_simp; try with_reducible rfl); try simp only [Act.put, zA, zB, zC]
          refine tk (v := ?_) [] 1 64 hHeld ?_ ?_; rotate_left; (intro w h; (try dsimp only at h); go_simp; try with_reducible rfl); try simp only [Act.put, zA, zB, zC]
          refine tk (v := ?_) [] 2 65 hHeld ?_ ?_; rotate_left; (intro w h; (try dsimp only at h); go_simp; try with_reducible rfl); try simp only [Act.put, zA, zB, zC]
          refine tk (v := ?_) [] 3 66 hHeld ?_ ?_; rotate_left; (intro w h; (try dsimp only at h); go_simp; try with_reducible rfl); try simp only [Act.put, zA, zB, zC]
          refine tk (v := ?_) [] 4 67 hHeld ?_ ?_; rotate_left; (intro w h; (try dsimp only at h); go_simp; try with_reducible rfl); try simp only [Act.put, zA, zB, zC]
          refine tk (v := ?_) [] 5 68 hHeld ?_ ?_; rotate_left; (intro w h; (try dsimp only at h); go_simp; try with_reducible rfl); try simp only [Act.put, zA, zB, zC]
          refine tk (v := ?_) [] 6 69 hHeld ?_ ?_; rotate_left; (intro w h; (try dsimp only at h); go_simp; try with_reducible rfl); try simp only [Act.put, zA, zB, zC]
          refine tk (v := ?_) [] 7 70 hHeld ?_ ?_; rotate_left; (intro w h; (try dsimp only at h); go_simp; try with_reducible rfl); try simp only [Act.put, zA, zB, zC]
          refine tk (v := ?_) [] 8 71 hHeld ?_ ?_; rotate_left; (intro w h; (try dsimp only at h); go_simp; try with_reducible rfl); try simp only [Act.put, zA, zB, zC]
          refine tk (v := ?_) [] 9 72 hHeld ?_ ?_; rotate_left; (intro w h; (try dsimp only at h); go_simp; try with_reducible rfl); try simp only [Act.put, zA, zB, zC]
          refine tk (v := ?_) [] 10 73 hHeld ?_ ?_; rotate_left; (intro w h; (try dsimp only at h); go_simp; try with_reducible rfl); try simp only [Act.put, zA, zB, zC]
          refine tk (v := ?_) [] 11 74 hHeld ?_ ?_; rotate_left; (intro w h; (try dsimp only at h); go_simp; try with_reducible rfl); try simp only [Act.put, zA, zB, zC]
          refine tk (v := ?_) [] 12 75 hHeld ?_ ?_; rotate_left; (intro w h; (try dsimp only at h); go_simp; try with_reducible rfl); try simp only [Act.put, zA, zB, zC]
          refine tk (v := ?_) [] 13 76 hHeld ?_ ?_; rotate_left; (intro w h; (try dsimp only at h); go_simp; try with_reducible rfl); try simp only [Act.put, zA, zB, zC]
          refine wpT_tail [_] 14 [] rfl (by kernel_rfl) ?_
          go_wp2_with fail
          go_roundw
          case rel => exact ⟨k + 1, by go_num, by omega, HALL2.out, HB3.out, HBK3.out⟩
          case measure => simp [intOf]; omega
        ·have HP3 := Lib.hid (fun W => show Calls Try.prog 52 #[.int .i64 st, .int .i64 1] W fun e w' => e = .returned (.bool true) ∧ w' = W from (Ar.padBad_any st 1 W).mono (fun e w' h => ⟨by rw [h.1]; congr 2; simp; omega, h.2⟩))
         have HV := Lib.hid (HBAD.out (by unfold AdjD.padB; simp; omega))
         clear g1 g2 g3
         go_wp2_with fail
         ((with_reducible refine (HP1.out _).mono ?_); rintro e w3 ⟨rfl, hw3⟩; rw [hw3]; clear hw3)
         go_wp2_with fail
         ((with_reducible refine (HP2.out _).mono ?_); rintro e w3 ⟨rfl, hw3⟩; rw [hw3]; clear hw3)
         go_wp2_with fail
         ((with_reducible refine (HP3.out _).mono ?_); rintro e w3 ⟨rfl, hw3⟩; rw [hw3]; clear hw3)
         go_wp2_with fail
         go_ret2
         rw [HV.out]
         exact ⟨_, rfl, Ar.FrAt.nil _ _, HB2.out⟩
       ·have HP2 := Lib.hid (fun W => show Calls Try.prog 52 #[.int .i64 hi, .int .i64 0] W fun e w' => e = .returned (.bool true) ∧ w' = W from (Ar.padBad_any hi 0 W).mono (fun e w' h => ⟨by rw [h.1]; congr 2; simp; omega, h.2⟩))
        have HV := Lib.hid (HBAD.out (by unfold AdjD.padB; simp; omega))
        clear g1 g2
        go_wp2_with fail
        ((with_reducible refine (HP1.out _).mono ?_); rintro e w3 ⟨rfl, hw3⟩; rw [hw3]; clear hw3)
        go_wp2_with fail
        ((with_reducible refine (HP2.out _).mono ?_); rintro e w3 ⟨rfl, hw3⟩; rw [hw3]; clear hw3)
        go_wp2_with fail
        go_ret2
        rw [HV.out]
        exact ⟨_, rfl, Ar.FrAt.nil _ _, HB2.out⟩
      ·have HP1 := Lib.hid (fun W => show Calls Try.prog 52 #[.int .i64 lo, .int .i64 0] W fun e w' => e = .returned (.bool true) ∧ w' = W from (Ar.padBad_any lo 0 W).mono (fun e w' h => ⟨by rw [h.1]; congr 2; simp; omega, h.2⟩))
       have HV := Lib.hid (HBAD.out (by unfold AdjD.padB; simp; omega))
       clear g1
       go_wp2_with fail
       ((with_reducible refine (HP1.out _).mono ?_); rintro e w3 ⟨rfl, hw3⟩; rw [hw3]; clear hw3)
       go_wp2_with fail
       go_ret2
       rw [HV.out]
       exact ⟨_, rfl, Ar.FrAt.nil _ _, HB2.out⟩
     ·obtain rfl : k = n := by omega
      have HV := Lib.hid (show AdjD.padDims op d = (AdjD'.padRow op d k, 0) by
       rw [HE2.out, if_pos]
       exact List.all_eq_true.2 (fun j hj => HALL.out j (List.mem_range.1 hj)))
      have HLEN := Lib.hid (AdjD'.padRow_len op d k)
      go_wp2_with fail
      go_ret2
      rw [HV.out]
      refine ⟨_, rfl, ?_, HB2.out⟩
      exact ⟨Ar.sl_blk HBK.out (by rw [HLEN.out, HN.out]) (by omega), fun _ g hg => by have := HX.out.lt; simp [Value.ownBlock] at hg; omega⟩
   ·have d3 : ((op.step.length : Int) != (n : Int)) = true := by simp; omega
    have HV := Lib.hid (show AdjD.padDims op d = ([], 6) by rw [HE.out, if_pos (by omega)])
    clear h1 h2 h3
    go_enter Try.func38, Try.ntmps38
    go_wp2_with fail
    go_ret2
    rw [HV.out]
    exact ⟨_, rfl, Ar.FrAt.nil _ _, HB.out⟩
  ·have d2 : ((op.hi.length : Int) != (n : Int)) = true := by simp; omega
   have HV := Lib.hid (show AdjD.padDims op d = ([], 6) by rw [HE.out, if_pos (by omega)])
   clear h1 h2
   go_enter Try.func38, Try.ntmps38
   go_wp2_with fail
   go_ret2
   rw [HV.out]
   exact ⟨_, rfl, Ar.FrAt.nil _ _, HB.out⟩
 ·have d1 : ((op.lo.length : Int) != (n : Int)) = true := by simp; omega
  have HV := Lib.hid (show AdjD.padDims op d = ([], 6) by rw [HE.out, if_pos (by omega)])
  clear h1
  go_enter Try.func38, Try.ntmps38
  go_wp2_with fail
  go_ret2
  rw [HV.out]
  exact ⟨_, rfl, Ar.FrAt.nil _ _, HB.out⟩
end Go.Proofs.Ytapedmpbkffopaa
end
section
namespace AdjD
set_option linter.unusedVariables false
open AdjV (size)
def upTo (i : Nat) : List Node → Nat → Int → Int
 | [], _, t => t
 | x :: r, k, t => upTo i r (k + 1) (if (i : Int) ∈ x.args ∧ t < (k : Int) + 1 then (k : Int) + 1 else t)
def lifeOf (g : Graph) (ds : List (List Int)) (i : Nat) : Int × Int × Int :=
 (if i < params g.nodes then 0 else (i : Int), if (i : Int) ∈ g.outs then (g.nodes.length : Int) + 1 else upTo i g.nodes 0 ((i : Int) + 1), (size (ds.getD i [])).1)
def ints3 (l : List (Int × Int × Int)) : List Int := l.flatMap fun x => [x.1, x.2.1, x.2.2]
theorem ints3_append (a b : List (Int × Int × Int)) : ints3 (a ++ b) = ints3 a ++ ints3 b := by simp [ints3]
theorem upTo_append (i : Nat) : ∀ (a b : List Node) (k : Nat) (t : Int), upTo i (a ++ b) k t = upTo i b (k + a.length) (upTo i a k t)
 | [], b, k, t => rfl
 | x :: a, b, k, t => by
  show upTo i (a ++ b) (k + 1) _ = _
  rw [upTo_append i a b, List.length_cons, show k + 1 + a.length = k + (a.length + 1) by omega]; rfl
theorem upTo_take (i : Nat) (ns : List Node) (k : Nat) (hk : k < ns.length) (t : Int) : upTo i (ns.take (k + 1)) 0 t = if (i : Int) ∈ ns[k].args ∧ upTo i (ns.take k) 0 t < (k : Int) + 1 then (k : Int) + 1 else upTo i (ns.take k) 0 t := by
 rw [List.take_succ_eq_append_getElem hk, upTo_append, List.length_take, Nat.min_eq_left (by omega), Nat.zero_add]
 rfl
theorem upTo_early (i : Nat) (ns : List Node) : ∀ k, k ≤ i + 1 → upTo i (ns.take k) 0 ((i : Int) + 1) = (i : Int) + 1
 | 0, _ => rfl
 | k + 1, h => by
  by_cases hk : k < ns.length
  ·rw [upTo_take i ns k hk, upTo_early i ns k (by omega), if_neg (by omega)]
  ·have e : ns.take (k + 1) = ns.take k := by rw [List.take_of_length_le (by omega), List.take_of_length_le (by omega)]
   rw [e]
   exact upTo_early i ns k (by omega)
end AdjD
end
section
namespace AdjD
set_option linter.unusedVariables false
theorem params_le (ns : List Node) : params ns ≤ ns.length := (List.takeWhile_prefix _).length_le
theorem params_at : ∀ (ns : List Node) (k : Nat), (∀ j (h : j < ns.length), j < k → ns[j].op.kind = 1) → (k = ns.length ∨ ∃ h : k < ns.length, ns[k].op.kind ≠ 1) → params ns = k
 | [], k, _, h2 => by
  rcases h2 with h | ⟨h, _⟩
  ·rw [h]; rfl
  ·simp at h
 | x :: r, 0, h1, h2 => by
  rcases h2 with h | ⟨h, hk⟩
  ·simp at h
  ·have : (x.op.kind == 1) = false := by simpa using hk
   unfold params
   rw [List.takeWhile_cons, this]; rfl
 | x :: r, k + 1, h1, h2 => by
  have hx : (x.op.kind == 1) = true := by have := h1 0 (by simp) (by omega); simpa using this
  have ih := params_at r k (fun j h hj => by have := h1 (j + 1) (by simpa using h) (by omega); simpa using this) (by
   rcases h2 with h | ⟨h, hk⟩
   ·left; simpa using h
   ·right; exact ⟨by simpa using h, by simpa using hk⟩)
  unfold params at ih ⊢
  rw [List.takeWhile_cons, hx]
  simp [ih]
end AdjD
namespace Go.Proofs.Ytapedmpbkffopaa
set_option linter.unusedVariables false
open Go.RowKit Adj
namespace Gr
def NodeAt (w : World) (B b o : Nat) (x : AdjD.Node) (v1 v2 v3 v4 v5 v6 : Value) : Prop :=
 (w.cell? ⟨b, o, none⟩ = some (.int .i64 x.op.kind) ∧ w.cell? ⟨b, o + 1, none⟩ = some v1 ∧ w.cell? ⟨b, o + 2, none⟩ = some v2 ∧ w.cell? ⟨b, o + 3, none⟩ = some v3 ∧ w.cell? ⟨b, o + 4, none⟩ = some v4 ∧ w.cell? ⟨b, o + 5, none⟩ = some v5 ∧ w.cell? ⟨b, o + 6, none⟩ = some (.int .i64 x.op.value) ∧ w.cell? ⟨b, o + 7, none⟩ = some v6) ∧
 Ar.SlAt w B v1 x.op.dims ∧ Ar.SlAt w B v2 x.op.at_ ∧ Ar.SlAt w B v3 x.op.lo ∧ Ar.SlAt w B v4 x.op.hi ∧ Ar.SlAt w B v5 x.op.step ∧ Ar.SlAt w B v6 x.args
def NodesAt (w : World) (B : Nat) (A : Option Addr) (ns : List AdjD.Node) : Prop :=
 0 < ns.length → ∃ b off, A = some ⟨b, off, none⟩ ∧ b < B ∧ ∀ i (h : i < ns.length), ∃ v1 v2 v3 v4 v5 v6, NodeAt w B b (off + i * 8) ns[i] v1 v2 v3 v4 v5 v6
theorem NodesAt.below {w w' : World} {B : Nat} {A : Option Addr} {ns : List AdjD.Node} (h : NodesAt w B A ns) (hb : Below B w w') : NodesAt w' B A ns := fun hp => by
 obtain ⟨b, off, hA, hlt, hc⟩ := h hp
 refine ⟨b, off, hA, hlt, fun i hi => ?_⟩
 obtain ⟨v1, v2, v3, v4, v5, v6, ⟨c0, c1, c2, c3, c4, c5, c6, c7⟩, s1, s2, s3, s4, s5, s6⟩ := hc i hi
 have k : ∀ o, w'.cell? ⟨b, o, none⟩ = w.cell? ⟨b, o, none⟩ := fun o => hb.cell (p := ⟨b, o, none⟩) hlt
 exact ⟨v1, v2, v3, v4, v5, v6, ⟨(k _).trans c0, (k _).trans c1, (k _).trans c2, (k _).trans c3, (k _).trans c4, (k _).trans c5, (k _).trans c6, (k _).trans c7⟩, s1.below hb, s2.below hb, s3.below hb, s4.below hb, s5.below hb, s6.below hb⟩
theorem NodesAt.up {w : World} {B B' : Nat} {A : Option Addr} {ns : List AdjD.Node} (h : NodesAt w B A ns) (hb : B ≤ B') : NodesAt w B' A ns := fun hp => by
 obtain ⟨b, off, hA, hlt, hc⟩ := h hp
 refine ⟨b, off, hA, by omega, fun i hi => ?_⟩
 obtain ⟨v1, v2, v3, v4, v5, v6, c, s1, s2, s3, s4, s5, s6⟩ := hc i hi
 exact ⟨v1, v2, v3, v4, v5, v6, c, s1.up hb, s2.up hb, s3.up hb, s4.up hb, s5.up hb, s6.up hb⟩
def NodeV (w : World) (B : Nat) (val : Value) (x : AdjD.Node) : Prop := ∃ v1 v2 v3 v4 v5 v6, val = .agg #[.int .i64 x.op.kind, v1, v2, v3, v4, v5, .int .i64 x.op.value, v6] ∧ Ar.SlAt w B v1 x.op.dims ∧ Ar.SlAt w B v2 x.op.at_ ∧ Ar.SlAt w B v3 x.op.lo ∧ Ar.SlAt w B v4 x.op.hi ∧ Ar.SlAt w B v5 x.op.step ∧ Ar.SlAt w B v6 x.args
theorem NodeV.below {w w' : World} {B : Nat} {val : Value} {x : AdjD.Node} (h : NodeV w B val x) (hb : Below B w w') : NodeV w' B val x := by
 obtain ⟨v1, v2, v3, v4, v5, v6, e, s1, s2, s3, s4, s5, s6⟩ := h
 exact ⟨v1, v2, v3, v4, v5, v6, e, s1.below hb, s2.below hb, s3.below hb, s4.below hb, s5.below hb, s6.below hb⟩
theorem NodeV.up {w : World} {B B' : Nat} {val : Value} {x : AdjD.Node} (h : NodeV w B val x) (hb : B ≤ B') : NodeV w B' val x := by
 obtain ⟨v1, v2, v3, v4, v5, v6, e, s1, s2, s3, s4, s5, s6⟩ := h
 exact ⟨v1, v2, v3, v4, v5, v6, e, s1.up hb, s2.up hb, s3.up hb, s4.up hb, s5.up hb, s6.up hb⟩
def GraphAt (w : World) (B : Nat) (val : Value) (g : AdjD.Graph) : Prop := ∃ A c vo, val = .agg #[.slice A g.nodes.length c, vo] ∧ NodesAt w B A g.nodes ∧ g.nodes.length ≤ c ∧ c ≤ 9223372036854775807 ∧ Ar.SlAt w B vo g.outs
theorem GraphAt.below {w w' : World} {B : Nat} {val : Value} {g : AdjD.Graph} (h : GraphAt w B val g) (hb : Below B w w') : GraphAt w' B val g := by
 obtain ⟨A, c, vo, e, h1, h2, h3, h4⟩ := h
 exact ⟨A, c, vo, e, h1.below hb, h2, h3, h4.below hb⟩
theorem GraphAt.up {w : World} {B B' : Nat} {val : Value} {g : AdjD.Graph} (h : GraphAt w B val g) (hb : B ≤ B') : GraphAt w B' val g := by
 obtain ⟨A, c, vo, e, h1, h2, h3, h4⟩ := h
 exact ⟨A, c, vo, e, h1.up hb, h2, h3, h4.up hb⟩
end Gr
set_option maxRecDepth 100000 in
theorem Gr.ask_any (k : Int) (v1 v2 v3 v4 v5 vv va : Value) (w : World) :
    Calls Try.prog 18 #[.agg #[.int .i64 k, v1, v2, v3, v4, v5, vv, va]] w fun e w' => e = .returned (.bool (k != 1)) ∧ Below w.heap.size w w' := by
 have HB := Lib.hid (fun o => (Below.refl w.heap.size w).alloc (Nat.le_refl _) o)
 go_enter Try.func18, Try.ntmps18
 go_wp2_with fail
 go_ret
 exact ⟨rfl, HB.out _⟩
set_option maxRecDepth 100000 in
set_option maxHeartbeats 4000000 in
theorem Gr.index_any (A : Option Addr) (c : Nat) (ns : List AdjD.Node) (B : Nat) (w : World) (hB : B ≤ w.heap.size) (hn : ns.length ≤ c) (hc : c ≤ 9223372036854775807) (h : Gr.NodesAt w B A ns) :
    Calls Try.prog 17 #[.slice A ns.length c, .func (.func 18) #[] #[]] w fun e w' => e = .returned (.int .i64 (if AdjD.params ns = ns.length then -1 else (AdjD.params ns : Int))) ∧ Below w.heap.size w w' := by
 have HN := Lib.hid (fun W (hb : Below w.heap.size w W) => h.below (hb.mono hB))
 have HB0 := Lib.hid (Below.refl w.heap.size w)
 have HAT := Lib.hid (AdjD.params_at ns)
 have HLE := Lib.hid (AdjD.params_le ns)
 have hcf : ∀ (args : Array Value) (W : World), (callFunc 18 args).run Try.prog W = .ok (.enter 18 args) W := fun _ _ => rfl
 obtain ⟨R, hR⟩ : ∃ R : Int, (if AdjD.params ns = ns.length then (-1 : Int) else (AdjD.params ns : Int)) = R := ⟨_, rfl⟩
 rw [hR]
 obtain ⟨n, hnn⟩ : ∃ n, ns.length = n := ⟨_, rfl⟩
 have HL := Lib.hid hnn
 rw [hnn] at hn hR ⊢
 have HR := Lib.hid hR
 clear h hnn hR
 go_enter Try.func17, Try.ntmps17
 go_wp2_with fail
 go_loopw [8] (fun kv wr => ∃ k : Nat, kv = .int .i64 (k : Int) ∧ k ≤ n ∧ (∀ j (hj : j < ns.length), j < k → ns[j].op.kind = 1) ∧ Below w.heap.size w wr) (fun kv _ => n - (intOf kv).toNat)
 case atStart => exact ⟨0, rfl, by omega, fun j _ h => by omega, HB0.out⟩
 case round =>
  obtain ⟨k, rfl, hk, hall, hb⟩ := hrel
  have HAL := Lib.hid hall
  have HB := Lib.hid hb
  clear hall hb
  by_cases hkn : k < n
  ·have hkl : k < ns.length := by have := HL.out; omega
   obtain ⟨b, off, rfl, hbb, hc2⟩ := HN.out wr HB.out (by omega)
   obtain ⟨v1, v2, v3, v4, v5, v6, ⟨y0, y1, y2, y3, y4, y5, y6, y7⟩, _⟩ := hc2 k hkl
   have HP := Lib.hid (show ns[k].op.kind ≠ 1 → AdjD.params ns = k from fun h => HAT.out k (HAL.out) (.inr ⟨hkl, h⟩))
   have HNX := Lib.hid (show ns[k].op.kind = 1 → ∀ j (hj : j < ns.length), j < k + 1 → ns[j].op.kind = 1 from fun h j hj hjk => by
    by_cases e : j = k
    ·subst e; exact h
    ·exact HAL.out j hj (by omega))
   have i1 : (0 : Int) ≤ (k : Int) := by omega
   have i2 : (k : Int) < (n : Int) := by omega
   clear hc2
   generalize ns[k].op.kind = kd at y0 HP HNX
   generalize ns[k].op.value = vl at y6
   have HASK := Lib.hid (fun W => Gr.ask_any kd v1 v2 v3 v4 v5 (.int .i64 vl) v6 W)
   by_cases hkd : kd = 1
   ·have HX := Lib.hid (HNX.out hkd)
    subst hkd
    go_wp2_with fail
    ((with_reducible refine (HASK.out _).mono ?_); rintro e w3 ⟨rfl, hb3⟩)
    have HB3 := Lib.hid (HB.out.trans (hb3.mono HB.out.size))
    clear hb3
    go_wp2_with fail
    go_roundw
    case rel => exact ⟨k + 1, by go_num, by omega, HX.out, HB3.out⟩
    case measure => simp [intOf]; omega
   ·have HX := Lib.hid (HP.out hkd)
    have hq : (kd != 1) = true := by simpa using hkd
    clear hkd
    go_wp2_with fail
    ((with_reducible refine (HASK.out _).mono ?_); rintro e w3 ⟨rfl, hb3⟩)
    have HB3 := Lib.hid (HB.out.trans (hb3.mono HB.out.size))
    clear hb3
    go_wp2_with fail
    go_ret
    have e : R = (k : Int) := by rw [← HR.out, HX.out, if_neg (by omega)]
    exact ⟨by rw [e]; rfl, HB3.out⟩
  ·obtain rfl : k = n := by omega
   have HX := Lib.hid (show AdjD.params ns = k from HAT.out k HAL.out (.inl HL.out.symm))
   go_wp2_with fail
   go_ret
   have e : R = -1 := by rw [← HR.out, HX.out, if_pos rfl]
   exact ⟨by rw [e]; rfl, HB.out⟩
set_option maxRecDepth 100000 in
set_option maxHeartbeats 4000000 in
theorem Gr.params_any (val : Value) (g : AdjD.Graph) (B : Nat) (w : World) (hB : B ≤ w.heap.size) (h : Gr.GraphAt w B val g) :
    Calls Try.prog 8 #[val] w fun e w' => e = .returned (.int .i64 (AdjD.params g.nodes : Int)) ∧ Below w.heap.size w w' := by
 obtain ⟨A, c, vo, rfl, hns, hn, hc, _⟩ := h
 have HLE := Lib.hid (AdjD.params_le g.nodes)
 have HX := Lib.hid (Blk.new w 25 #[.slice A g.nodes.length c, vo])
 have HB := Lib.hid ((Below.refl w.heap.size w).alloc (Nat.le_refl _) (.cells #[.slice A g.nodes.length c, vo] 25))
 obtain ⟨w0, hw0⟩ : ∃ w0, w.alloc (.cells #[.slice A g.nodes.length c, vo] 25) = w0 := ⟨_, rfl⟩
 rw [hw0] at HX HB
 have HI := Lib.hid (Gr.index_any A c g.nodes B w0 (Nat.le_trans hB HB.out.size) hn hc (hns.below (HB.out.mono hB)))
 have x0 : w0.cell? ⟨w.heap.size, 0, none⟩ = some (.slice A g.nodes.length c) := HX.out.cell 0
 clear hns
 obtain ⟨p, hp⟩ : ∃ p, AdjD.params g.nodes = p := ⟨_, rfl⟩
 rw [hp] at HI HLE ⊢
 clear hp
 by_cases hpn : p = g.nodes.length
 ·rw [if_pos hpn] at HI
  have HPN := Lib.hid hpn
  clear hpn
  go_enter Try.func8, Try.ntmps8
  go_wp2_with fail
  ((with_reducible refine HI.out.mono ?_); rintro e w1 ⟨rfl, hb1⟩)
  have HB1 := Lib.hid (HB.out.trans (hb1.mono HB.out.size))
  have y0 : w1.cell? ⟨w.heap.size, 0, none⟩ = some (.slice A g.nodes.length c) := (HX.out.below hb1 HX.out.lt).cell 0
  clear hb1 x0
  go_wp2_with fail
  go_ret
  exact ⟨by rw [HPN.out]; rfl, HB1.out⟩
 ·rw [if_neg hpn] at HI
  clear hpn
  go_enter Try.func8, Try.ntmps8
  go_wp2_with fail
  ((with_reducible refine HI.out.mono ?_); rintro e w1 ⟨rfl, hb1⟩)
  have HB1 := Lib.hid (HB.out.trans (hb1.mono HB.out.size))
  have hp0 : (0 : Int) ≤ (p : Int) := by omega
  clear hb1 x0
  go_wp2_with fail
  go_ret
  exact ⟨rfl, HB1.out⟩
end Go.Proofs.Ytapedmpbkffopaa
end
