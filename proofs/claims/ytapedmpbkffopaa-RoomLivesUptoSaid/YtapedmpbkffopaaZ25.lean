/-
  The walk of the reference's padDims; The walks of the reference's Whole and viewDims. Conditions: where the theorems name them.
-/
import Derived.Test.YtapedmpbkffopaaZ02
import Derived.Test.YtapedmpbkffopaaZ13
import Derived.Test.YtapedmpbkffopaaZ16
import Derived.Test.YtapedmpbkffopaaZ23
section
namespace Go.Proofs.Ytapedmpbkffopaa
set_option linter.unusedVariables false
open Go.RowKit Adj
namespace AdjD'
def padTo (op : AdjD.Op) (d : List Int) (k : Nat) : List Int := (List.range k).map fun j => AdjD.padOne (d.getD j 0) (op.lo.getD j 0) (op.hi.getD j 0) (op.step.getD j 0)
theorem padTo_next (op : AdjD.Op) (d : List Int) (k : Nat) : padTo op d (k + 1) = padTo op d k ++ [AdjD.padOne (d.getD k 0) (op.lo.getD k 0) (op.hi.getD k 0) (op.step.getD k 0)] := by
 unfold padTo; rw [List.range_succ, List.map_append]; rfl
end AdjD'
set_option maxRecDepth 100000 in
set_option maxHeartbeats 8000000 in
theorem Ar.padDims_any (val : Value) (op : AdjD.Op) (A' : Option Addr) (cd : Nat) (d : List Int) (B : Nat) (w : World) (hB : B ≤ w.heap.size) (hd : d.length ≤ 6) (hdp : ∀ x ∈ d, 0 ≤ x ∧ x ≤ 4096) (hop : Ar.OpAt w B val op) (h2 : Vw.IntsAt w B A' d) :
    Calls Try.prog 30 #[val, .slice A' d.length cd] w fun e w' => ∃ v, e = .returned (.tuple #[v, .int .i64 (AdjD.padDims op d).2]) ∧ Ar.SlAt w' w'.heap.size v (AdjD.padDims op d).1 ∧ Below w.heap.size w w' := by
 obtain ⟨v1, v2, v3, v4, v5, rfl, _, ⟨TT, ctt, rfl, _⟩, ⟨L, cl, rfl, il, _, ml⟩, ⟨I, ci, rfl, ii, _, mi⟩, ⟨T, ct, rfl, it, _, mt⟩⟩ := hop
 have HX := Lib.hid (Blk.new w 37 #[.int .i64 op.kind, v1, .slice TT op.at_.length ctt, .slice L op.lo.length cl, .slice I op.hi.length ci, .slice T op.step.length ct, .int .i64 op.value])
 have HB := Lib.hid ((Below.refl w.heap.size w).alloc (Nat.le_refl _) (.cells #[.int .i64 op.kind, v1, .slice TT op.at_.length ctt, .slice L op.lo.length cl, .slice I op.hi.length ci, .slice T op.step.length ct, .int .i64 op.value] 37))
 have HE := Lib.hid (show AdjD.padDims op d = if op.lo.length ≠ d.length ∨ op.hi.length ≠ d.length ∨ op.step.length ≠ d.length then ([], 6) else if (List.range d.length).all (fun k => AdjD.padB (op.lo.getD k 0) (op.hi.getD k 0) (op.step.getD k 0)) then ((List.range d.length).map fun k => AdjD.padOne (d.getD k 0) (op.lo.getD k 0) (op.hi.getD k 0) (op.step.getD k 0), 0) else ([], 4) from rfl)
 have HL := Lib.hid (fun W (hb : Below w.heap.size w W) => And.intro (il.below (hb.mono hB)) (And.intro (ii.below (hb.mono hB)) (And.intro (it.below (hb.mono hB)) (h2.below (hb.mono hB)))))
 have HDP := Lib.hid hdp
 have HI := Lib.hid (info_parts Try.infoOf3)
 obtain ⟨w0, hw0⟩ : ∃ w0, w.alloc (.cells #[.int .i64 op.kind, v1, .slice TT op.at_.length ctt, .slice L op.lo.length cl, .slice I op.hi.length ci, .slice T op.step.length ct, .int .i64 op.value] 37) = w0 := ⟨_, rfl⟩
 rw [hw0] at HX HB
 have x3 : w0.cell? ⟨w.heap.size, 3, none⟩ = some (.slice L op.lo.length cl) := HX.out.cell 3
 have x4 : w0.cell? ⟨w.heap.size, 4, none⟩ = some (.slice I op.hi.length ci) := HX.out.cell 4
 have x5 : w0.cell? ⟨w.heap.size, 5, none⟩ = some (.slice T op.step.length ct) := HX.out.cell 5
 have hws : w.heap.size < w0.heap.size := HX.out.lt
 clear il ii it h2 hdp
 obtain ⟨n, hnn⟩ : ∃ n, d.length = n := ⟨_, rfl⟩
 have HN := Lib.hid hnn
 rw [hnn] at hd HE ⊢
 clear hnn
 by_cases h1 : op.lo.length = n
 ·by_cases h3 : op.hi.length = n
  ·by_cases h4 : op.step.length = n
   ·have HE2 := Lib.hid (show AdjD.padDims op d = if (List.range n).all (fun k => AdjD.padB (op.lo.getD k 0) (op.hi.getD k 0) (op.step.getD k 0)) then (AdjD'.padTo op d n, 0) else ([], 4) by
      rw [HE.out, if_neg (by omega)]; rfl)
    have HH := Lib.hid (And.intro h1 (And.intro h3 h4))
    have HBAD := Lib.hid (show ∀ k, k < n → AdjD.padB (op.lo.getD k 0) (op.hi.getD k 0) (op.step.getD k 0) = false → AdjD.padDims op d = ([], 4) from fun k hk h => by
     rw [HE2.out, if_neg]
     intro ha
     have := List.all_eq_true.1 ha k (List.mem_range.2 hk)
     rw [h] at this; cases this)
    rw [h1] at x3 hw0 HX ⊢
    rw [h3] at x4 hw0 HX ⊢
    rw [h4] at x5 hw0 HX ⊢
    clear h1 h3 h4
    have HB0 := Lib.hid (Below.refl w0.heap.size w0)
    go_enter Try.func30, Try.ntmps30
    go_wp2_with fail
    go_loopw [6, 33] (fun v kv wr => ∃ k : Nat, kv = .int .i64 (k : Int) ∧ k ≤ n ∧ (∀ j, j < k → AdjD.padB (op.lo.getD j 0) (op.hi.getD j 0) (op.step.getD j 0) = true) ∧ Below w0.heap.size w0 wr ∧ wr.ownsRow w0.heap.size 3 1 v k (ints (AdjD'.padTo op d k))) (fun _ kv _ => n - (intOf kv).toNat)
    case atStart => exact ⟨0, rfl, by omega, fun j h => by omega, HB0.out, rfl, .inl ⟨rfl, rfl⟩⟩
    case round =>
     obtain ⟨k, rfl, hk, hall, hb, hown⟩ := hrel
     have HAL := Lib.hid hall
     have HB1 := Lib.hid hb
     have HBW := Lib.hid (HB.out.trans (hb.mono (by omega)))
     have HO := Lib.hid hown
     obtain ⟨Av, cv, hv, _⟩ := Vw.own_any hown
     subst hv
     have HX1 := Lib.hid (HX.out.below hb HX.out.lt)
     have y3 : wr.cell? ⟨w.heap.size, 3, none⟩ = some (.slice L n cl) := HX1.out.cell 3
     have y4 : wr.cell? ⟨w.heap.size, 4, none⟩ = some (.slice I n ci) := HX1.out.cell 4
     have y5 : wr.cell? ⟨w.heap.size, 5, none⟩ = some (.slice T n ct) := HX1.out.cell 5
     clear hall hb hown x3 x4 x5
     by_cases hkn : k < n
     ·obtain ⟨il, ii, it, id⟩ := HL.out wr HBW.out
      obtain ⟨hh1, hh2, hh3⟩ := HH.out
      have hn4 := HN.out
      obtain ⟨bl, ol, rfl, hbl, gl⟩ := il (by omega)
      obtain ⟨bi, oi, rfl, hbi, gi⟩ := ii (by omega)
      obtain ⟨bt, ot, rfl, hbt, gt⟩ := it (by omega)
      obtain ⟨bd, od, rfl, hbd, gd⟩ := id (by omega)
      have c1 := gl k (by omega)
      have c2 := gi k (by omega)
      have c3 := gt k (by omega)
      have c4 := gd k (by omega)
      rw [← AdjD.getD_at] at c1 c2 c3 c4
      have hdk := HDP.out (d.getD k 0) (by rw [AdjD.getD_at d k (by omega)]; exact List.getElem_mem _)
      have HBK := Lib.hid (HBAD.out k hkn)
      have HALN := Lib.hid (show AdjD.padB (op.lo.getD k 0) (op.hi.getD k 0) (op.step.getD k 0) = true → ∀ j, j < k + 1 → AdjD.padB (op.lo.getD j 0) (op.hi.getD j 0) (op.step.getD j 0) = true from fun h j hj => by
       by_cases e : j = k
       ·subst e; exact h
       ·exact HAL.out j (by omega))
      have HPN := Lib.hid (AdjD'.padTo_next op d k)
      have j1 : (0 : Int) ≤ (k : Int) := by omega
      have j2 : (k : Int) < (n : Int) := by omega
      clear il ii it id gl gi gt gd hh1 hh2 hh3 hn4
      generalize op.lo.getD k 0 = lo at c1 HBK HALN HPN
      generalize op.hi.getD k 0 = hi at c2 HBK HALN HPN
      generalize op.step.getD k 0 = st at c3 HBK HALN HPN
      generalize d.getD k 0 = dk at c4 hdk HPN
      by_cases b1 : lo < 0
      ·have HV := Lib.hid (HBK.out (by unfold AdjD.padB; simp; omega))
       go_wp2_with fail
       go_ret2
       rw [HV.out]
       exact ⟨_, rfl, Ar.SlAt.nil _ _, HBW.out⟩
      by_cases b2 : 4096 < lo
      ·have HV := Lib.hid (HBK.out (by unfold AdjD.padB; simp; omega))
       go_wp2_with fail
       go_ret2
       rw [HV.out]
       exact ⟨_, rfl, Ar.SlAt.nil _ _, HBW.out⟩
      by_cases b3 : hi < 0
      ·have HV := Lib.hid (HBK.out (by unfold AdjD.padB; simp; omega))
       go_wp2_with fail
       go_ret2
       rw [HV.out]
       exact ⟨_, rfl, Ar.SlAt.nil _ _, HBW.out⟩
      by_cases b4 : 4096 < hi
      ·have HV := Lib.hid (HBK.out (by unfold AdjD.padB; simp; omega))
       go_wp2_with fail
       go_ret2
       rw [HV.out]
       exact ⟨_, rfl, Ar.SlAt.nil _ _, HBW.out⟩
      by_cases b5 : st < 1
      ·have HV := Lib.hid (HBK.out (by unfold AdjD.padB; simp; omega))
       go_wp2_with fail
       go_ret2
       rw [HV.out]
       exact ⟨_, rfl, Ar.SlAt.nil _ _, HBW.out⟩
      by_cases b6 : 4096 < st
      ·have HV := Lib.hid (HBK.out (by unfold AdjD.padB; simp; omega))
       go_wp2_with fail
       go_ret2
       rw [HV.out]
       exact ⟨_, rfl, Ar.SlAt.nil _ _, HBW.out⟩
      have HALN2 := Lib.hid (HALN.out (by unfold AdjD.padB; simp; omega))
      obtain ⟨pn, hpn⟩ : ∃ l, AdjD'.padTo op d (k + 1) = l := ⟨_, rfl⟩
      have HPE := Lib.hid hpn
      rw [hpn] at HPN
      clear hpn
      generalize AdjD'.padTo op d k = pk at HO HPN
      by_cases hdk0 : 0 < dk
      ·obtain ⟨pr, hpr⟩ : ∃ pr, (dk - 1) * st = pr := ⟨_, rfl⟩
       have hb1 : 0 ≤ pr ∧ pr ≤ 16777216 := by
        have g1 := Int.mul_nonneg (show 0 ≤ dk - 1 by omega) (show 0 ≤ st by omega)
        have g2 : (dk - 1) * st ≤ 4096 * 4096 := Int.mul_le_mul (show dk - 1 ≤ 4096 by omega) (show st ≤ 4096 by omega) (by omega) (by omega)
        rw [hpr] at g1 g2
        omega
       have HNX := Lib.hid (show pn = pk ++ [lo + (pr + 1) + hi] by rw [HPN.out]; unfold AdjD.padOne; rw [if_pos hdk0, hpr])
       have qd : IntKind.i64.wrap (dk - 1) = dk - 1 := IntWalk.i64_in _ (by omega)
       have qe : IntKind.i64.wrap pr = pr := IntWalk.i64_in _ (by omega)
       have qf : IntKind.i64.wrap (pr + 1) = pr + 1 := IntWalk.i64_in _ (by omega)
       go_wp2_with fail
       refine wp_region_T (fun w' => w'.cell? ⟨bd, od + k, none⟩ = some (.int .i64 dk) ∧ w'.cell? ⟨w.heap.size, 5, none⟩ = some (.slice (some ⟨bt, ot, none⟩) n ct) ∧ w'.cell? ⟨bt, ot + k, none⟩ = some (.int .i64 st)) 12 (fun _ => True) 12 13 rfl (by kernel_rfl) ⟨⟨c4, y5, c3⟩, trivial⟩ (fun hHeld => ?_)
       simp only [List.replicate_succ, List.replicate_zero]
       refine tk (v := ?_) [] 0 87 hHeld ?_ ?_; rotate_left; (intro w h; (try dsimp only at h); go_simp; try with_reducible rfl); try simp only [Act.put, zA, zB, zC]
       refine tk (v := ?_) [] 1 88 hHeld ?_ ?_; rotate_left; (intro w h; (try dsimp only at h); go_simp; try with_reducible rfl); try simp only [Act.put, zA, zB, zC]
       refine tk (v := ?_) [] 2 89 hHeld ?_ ?_; rotate_left; (intro w h; (try dsimp only at h); go_simp; try with_reducible rfl); try simp only [Act.put, zA, zB, zC]
       refine tk (v := ?_) [] 3 90 hHeld ?_ ?_; rotate_left; (intro w h; (try dsimp only at h); go_simp; try with_reducible rfl); try simp only [Act.put, zA, zB, zC]
       refine tk (v := ?_) [] 4 91 hHeld ?_ ?_; rotate_left; (intro w h; (try dsimp only at h); go_simp; try with_reducible rfl); try simp only [Act.put, zA, zB, zC]
       refine tk (v := ?_) [] 5 92 hHeld ?_ ?_; rotate_left; (intro w h; (try dsimp only at h); go_simp; try with_reducible rfl); try simp only [Act.put, zA, zB, zC]
       refine tk (v := ?_) [] 6 93 hHeld ?_ ?_; rotate_left; (intro w h; (try dsimp only at h); go_simp; try with_reducible rfl); try simp only [Act.put, zA, zB, zC]
       refine tk (v := ?_) [] 7 94 hHeld ?_ ?_; rotate_left; (intro w h; (try dsimp only at h); go_simp; try with_reducible rfl); try simp only [Act.put, zA, zB, zC]
       refine tk (v := ?_) [] 8 95 hHeld ?_ ?_; rotate_left; (intro w h; (try dsimp only at h); go_simp; try with_reducible rfl); try simp only [Act.put, zA, zB, zC]
       refine tk (v := ?_) [] 9 96 hHeld ?_ ?_; rotate_left; (intro w h; (try dsimp only at h); go_simp; try with_reducible rfl); try simp only [Act.put, zA, zB, zC]
       refine tk (v := ?_) [] 10 97 hHeld ?_ ?_; rotate_left; (intro w h; (try dsimp only at h); go_simp; try with_reducible rfl); try simp only [Act.put, zA, zB, zC]
       refine tk (v := ?_) [] 11 98 hHeld ?_ ?_; rotate_left; (intro w h; (try dsimp only at h); go_simp; try with_reducible rfl); try simp only [Act.put, zA, zB, zC]
       refine wpT_tail [_] 12 [] rfl (by kernel_rfl) ?_
       clear hHeld
       go_wp2_with fail
       have qb : IntKind.i64.wrap (lo + (pr + 1)) = lo + (pr + 1) := IntWalk.i64_in _ (by omega)
       have qc : IntKind.i64.wrap (lo + (pr + 1) + hi) = lo + (pr + 1) + hi := IntWalk.i64_in _ (by omega)
       refine wp_region_T (fun w' => w'.cell? ⟨w.heap.size, 3, none⟩ = some (.slice (some ⟨bl, ol, none⟩) n cl) ∧ w'.cell? ⟨w.heap.size, 4, none⟩ = some (.slice (some ⟨bi, oi, none⟩) n ci) ∧ w'.cell? ⟨bl, ol + k, none⟩ = some (.int .i64 lo) ∧ w'.cell? ⟨bi, oi + k, none⟩ = some (.int .i64 hi)) 14 (fun _ => True) 14 17 rfl (by kernel_rfl) ⟨⟨y3, y4, c1, c2⟩, trivial⟩ (fun hHeld => ?_)
       simp only [List.replicate_succ, List.replicate_zero]
       refine tk (v := ?_) [2, 4, 5, 7, 13] 1 100 hHeld ?_ ?_; rotate_left; (intro w h; (try dsimp only at h); go_simp; try with_reducible rfl); try simp only [Act.put, zA, zB, zC]
       refine tk (v := ?_) [4, 5, 7, 13] 2 101 hHeld ?_ ?_; rotate_left; (intro w h; (try dsimp only at h); go_simp; try with_reducible rfl); try simp only [Act.put, zA, zB, zC]
       refine tk (v := ?_) [4, 5, 7, 13] 3 102 hHeld ?_ ?_; rotate_left; (intro w h; (try dsimp only at h); go_simp; try with_reducible rfl); try simp only [Act.put, zA, zB, zC]
       refine tk (v := ?_) [5, 7, 13] 4 103 hHeld ?_ ?_; rotate_left; (intro w h; (try dsimp only at h); go_simp; try with_reducible rfl); try simp only [Act.put, zA, zB, zC]
       refine tk (v := ?_) [7, 13] 5 104 hHeld ?_ ?_; rotate_left; (intro w h; (try dsimp only at h); go_simp; try with_reducible rfl); try simp only [Act.put, zA, zB, zC]
       refine tk (v := ?_) [7, 13] 6 105 hHeld ?_ ?_; rotate_left; (intro w h; (try dsimp only at h); go_simp; try with_reducible rfl); try simp only [Act.put, zA, zB, zC]
       refine tk (v := ?_) [13] 7 106 hHeld ?_ ?_; rotate_left; (intro w h; (try dsimp only at h); go_simp; try with_reducible rfl); try simp only [Act.put, zA, zB, zC]
       refine tk (v := ?_) [9, 11, 12, 13] 8 107 hHeld ?_ ?_; rotate_left; (intro w h; (try dsimp only at h); go_simp; try with_reducible rfl); try simp only [Act.put, zA, zB, zC]
       refine tk (v := ?_) [11, 12, 13] 9 108 hHeld ?_ ?_; rotate_left; (intro w h; (try dsimp only at h); go_simp; try with_reducible rfl); try simp only [Act.put, zA, zB, zC]
       refine tk (v := ?_) [11, 12, 13] 10 109 hHeld ?_ ?_; rotate_left; (intro w h; (try dsimp only at h); go_simp; try with_reducible rfl); try simp only [Act.put, zA, zB, zC]
       refine tk (v := ?_) [12, 13] 11 110 hHeld ?_ ?_; rotate_left; (intro w h; (try dsimp only at h); go_simp; try with_reducible rfl); try simp only [Act.put, zA, zB, zC]
       refine tk (v := ?_) [13] 12 111 hHeld ?_ ?_; rotate_left; (intro w h; (try dsimp only at h); go_simp; try with_reducible rfl); try simp only [Act.put, zA, zB, zC]
       refine tk (v := ?_) [] 13 112 hHeld ?_ ?_; rotate_left; (intro w h; (try dsimp only at h); go_simp; try with_reducible rfl); try simp only [Act.put, zA, zB, zC]
       refine tp (v := ?_) 0 99 ⟨fun _ => hHeld.1, fun _ => hHeld.2⟩ ?_ ?_; rotate_left; (intro w; go_simp; try with_reducible rfl); try simp only [Act.put, zA, zB, zC]
       have HBq := Lib.hid (show Below w0.heap.size w0 (wr.drew).drew from HB1.out.drew.drew)
       have HOq := Lib.hid (show (wr.drew).drew.ownsRow w0.heap.size 3 1 (.slice Av k cv) k (ints pk) from HO.out)
       clear hHeld
       generalize (wr.drew).drew = wq at HBq HOq ⊢
       obtain ⟨i0, g1, g2, g3, g4⟩ := HI.out
       have hwq : w0.heap.size ≤ wq.heap.size := HBq.out.size
       refine wpT_one 14 (by kernel_rfl) (stepT_late rfl rfl (by kernel_rfl) (fun K hK => ?_))
       go_simp
       refine hK.out _ _ trivial (fun hHeld => ?_)
       clear hK K hHeld
       try simp only [zA, zB, zC]
       have HN8 := Lib.hid (Blk.new wq 3 #[.int .i64 (lo + (pr + 1) + hi)])
       have HO8 := Lib.hid (HOq.out.alloc (.cells #[.int .i64 (lo + (pr + 1) + hi)] 3))
       have HB8 := Lib.hid (HBq.out.alloc hwq (.cells #[.int .i64 (lo + (pr + 1) + hi)] 3))
       have hs8 : w0.heap.size ≤ (wq.alloc (.cells #[.int .i64 (lo + (pr + 1) + hi)] 3)).heap.size := by simp; omega
       generalize wq.alloc (.cells #[.int .i64 (lo + (pr + 1) + hi)] 3) = w8 at HN8 HO8 HB8 hs8 ⊢
       refine wpT_one 15 (by kernel_rfl) (stepT_late rfl rfl (by kernel_rfl) (fun K hK => ?_))
       refine wp_append_any w8 _ _ 23 rfl w0.heap.size 3 i0 (.int .i64 0) 1 8 Try.underlying23 g1 g2 g3 g4 rfl (by decide) (.slice Av k cv) k (ints pk) rfl HO8.out _ (some ⟨wq.heap.size, 0, none⟩) 1 1 [.int .i64 (lo + (pr + 1) + hi)] rfl (Ar.reads_cells HN8.out rfl) (by intro u hu; simp at hu; subst hu; rfl) (by unfold maxLen; omega) (by omega) hs8 ?_
       intro v' w6 how hgr _
       refine hK.out _ _ trivial (fun hHeld => ?_)
       clear hK K hHeld
       try simp only [Act.put, zA, zB, zC]
       refine wpT_tail [_] 16 [] rfl (by kernel_rfl) ?_
       have HBZ := Lib.hid (HB8.out.grown hgr hs8 (fun g hg => (HO8.out.lt g hg).1))
       have HO6 := Lib.hid (show w6.ownsRow w0.heap.size 3 1 v' (k + 1) (ints pn) by rw [HNX.out, Vw.ints_snoc]; exact how)
       clear how hgr
       go_wp2_with fail
       go_roundw
       case rel => exact ⟨k + 1, by go_num, by omega, HALN2.out, HBZ.out, by rw [HPE.out]; exact HO6.out⟩
       case measure => simp [intOf]; omega
      ·have HNX := Lib.hid (show pn = pk ++ [lo + hi] by rw [HPN.out]; unfold AdjD.padOne; rw [if_neg hdk0, Int.add_zero])
       go_wp2_with fail
       have qb : IntKind.i64.wrap lo = lo := IntWalk.i64_in _ (by omega)
       have qc : IntKind.i64.wrap (lo + hi) = lo + hi := IntWalk.i64_in _ (by omega)
       refine wp_region_T (fun w' => w'.cell? ⟨w.heap.size, 3, none⟩ = some (.slice (some ⟨bl, ol, none⟩) n cl) ∧ w'.cell? ⟨w.heap.size, 4, none⟩ = some (.slice (some ⟨bi, oi, none⟩) n ci) ∧ w'.cell? ⟨bl, ol + k, none⟩ = some (.int .i64 lo) ∧ w'.cell? ⟨bi, oi + k, none⟩ = some (.int .i64 hi)) 14 (fun _ => True) 14 17 rfl (by kernel_rfl) ⟨⟨y3, y4, c1, c2⟩, trivial⟩ (fun hHeld => ?_)
       simp only [List.replicate_succ, List.replicate_zero]
       refine tk (v := ?_) [2, 4, 5, 7, 13] 1 100 hHeld ?_ ?_; rotate_left; (intro w h; (try dsimp only at h); go_simp; try with_reducible rfl); try simp only [Act.put, zA, zB, zC]
       refine tk (v := ?_) [4, 5, 7, 13] 2 101 hHeld ?_ ?_; rotate_left; (intro w h; (try dsimp only at h); go_simp; try with_reducible rfl); try simp only [Act.put, zA, zB, zC]
       refine tk (v := ?_) [4, 5, 7, 13] 3 102 hHeld ?_ ?_; rotate_left; (intro w h; (try dsimp only at h); go_simp; try with_reducible rfl); try simp only [Act.put, zA, zB, zC]
       refine tk (v := ?_) [5, 7, 13] 4 103 hHeld ?_ ?_; rotate_left; (intro w h; (try dsimp only at h); go_simp; try with_reducible rfl); try simp only [Act.put, zA, zB, zC]
       refine tk (v := ?_) [7, 13] 5 104 hHeld ?_ ?_; rotate_left; (intro w h; (try dsimp only at h); go_simp; try with_reducible rfl); try simp only [Act.put, zA, zB, zC]
       refine tk (v := ?_) [7, 13] 6 105 hHeld ?_ ?_; rotate_left; (intro w h; (try dsimp only at h); go_simp; try with_reducible rfl); try simp only [Act.put, zA, zB, zC]
       refine tk (v := ?_) [13] 7 106 hHeld ?_ ?_; rotate_left; (intro w h; (try dsimp only at h); go_simp; try with_reducible rfl); try simp only [Act.put, zA, zB, zC]
       refine tk (v := ?_) [9, 11, 12, 13] 8 107 hHeld ?_ ?_; rotate_left; (intro w h; (try dsimp only at h); go_simp; try with_reducible rfl); try simp only [Act.put, zA, zB, zC]
       refine tk (v := ?_) [11, 12, 13] 9 108 hHeld ?_ ?_; rotate_left; (intro w h; (try dsimp only at h); go_simp; try with_reducible rfl); try simp only [Act.put, zA, zB, zC]
       refine tk (v := ?_) [11, 12, 13] 10 109 hHeld ?_ ?_; rotate_left; (intro w h; (try dsimp only at h); go_simp; try with_reducible rfl); try simp only [Act.put, zA, zB, zC]
       refine tk (v := ?_) [12, 13] 11 110 hHeld ?_ ?_; rotate_left; (intro w h; (try dsimp only at h); go_simp; try with_reducible rfl); try simp only [Act.put, zA, zB, zC]
       refine tk (v := ?_) [13] 12 111 hHeld ?_ ?_; rotate_left; (intro w h; (try dsimp only at h); go_simp; try with_reducible rfl); try simp only [Act.put, zA, zB, zC]
       refine tk (v := ?_) [] 13 112 hHeld ?_ ?_; rotate_left; (intro w h; (try dsimp only at h); go_simp; try with_reducible rfl); try simp only [Act.put, zA, zB, zC]
       refine tp (v := ?_) 0 99 ⟨fun _ => hHeld.1, fun _ => hHeld.2⟩ ?_ ?_; rotate_left; (intro w; go_simp; try with_reducible rfl); try simp only [Act.put, zA, zB, zC]
       have HBq := Lib.hid (show Below w0.heap.size w0 (wr).drew from HB1.out.drew)
       have HOq := Lib.hid (show (wr).drew.ownsRow w0.heap.size 3 1 (.slice Av k cv) k (ints pk) from HO.out)
       clear hHeld
       generalize (wr).drew = wq at HBq HOq ⊢
       obtain ⟨i0, g1, g2, g3, g4⟩ := HI.out
       have hwq : w0.heap.size ≤ wq.heap.size := HBq.out.size
       refine wpT_one 14 (by kernel_rfl) (stepT_late rfl rfl (by kernel_rfl) (fun K hK => ?_))
       go_simp
       refine hK.out _ _ trivial (fun hHeld => ?_)
       clear hK K hHeld
       try simp only [zA, zB, zC]
       have HN8 := Lib.hid (Blk.new wq 3 #[.int .i64 (lo + hi)])
       have HO8 := Lib.hid (HOq.out.alloc (.cells #[.int .i64 (lo + hi)] 3))
       have HB8 := Lib.hid (HBq.out.alloc hwq (.cells #[.int .i64 (lo + hi)] 3))
       have hs8 : w0.heap.size ≤ (wq.alloc (.cells #[.int .i64 (lo + hi)] 3)).heap.size := by simp; omega
       generalize wq.alloc (.cells #[.int .i64 (lo + hi)] 3) = w8 at HN8 HO8 HB8 hs8 ⊢
       refine wpT_one 15 (by kernel_rfl) (stepT_late rfl rfl (by kernel_rfl) (fun K hK => ?_))
       refine wp_append_any w8 _ _ 23 rfl w0.heap.size 3 i0 (.int .i64 0) 1 8 Try.underlying23 g1 g2 g3 g4 rfl (by decide) (.slice Av k cv) k (ints pk) rfl HO8.out _ (some ⟨wq.heap.size, 0, none⟩) 1 1 [.int .i64 (lo + hi)] rfl (Ar.reads_cells HN8.out rfl) (by intro u hu; simp at hu; subst hu; rfl) (by unfold maxLen; omega) (by omega) hs8 ?_
       intro v' w6 how hgr _
       refine hK.out _ _ trivial (fun hHeld => ?_)
       clear hK K hHeld
       try simp only [Act.put, zA, zB, zC]
       refine wpT_tail [_] 16 [] rfl (by kernel_rfl) ?_
       have HBZ := Lib.hid (HB8.out.grown hgr hs8 (fun g hg => (HO8.out.lt g hg).1))
       have HO6 := Lib.hid (show w6.ownsRow w0.heap.size 3 1 v' (k + 1) (ints pn) by rw [HNX.out, Vw.ints_snoc]; exact how)
       clear how hgr
       go_wp2_with fail
       go_roundw
       case rel => exact ⟨k + 1, by go_num, by omega, HALN2.out, HBZ.out, by rw [HPE.out]; exact HO6.out⟩
       case measure => simp [intOf]; omega
     ·obtain rfl : k = n := by omega
      have HV := Lib.hid (show AdjD.padDims op d = (AdjD'.padTo op d k, 0) by
       rw [HE2.out, if_pos]
       exact List.all_eq_true.2 (fun j hj => HAL.out j (List.mem_range.1 hj)))
      have HSL := Lib.hid (Ar.sl_own HO.out)
      go_wp2_with fail
      go_ret2
      rw [HV.out]
      exact ⟨_, rfl, HSL.out, HBW.out⟩
   ·have HV := Lib.hid (show AdjD.padDims op d = ([], 6) by rw [HE.out, if_pos (by omega)])
    have q : ((op.step.length : Int) != (n : Int)) = true := by rw [bne_iff_ne]; omega
    rw [h1] at x3 hw0 HX ⊢
    rw [h3] at x4 hw0 HX ⊢
    clear h1 h3 h4
    go_enter Try.func30, Try.ntmps30
    go_wp2_with fail
    go_ret2
    rw [HV.out]
    exact ⟨_, rfl, Ar.SlAt.nil _ _, HB.out⟩
  ·have HV := Lib.hid (show AdjD.padDims op d = ([], 6) by rw [HE.out, if_pos (by omega)])
   have q : ((op.hi.length : Int) != (n : Int)) = true := by rw [bne_iff_ne]; omega
   rw [h1] at x3 hw0 HX ⊢
   clear h1 h3
   go_enter Try.func30, Try.ntmps30
   go_wp2_with fail
   go_ret2
   rw [HV.out]
   exact ⟨_, rfl, Ar.SlAt.nil _ _, HB.out⟩
 ·have HV := Lib.hid (show AdjD.padDims op d = ([], 6) by rw [HE.out, if_pos (by omega)])
  have q : ((op.lo.length : Int) != (n : Int)) = true := by rw [bne_iff_ne]; omega
  clear h1
  go_enter Try.func30, Try.ntmps30
  go_wp2_with fail
  go_ret2
  rw [HV.out]
  exact ⟨_, rfl, Ar.SlAt.nil _ _, HB.out⟩
end Go.Proofs.Ytapedmpbkffopaa
end
section
namespace Go.Proofs.Ytapedmpbkffopaa
set_option linter.unusedVariables false
open Go.RowKit Adj
set_option maxHeartbeats 4000000 in
theorem refWhole_any (DA : Option Addr) (cdi : Nat) (l : List Int) (B : Nat) (w : World) (hB : B ≤ w.heap.size) (hdi : Vw.IntsAt w B DA l) (md : l.length ≤ cdi) (md2 : cdi ≤ 9223372036854775807) :
    Calls Try.prog 45 #[.slice DA l.length cdi] w fun e w' => Vw.ViewOut B w w' (AdjV.whole l) e ∧ Below w.heap.size w w' := by
 have HB := Lib.hid ((Below.refl w.heap.size w).alloc (Nat.le_refl _) (.cells #[.int .i64 0, .slice none 0 0, .slice none 0 0] 68))
 have hbx := Blk.new w 68 #[.int .i64 0, .slice none 0 0, .slice none 0 0]
 have HSZ := Lib.hid (refSize_any DA cdi l B _ (by omega) (hdi.below (HB.out.mono hB)))
 have hws : (w.alloc (.cells #[.int .i64 0, .slice none 0 0, .slice none 0 0] 68)).heap.size = w.heap.size + 1 := by simp
 have HD := Lib.hid (fun W (hb : Below w.heap.size w W) => hdi.below (hb.mono hB))
 by_cases h0 : (AdjV.size l).2 = 0
 ·have hR : Vw.sizeR l = .tuple #[.int .i64 (AdjV.size l).1, .int .i64 0] := by unfold Vw.sizeR; rw [h0]
  have HR := Lib.hid hR
  have hT : AdjV.whole l = (⟨0, l, AdjV.steps l⟩, 0) := by unfold AdjV.whole; rw [if_neg (by simp [h0])]
  have HT := Lib.hid hT
  have HST := Lib.hid (Steps_any DA cdi l B _ md md2 h0 (hdi.below (HB.out.mono hB)) (Nat.le_trans hB HB.out.size))
  have HX := Lib.hid hbx
  clear hR h0 hT hdi hbx
  go_enter Try.func45, Try.ntmps45
  go_wp2_with fail
  refine HSZ.out.mono ?_
  rintro e w1 ⟨rfl, rfl⟩
  rw [HR.out]
  go_wp2_with fail
  refine HST.out.mono ?_
  rintro e w2 ⟨v2, rfl, ho2, hb2⟩
  obtain ⟨G2, m2, rfl, hm2⟩ := Vw.own_any ho2
  have hx2 := HX.out.below hb2 HX.out.lt
  have ho2' := ho2
  rw [← AdjV.steps_length l] at ho2'
  obtain ⟨A2, n2, hv2, ia2, la2, ma2, ga2⟩ := Vw.own_view ho2'
  simp only [Value.slice.injEq] at hv2
  obtain ⟨rfl, _, rfl⟩ := hv2
  have HG := Lib.hid (And.intro ia2 (And.intro la2 (And.intro ma2 ga2)))
  have HB2 := Lib.hid (HB.out.trans (hb2.mono HB.out.size))
  have r0 : w2.cell? ⟨w.heap.size, 0, none⟩ = some (.int .i64 0) := hx2.cell 0
  have r1 : w2.cell? ⟨w.heap.size, 1, none⟩ = some (.slice none 0 0) := hx2.cell 1
  have r2 : w2.cell? ⟨w.heap.size, 2, none⟩ = some (.slice none 0 0) := hx2.cell 2
  have f0 := hx2.frozen 0
  have f1 := hx2.frozen 1
  have f2 := hx2.frozen 2
  clear ho2 ho2' hb2 hx2 ia2 la2 ma2 ga2
  go_wp2_with fail
  obtain ⟨ia2, la2, ma2, ga2⟩ := HG.out
  refine bodyPost_ret (v := .tuple #[.agg #[.int .i64 0, .slice DA l.length cdi, .slice G2 l.length m2], .int .i64 0]) (by simp [results, Try.results45, go_sem, r0, r1, r2]) rfl ⟨?_, Vw.three HB2.out (Nat.le_refl _) _ _ _⟩
  rw [HT.out]
  rw [AdjV.steps_length] at la2
  have id2 := HD.out w2 HB2.out
  have hdb : ∀ b off, DA = some ⟨b, off, none⟩ → 0 < l.length → b < B := fun b off e hp => by
   obtain ⟨b2, o2, e2, hlt, _⟩ := id2 hp
   rw [e] at e2
   injection e2 with e2
   injection e2 with e2
   omega
  have hs2 := HB2.out.size
  refine Vw.out_mk ⟨DA, cdi, G2, m2, by simp [AdjV.steps_length], ?_, ?_, md, md2, by simpa [AdjV.steps_length] using la2, ma2⟩ ?_ ?_
  ·exact (id2.set3 (fun b off e hp => by have := hdb b off e hp; omega) _ _ _).up (by simp; omega)
  ·exact (ia2.set3 (fun b off e hp => by have := ga2 b off e hp; omega) _ _ _).up (by simp)
  ·exact fun b off e hp => .inl (hdb b off e hp)
  ·exact fun b off e hp => by have := ga2 b off e hp; omega
 ·have HT := Lib.hid (show AdjV.whole l = (AdjV.none_, (AdjV.size l).2) from if_pos h0)
  have hq : ((AdjV.size l).2 != 0) = true := by simpa using h0
  clear h0 hdi hbx
  go_enter Try.func45, Try.ntmps45
  go_wp2_with fail
  refine HSZ.out.mono ?_
  rintro e w1 ⟨rfl, rfl⟩
  simp only [Vw.sizeR]
  go_wp2_with fail
  refine bodyPost_ret (v := .tuple #[.agg #[.int .i64 0, .slice none 0 0, .slice none 0 0], .int .i64 (AdjV.size l).2]) (by simp [results, Try.results45, go_sem]) rfl ⟨?_, HB.out⟩
  rw [HT.out]; exact Vw.out_none _ _ _ _
set_option maxRecDepth 100000 in
set_option maxHeartbeats 8000000 in
theorem Ar.viewDims_any (val : Value) (op : AdjD.Op) (A : Option Addr) (cd : Nat) (d : List Int) (B : Nat) (w : World) (hB : B ≤ w.heap.size) (hop : Ar.OpAt w B val op) (h2 : Vw.IntsAt w B A d) (md : d.length ≤ cd) (md2 : cd ≤ 9223372036854775807) :
    Calls Try.prog 34 #[val, .slice A d.length cd] w fun e w' => ∃ v, e = .returned (.tuple #[v, .int .i64 (AdjD.looked op d).2]) ∧ Ar.SlAt w' w'.heap.size v (AdjD.looked op d).1.dims ∧ Below w.heap.size w w' := by
 obtain ⟨v1, v2, v3, v4, v5, rfl, ⟨D, cD, rfl, iD, lD, mD⟩, ⟨T, ct, rfl, it, lt, mt⟩, ⟨O, co, rfl, io, lo, mo⟩, ⟨I, ci, rfl, ii, li, mi⟩, ⟨S, cs, rfl, is, ls, ms⟩⟩ := hop
 have HL := Lib.hid (fun W (hb : Below w.heap.size w W) => And.intro ((iD.below (hb.mono hB)).up (Nat.le_trans hB hb.size)) (And.intro ((it.below (hb.mono hB)).up (Nat.le_trans hB hb.size)) (And.intro ((io.below (hb.mono hB)).up (Nat.le_trans hB hb.size)) (And.intro ((ii.below (hb.mono hB)).up (Nat.le_trans hB hb.size)) ((is.below (hb.mono hB)).up (Nat.le_trans hB hb.size))))))
 have HM := Lib.hid (show (op.dims.length ≤ cD ∧ cD ≤ 9223372036854775807) ∧ (op.at_.length ≤ ct ∧ ct ≤ 9223372036854775807) ∧ (op.lo.length ≤ co ∧ co ≤ 9223372036854775807) ∧ (op.hi.length ≤ ci ∧ ci ≤ 9223372036854775807) ∧ (op.step.length ≤ cs ∧ cs ≤ 9223372036854775807) from ⟨⟨lD, mD⟩, ⟨lt, mt⟩, ⟨lo, mo⟩, ⟨li, mi⟩, ls, ms⟩)
 have HX := Lib.hid (Blk.new w 37 #[.int .i64 op.kind, .slice D op.dims.length cD, .slice T op.at_.length ct, .slice O op.lo.length co, .slice I op.hi.length ci, .slice S op.step.length cs, .int .i64 op.value])
 have HB := Lib.hid ((Below.refl w.heap.size w).alloc (Nat.le_refl _) (.cells #[.int .i64 op.kind, .slice D op.dims.length cD, .slice T op.at_.length ct, .slice O op.lo.length co, .slice I op.hi.length ci, .slice S op.step.length cs, .int .i64 op.value] 37))
 obtain ⟨w0, hw0⟩ : ∃ w0, w.alloc (.cells #[.int .i64 op.kind, .slice D op.dims.length cD, .slice T op.at_.length ct, .slice O op.lo.length co, .slice I op.hi.length ci, .slice S op.step.length cs, .int .i64 op.value] 37) = w0 := ⟨_, rfl⟩
 have hz0 : w0.heap.size = w.heap.size + 1 := by rw [← hw0]; simp
 rw [hw0] at HX HB
 have HW := Lib.hid (refWhole_any A cd d B w0 (by omega) (h2.below (HB.out.mono hB)) md md2)
 clear iD it io ii is lD mD lt mt lo mo li mi ls ms h2
 go_enter Try.func34, Try.ntmps34
 go_wp2_with fail
 ((with_reducible refine HW.out.mono ?_); rintro e w1 ⟨⟨val1, rfl, hv1, ha1⟩, hb1⟩)
 obtain ⟨W1, n1, W2, n2, rfl, iw1, iw2, lw1, mw1, lw2, mw2⟩ := hv1
 have HV1 := Lib.hid (show Vw.ViewAt w1 w1.heap.size (.agg #[.int .i64 (AdjV.whole d).1.st, .slice W1 (AdjV.whole d).1.dims.length n1, .slice W2 (AdjV.whole d).1.steps.length n2]) (AdjV.whole d).1 from ⟨W1, n1, W2, n2, rfl, iw1, iw2, lw1, mw1, lw2, mw2⟩)
 have HB1 := Lib.hid (HB.out.trans (hb1.mono HB.out.size))
 have HX1 := Lib.hid (HX.out.below hb1 HX.out.lt)
 have hs1 : w.heap.size + 1 ≤ w1.heap.size := by rw [← hz0]; exact hb1.size
 clear iw1 iw2 lw1 mw1 lw2 mw2 ha1 hb1
 by_cases h0 : (AdjV.size d).2 = 0
 ·have H0 := Lib.hid h0
  have e0 := (AdjD'.whole_fine h0).2
  rw [e0]
  clear h0 e0
  obtain ⟨V0, hV0⟩ : ∃ V0, (AdjV.whole d).1 = V0 := ⟨_, rfl⟩
  rw [hV0] at HV1 ⊢
  have HBs := Lib.hid ((Below.refl w1.heap.size w1).alloc (Nat.le_refl _) (.cells #[.int .i64 V0.st, .slice W1 V0.dims.length n1, .slice W2 V0.steps.length n2] 68))
  have HX2 := HX1.out.alloc (.cells #[.int .i64 V0.st, .slice W1 V0.dims.length n1, .slice W2 V0.steps.length n2] 68)
  have hN2 := Blk.new w1 68 #[.int .i64 V0.st, .slice W1 V0.dims.length n1, .slice W2 V0.steps.length n2]
  have hs2 : (w1.alloc (.cells #[.int .i64 V0.st, .slice W1 V0.dims.length n1, .slice W2 V0.steps.length n2] 68)).heap.size = w1.heap.size + 1 := by simp
  obtain ⟨w2, hw2⟩ : ∃ w2, w1.alloc (.cells #[.int .i64 V0.st, .slice W1 V0.dims.length n1, .slice W2 V0.steps.length n2] 68) = w2 := ⟨_, rfl⟩
  obtain ⟨P, hP⟩ : ∃ P, w1.heap.size = P := ⟨_, rfl⟩
  rw [hw2] at HBs hs2 HX2 hN2
  rw [hP] at hN2 hs2 hs1 HV1
  have HN2 := Lib.hid hN2
  have HBs2 := HBs.out
  rw [hP] at HBs2
  have HB2 := Lib.hid (HB1.out.trans (HBs2.mono (by omega)))
  have HV2 := Lib.hid (HV1.out.below HBs2)
  have hPw : P ≤ w2.heap.size := by omega
  obtain ⟨L1, L2, L3, L4, L5⟩ := HL.out w1 HB1.out
  rw [hP] at L1 L2 L3 L4 L5
  have L1 := L1.below HBs2
  have L2 := L2.below HBs2
  have L3 := L3.below HBs2
  have L4 := L4.below HBs2
  have L5 := L5.below HBs2
  obtain ⟨⟨a1, a2⟩, ⟨a3, a4⟩, ⟨a5, a6⟩, ⟨a7, a8⟩, a9, a10⟩ := HM.out
  have x0 : w2.cell? ⟨w.heap.size, 0, none⟩ = some (.int .i64 op.kind) := HX2.cell 0
  have x1 : w2.cell? ⟨w.heap.size, 1, none⟩ = some (.slice D op.dims.length cD) := HX2.cell 1
  have x2 : w2.cell? ⟨w.heap.size, 2, none⟩ = some (.slice T op.at_.length ct) := HX2.cell 2
  have x3 : w2.cell? ⟨w.heap.size, 3, none⟩ = some (.slice O op.lo.length co) := HX2.cell 3
  have x4 : w2.cell? ⟨w.heap.size, 4, none⟩ = some (.slice I op.hi.length ci) := HX2.cell 4
  have x5 : w2.cell? ⟨w.heap.size, 5, none⟩ = some (.slice S op.step.length cs) := HX2.cell 5
  have z0 : w2.cell? ⟨P, 0, none⟩ = some (.int .i64 V0.st) := hN2.cell 0
  have z1 : w2.cell? ⟨P, 1, none⟩ = some (.slice W1 V0.dims.length n1) := hN2.cell 1
  have z2 : w2.cell? ⟨P, 2, none⟩ = some (.slice W2 V0.steps.length n2) := hN2.cell 2
  rw [← hw2, ← hP] at z0 z1 z2
  rw [← hw2] at x0 x1 x2 x3 x4 x5
  have HS9 := Lib.hid (refSpread_any _ V0 D T cD ct op.dims op.at_ P w2 hPw HV2.out L1 L2 a1 a2 a3 a4)
  have HS11 := Lib.hid (refTurn_any _ V0 T ct op.at_ P w2 hPw HV2.out L2 a3 a4)
  have HS13 := Lib.hid (refCut_any _ V0 O I S co ci cs op.lo op.hi op.step P w2 hPw HV2.out L3 L4 L5 a5 a6 a7 a8 a9 a10)
  have HS15 := Lib.hid (refFlip_any _ V0 T ct op.at_ P w2 hPw HV2.out L2 a3 a4)
  have HV := Lib.hid hV0
  have HW2 := Lib.hid hw2
  have HPP := Lib.hid hP
  clear L1 L2 L3 L4 L5 a1 a2 a3 a4 a5 a6 a7 a8 a9 a10 hV0 HL HM hw2 hN2 HX2 HBs2
  by_cases k9 : op.kind = 9
  ·have HLK := Lib.hid (show AdjD.looked op d = (AdjV.spread V0 op.dims op.at_) by rw [← HV.out]; unfold AdjD.looked; rw [if_neg (by simp [H0.out])]; simp [k9])
   rw [k9] at x0
   clear k9 HS11 HS13 HS15
   obtain ⟨R, hR⟩ : ∃ R, (AdjV.spread V0 op.dims op.at_) = R := ⟨_, rfl⟩
   rw [hR] at HLK HS9
   clear hR
   go_wp2_with fail
   rw [HW2.out]
   ((with_reducible refine HS9.out.mono ?_); rintro e w3 ⟨⟨val3, rfl, hv3, ha3⟩, hb3⟩)
   obtain ⟨G1, k1, G2, k2, rfl, ig1, ig2, lg1, mg1, lg2, mg2⟩ := hv3
   have hga := (ha3 _ _ _ _ _ _ _ rfl).1
   have HI3 := Lib.hid ig1
   have HGA := Lib.hid hga
   have hr3 := HN2.out.below hb3 HN2.out.lt
   have r0 : w3.cell? ⟨P, 0, none⟩ = some (.int .i64 V0.st) := hr3.cell 0
   have r1 : w3.cell? ⟨P, 1, none⟩ = some (.slice W1 V0.dims.length n1) := hr3.cell 1
   have r2 : w3.cell? ⟨P, 2, none⟩ = some (.slice W2 V0.steps.length n2) := hr3.cell 2
   have f0 := hr3.frozen 0
   have f1 := hr3.frozen 1
   have f2 := hr3.frozen 2
   have HB3 := Lib.hid (HB2.out.trans (hb3.mono HB2.out.size))
   have hs3 : P < w2.heap.size := HN2.out.lt
   clear ig1 ig2 lg2 mg2 ha3 hga hb3 hr3 x0 x1 x2 x3 x4 x5 z0 z1 z2
   go_wp2_with fail
   go_ret2
   rw [HLK.out]
   refine ⟨_, rfl, ⟨G1, k1, rfl, (HI3.out.set3 (c := P) (fun b off e hp => by have := HGA.out b off e hp; omega) _ _ _).up (by simp), lg1, mg1⟩, Vw.three HB3.out (by omega) _ _ _⟩
  by_cases k11 : op.kind = 11
  ·have HLK := Lib.hid (show AdjD.looked op d = (AdjV.turn V0 op.at_) by rw [← HV.out]; unfold AdjD.looked; rw [if_neg (by simp [H0.out])]; simp [k11])
   rw [k11] at x0
   clear k9 k11 HS9 HS13 HS15
   obtain ⟨R, hR⟩ : ∃ R, (AdjV.turn V0 op.at_) = R := ⟨_, rfl⟩
   rw [hR] at HLK HS11
   clear hR
   go_wp2_with fail
   rw [HW2.out]
   ((with_reducible refine HS11.out.mono ?_); rintro e w3 ⟨⟨val3, rfl, hv3, ha3⟩, hb3⟩)
   obtain ⟨G1, k1, G2, k2, rfl, ig1, ig2, lg1, mg1, lg2, mg2⟩ := hv3
   have hga := (ha3 _ _ _ _ _ _ _ rfl).1
   have HI3 := Lib.hid ig1
   have HGA := Lib.hid hga
   have hr3 := HN2.out.below hb3 HN2.out.lt
   have r0 : w3.cell? ⟨P, 0, none⟩ = some (.int .i64 V0.st) := hr3.cell 0
   have r1 : w3.cell? ⟨P, 1, none⟩ = some (.slice W1 V0.dims.length n1) := hr3.cell 1
   have r2 : w3.cell? ⟨P, 2, none⟩ = some (.slice W2 V0.steps.length n2) := hr3.cell 2
   have f0 := hr3.frozen 0
   have f1 := hr3.frozen 1
   have f2 := hr3.frozen 2
   have HB3 := Lib.hid (HB2.out.trans (hb3.mono HB2.out.size))
   have hs3 : P < w2.heap.size := HN2.out.lt
   clear ig1 ig2 lg2 mg2 ha3 hga hb3 hr3 x0 x1 x2 x3 x4 x5 z0 z1 z2
   go_wp2_with fail
   go_ret2
   rw [HLK.out]
   refine ⟨_, rfl, ⟨G1, k1, rfl, (HI3.out.set3 (c := P) (fun b off e hp => by have := HGA.out b off e hp; omega) _ _ _).up (by simp), lg1, mg1⟩, Vw.three HB3.out (by omega) _ _ _⟩
  by_cases k13 : op.kind = 13
  ·have HLK := Lib.hid (show AdjD.looked op d = (AdjV.cut V0 op.lo op.hi op.step) by rw [← HV.out]; unfold AdjD.looked; rw [if_neg (by simp [H0.out])]; simp [k13])
   rw [k13] at x0
   clear k9 k11 k13 HS9 HS11 HS15
   obtain ⟨R, hR⟩ : ∃ R, (AdjV.cut V0 op.lo op.hi op.step) = R := ⟨_, rfl⟩
   rw [hR] at HLK HS13
   clear hR
   go_wp2_with fail
   rw [HW2.out]
   ((with_reducible refine HS13.out.mono ?_); rintro e w3 ⟨⟨val3, rfl, hv3, ha3⟩, hb3⟩)
   obtain ⟨G1, k1, G2, k2, rfl, ig1, ig2, lg1, mg1, lg2, mg2⟩ := hv3
   have hga := (ha3 _ _ _ _ _ _ _ rfl).1
   have HI3 := Lib.hid ig1
   have HGA := Lib.hid hga
   have hr3 := HN2.out.below hb3 HN2.out.lt
   have r0 : w3.cell? ⟨P, 0, none⟩ = some (.int .i64 V0.st) := hr3.cell 0
   have r1 : w3.cell? ⟨P, 1, none⟩ = some (.slice W1 V0.dims.length n1) := hr3.cell 1
   have r2 : w3.cell? ⟨P, 2, none⟩ = some (.slice W2 V0.steps.length n2) := hr3.cell 2
   have f0 := hr3.frozen 0
   have f1 := hr3.frozen 1
   have f2 := hr3.frozen 2
   have HB3 := Lib.hid (HB2.out.trans (hb3.mono HB2.out.size))
   have hs3 : P < w2.heap.size := HN2.out.lt
   clear ig1 ig2 lg2 mg2 ha3 hga hb3 hr3 x0 x1 x2 x3 x4 x5 z0 z1 z2
   go_wp2_with fail
   go_ret2
   rw [HLK.out]
   refine ⟨_, rfl, ⟨G1, k1, rfl, (HI3.out.set3 (c := P) (fun b off e hp => by have := HGA.out b off e hp; omega) _ _ _).up (by simp), lg1, mg1⟩, Vw.three HB3.out (by omega) _ _ _⟩
  have q9 : (op.kind == 9) = false := by simpa using k9
  have q11 : (op.kind == 11) = false := by simpa using k11
  have q13 : (op.kind == 13) = false := by simpa using k13
  have HLK := Lib.hid (show AdjD.looked op d = AdjV.flip V0 op.at_ by unfold AdjD.looked; rw [if_neg (by simp [H0.out]), if_neg k9, if_neg k11, if_neg k13, HV.out])
  clear k9 k11 k13 HS9 HS11 HS13
  obtain ⟨R, hR⟩ : ∃ R, (AdjV.flip V0 op.at_) = R := ⟨_, rfl⟩
  rw [hR] at HLK HS15
  clear hR
  go_wp2_with fail
  rw [HW2.out]
  ((with_reducible refine HS15.out.mono ?_); rintro e w3 ⟨⟨val3, rfl, hv3, ha3⟩, hb3⟩)
  obtain ⟨G1, k1, G2, k2, rfl, ig1, ig2, lg1, mg1, lg2, mg2⟩ := hv3
  have hga := (ha3 _ _ _ _ _ _ _ rfl).1
  have HI3 := Lib.hid ig1
  have HGA := Lib.hid hga
  have hr3 := HN2.out.below hb3 HN2.out.lt
  have r0 : w3.cell? ⟨P, 0, none⟩ = some (.int .i64 V0.st) := hr3.cell 0
  have r1 : w3.cell? ⟨P, 1, none⟩ = some (.slice W1 V0.dims.length n1) := hr3.cell 1
  have r2 : w3.cell? ⟨P, 2, none⟩ = some (.slice W2 V0.steps.length n2) := hr3.cell 2
  have f0 := hr3.frozen 0
  have f1 := hr3.frozen 1
  have f2 := hr3.frozen 2
  have HB3 := Lib.hid (HB2.out.trans (hb3.mono HB2.out.size))
  have hs3 : P < w2.heap.size := HN2.out.lt
  clear ig1 ig2 lg2 mg2 ha3 hga hb3 hr3 x0 x1 x2 x3 x4 x5 z0 z1 z2
  go_wp2_with fail
  go_ret2
  rw [HLK.out]
  refine ⟨_, rfl, ⟨G1, k1, rfl, (HI3.out.set3 (c := P) (fun b off e hp => by have := HGA.out b off e hp; omega) _ _ _).up (by simp), lg1, mg1⟩, Vw.three HB3.out (by omega) _ _ _⟩
 ·have HT := Lib.hid (show AdjD.looked op d = (AdjV.none_, (AdjV.size d).2) from if_pos h0)
  have hq : ((AdjV.size d).2 != 0) = true := by simpa using h0
  have hw : AdjV.whole d = (AdjV.none_, (AdjV.size d).2) := if_pos h0
  rw [hw] at HV1 ⊢
  have HBB2 := Lib.hid (fun o => HB1.out.alloc (by omega) o)
  clear h0 hw
  go_wp2_with fail
  go_ret2
  rw [HT.out]
  exact ⟨_, rfl, Ar.SlAt.nil _ _, HBB2.out _⟩
end Go.Proofs.Ytapedmpbkffopaa
end
