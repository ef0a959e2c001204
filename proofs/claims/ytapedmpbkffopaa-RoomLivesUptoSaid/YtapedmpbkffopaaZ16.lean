/-
  The walks of rowMajor and of Whole; The walk of array.look: an operation that only looks at an array in another way. Conditions: where the theorems name them.
-/
import Derived.Test.YtapedmpbkffopaaZ02
import Derived.Test.YtapedmpbkffopaaZ10
import Derived.Test.YtapedmpbkffopaaZ11
import Derived.Test.YtapedmpbkffopaaZ13
import Derived.Test.YtapedmpbkffopaaZ15
section
namespace Go.Proofs.Ytapedmpbkffopaa
set_option linter.unusedVariables false
open Go.RowKit Go.Shelf Adj
attribute [local go_sem] Oper.semAt_some
namespace Vw
structure RmI (NL : Nat) (w : World) (A : Option Addr) (cap : Nat) (l : List Int) (B : Nat) (pre : List (Spot l)) (W : World) : Prop where
 size : NL ≤ W.heap.size
 len : pre.length ≤ l.length
 order : pre.map (·.1) = upto (down l.length) pre.length
 dims : Blk W w.heap.size 23 #[.slice A l.length cap]
 cells : Blk W (w.heap.size + 1) 3 (ints (List.replicate (l.length - pre.length) 0 ++ (AdjV.steps l).drop (l.length - pre.length))).toArray
 out : Blk W (w.heap.size + 1 + 1) 23 #[.slice (some ⟨w.heap.size + 1, 0, none⟩) l.length l.length]
 n_ : Blk W (w.heap.size + 1 + 1 + 1) 3 #[.int .i64 (AdjV.prod (l.drop (l.length - pre.length)))]
 ints : IntsAt W B A l
 below : Below w.heap.size w W
theorem RmI.own {NL : Nat} {w : World} {A : Option Addr} {cap : Nat} {l : List Int} {B : Nat} (hB : B ≤ w.heap.size) (hN : w.heap.size + 1 + 1 + 1 < NL) : OwnFrom NL (RmI NL w A cap l B) :=
 own_from_below (N := NL) (Nat.le_refl _) (fun s X Y h hb => ⟨Nat.le_trans h.size hb.size, h.len, h.order, h.dims.below hb (by omega), h.cells.below hb (by omega), h.out.below hb (by omega), h.n_.below hb (by omega), h.ints.below (hb.mono (by omega)), h.below.trans (hb.mono (by omega))⟩) (fun s X h => h.size)
theorem rm_put {l : List Int} {j q : Nat} (hj : j < l.length) (hq : q = down l.length j) (hpos : ∀ d ∈ l, 1 ≤ d) :
    (List.replicate (l.length - j) 0 ++ (AdjV.steps l).drop (l.length - j)).set q (AdjV.prod (l.drop (l.length - j))) = List.replicate (l.length - (j + 1)) 0 ++ (AdjV.steps l).drop (l.length - (j + 1)) := by
 unfold down at hq
 subst hq
 have e : l.length - j = (l.length - (j + 1)) + 1 := by omega
 have hk : l.length - (j + 1) < (AdjV.steps l).length := by rw [AdjV.steps_length]; omega
 have hs : (AdjV.steps l)[l.length - (j + 1)] = AdjV.prod (l.drop (l.length - j)) := by rw [AdjV.steps_pos hpos (by omega), ← e]
 rw [List.drop_eq_getElem_cons hk, hs, ← e]
 rw [List.set_append_left _ _ (by rw [List.length_replicate]; omega)]
 conv => lhs; rw [show List.replicate (l.length - j) (0 : Int) = List.replicate (l.length - (j + 1)) 0 ++ [0] by rw [e, List.replicate_succ']]
 rw [List.set_append_right _ _ (by rw [List.length_replicate]; omega), List.length_replicate, show l.length - 1 - j - (l.length - (j + 1)) = 0 by omega, List.append_assoc]
 rfl
theorem rm_prod {l : List Int} {j q : Nat} (hj : j < l.length) (hq : q = down l.length j) (hql : q < l.length) : AdjV.prod (l.drop (l.length - (j + 1))) = AdjV.prod (l.drop (l.length - j)) * l[q] := by
 unfold down at hq
 subst hq
 have e : l.length - j = (l.length - (j + 1)) + 1 := by omega
 have hk : l.length - (j + 1) < l.length := by omega
 rw [List.drop_eq_getElem_cons hk, ← e]
 simp only [AdjV.prod]
 rw [Int.mul_comm]
 congr 2
 omega
end Vw
set_option maxRecDepth 100000 in
set_option maxHeartbeats 4000000 in
theorem rowMajor_any (A : Option Addr) (cap : Nat) (l : List Int) (B : Nat) (w : World) (hl : l.length ≤ cap) (hl' : cap ≤ 9223372036854775807) (hB : B ≤ w.heap.size) (hm : Vw.IntsAt w B A l) (h0 : (AdjV.size l).2 = 0) :
    Calls Try.prog 69 #[.slice A l.length cap] w fun e w' => ∃ v, e = .returned v ∧ w'.ownsRow w.heap.size 3 1 v l.length (ints (AdjV.steps l)) ∧ Below w.heap.size w w' := by
 obtain ⟨z1, z2, z3, z4, z5⟩ := AdjV.size_fine h0
 have HZ2 := Lib.hid z2
 have hl16 : l.length ≤ 65536 := by omega
 have HM := Lib.hid hm
 have HMKI := Lib.hid (fun W => run_make_int l.length hl16 W)
 obtain ⟨W2, hW2⟩ : ∃ W2, ((w.alloc (.cells #[.slice A l.length cap] 23)).alloc (.cells (ints (List.replicate l.length 0)).toArray 3)).alloc (.cells #[.slice (some ⟨w.heap.size + 1, 0, none⟩) l.length l.length] 23) = W2 := ⟨_, rfl⟩
 have hb2 : Below w.heap.size w W2 := by rw [← hW2]; exact (((Below.refl _ _).alloc (Nat.le_refl _) _).alloc (by simp) _).alloc (by simp; omega) _
 have HB2 := Lib.hid hb2
 have hs2 : W2.heap.size = w.heap.size + 1 + 1 + 1 := by rw [← hW2]; simp
 have hd2 : Blk W2 w.heap.size 23 #[.slice A l.length cap] := by rw [← hW2]; exact ((Blk.new w _ _).alloc _).alloc _
 have hc2 : Blk W2 (w.heap.size + 1) 3 (ints (List.replicate l.length 0)).toArray := by rw [← hW2]; exact (Vw.blk2 w _ _ _).alloc _
 have ho2 : Blk W2 (w.heap.size + 1 + 1) 23 #[.slice (some ⟨w.heap.size + 1, 0, none⟩) l.length l.length] := by rw [← hW2]; exact Vw.blk3 w _ _ _ _
 have HD2 := Lib.hid hd2
 have HC2 := Lib.hid hc2
 have HO2 := Lib.hid ho2
 have HCT := Lib.hid (Contains_any 0 A cap l B W2 (by omega) (hm.below (hb2.mono hB)))
 have HW2 := Lib.hid hW2
 have HS2 := Lib.hid hs2
 clear z2 z3 hm hW2 hb2 hs2 hd2 hc2 ho2
 refine (callsIn_wide (n := 6)).1 ?_
 refine callsIn_of_wp_marks Try.func69 rfl trivial ?_ rfl
 refine wpIn_wide.2 ?_
 simp only [Try.ntmps69, List.size_toArray, List.length_cons, List.length_nil, Nat.reduceAdd, Nat.reduceSub, Array.replicate_succ, Array.replicate_zero, List.push_toArray, List.append_toArray, List.nil_append, List.cons_append]
 have hmk := HMKI.out
 go_wp2_with fail
 rw [HW2.out]
 clear hmk
 refine HCT.out.mono ?_
 rintro e w1 ⟨rfl, rfl⟩
 have o2 : W2.cell? ⟨w.heap.size + 1 + 1, 0, none⟩ = some (.slice (some ⟨w.heap.size + 1, 0, none⟩) l.length l.length) := HO2.out.cell 0
 have d2 : W2.cell? ⟨w.heap.size, 0, none⟩ = some (.slice A l.length cap) := HD2.out.cell 0
 have y1 : w.heap.size < W2.heap.size := by have := HS2.out; omega
 have y2 : w.heap.size + 1 + 1 < W2.heap.size := by have := HS2.out; omega
 by_cases hz : (0 : Int) ∈ l
 ·rw [show decide ((0 : Int) ∈ l) = true by simpa using hz]
  have HZ := Lib.hid hz
  clear hz
  go_wp2_with fail
  refine ⟨.slice (some ⟨w.heap.size + 1, 0, none⟩) l.length l.length, by simp [results, Try.f69, go_sem], _, rfl, ?_, HB2.out⟩
  have hst : AdjV.steps l = List.replicate l.length 0 := by
   apply List.ext_getElem
   ·simp [AdjV.steps_length]
   ·intro k k1 k2; rw [AdjV.steps_at, if_pos HZ.out]; simp
  rw [hst]
  have h := HC2.out
  exact ⟨by rw [ints_length, List.length_replicate, Nat.mul_one], .inr ⟨w.heap.size + 1, l.length, _, rfl, by omega, h, Nat.le_refl _, by unfold maxLen; omega, by simp [ints], by simp [ints]⟩⟩
 ·rw [show decide ((0 : Int) ∈ l) = false by simpa using hz]
  have hpos : ∀ d ∈ l, 1 ≤ d := fun d hd => by
   have := HZ2.out d hd
   have h1 : d ≠ 0 := fun e => hz (e ▸ hd)
   omega
  have HPOS := Lib.hid hpos
  clear hz hpos
  go_wp2_with fail
  refine (callsIn_wide.1 (back_in Fence.wide 5 trivial rfl _ _ _ _)).mono ?_
  rintro e w4 ⟨rfl, rfl⟩
  go_wp2_with fail
  rw [HS2.out]
  obtain ⟨W0, hW0⟩ : ∃ W0, (W2.alloc (.cells #[.int .i64 1] 3)).alloc (.cells #[.slice A l.length cap] 23) = W0 := ⟨_, rfl⟩
  have hsz : W0.heap.size = w.heap.size + 1 + 1 + 1 + 1 + 1 := by rw [← hW0]; simp [HS2.out]
  have hb0 : Below w.heap.size w W0 := by rw [← hW0]; exact (HB2.out.alloc (by omega) _).alloc (by simp; omega) _
  have hbx : Blk W0 (w.heap.size + 1 + 1 + 1 + 1) 23 #[.slice A l.length cap] := by
   rw [← hW0]
   have h := Blk.new (W2.alloc (.cells #[.int .i64 1] 3)) 23 #[.slice A l.length cap]
   rwa [show (W2.alloc (.cells #[.int .i64 1] 3)).heap.size = w.heap.size + 1 + 1 + 1 + 1 by simp [HS2.out]] at h
  have HI0 := Lib.hid (show Vw.RmI W0.heap.size w A cap l B [] W0 from by
   refine ⟨Nat.le_refl _, Nat.zero_le _, rfl, ?_, ?_, ?_, ?_, HM.out.below (hb0.mono hB), hb0⟩
   ·rw [← hW0]; exact (HD2.out.alloc _).alloc _
   ·rw [← hW0]
    have h := (HC2.out.alloc (.cells #[.int .i64 1] 3)).alloc (.cells #[.slice A l.length cap] 23)
    rw [List.drop_of_length_le (by rw [AdjV.steps_length]; simp), List.append_nil]
    exact h
   ·rw [← hW0]; exact (HO2.out.alloc _).alloc _
   ·rw [← hW0]
    have h := (Blk.new W2 3 #[.int .i64 1]).alloc (.cells #[.slice A l.length cap] 23)
    rw [HS2.out] at h
    simpa [AdjV.prod] using h)
  have hs4 : (W2.alloc (.cells #[.int .i64 1] 3)).heap.size = w.heap.size + 1 + 1 + 1 + 1 := by simp [HS2.out]
  rw [hW0]
  obtain ⟨b, hb, hstop⟩ := back_ord Fence.wide 5 trivial rfl (by omega) (w.heap.size + 1 + 1 + 1 + 1) A cap B l (by omega) W0 (by omega) (by omega) (hbx.cell 0) HI0.out.ints
  clear hW0 hbx hb0 o2 d2 hs4 y1 y2
  refine (wpIn_wide (n := 6)).1 ?_
  refine wpIn_rangeFunc_ord1 5 (fun x : Vw.Spot l => .int .i64 (x.1 : Int)) (fun x => .int .i64 (l[x.1]'x.2)) rfl (by omega) (gf := 79) (lb := #[.pointer (some ⟨w.heap.size + 1 + 1 + 1 + 1, 0, none⟩)]) rfl trivial (enters_of Try.func79 (by kernel_rfl) rfl) hstop
   (fun h1 h2 => h1.trans h2) (fun W y o o' hl hg _ _ => Vw.Keeps.book (N := W0.heap.size) (by omega) (by rcases hb with rfl | hb <;> omega) W y o o' hl hg) (Below.refl _ _)
   (Vw.RmI W0.heap.size w A cap l B) (fun _ _ _ => False) (Vw.RmI.own hB (by omega)) (fun _ _ _ _ _ hs _ _ => hs) HI0.out ?assign ?body ?done ?stop
  case assign =>
   intro y x W K hK
   simp only [List.setIfInBounds_toArray, List.set_cons_zero, List.set_cons_succ] at hK ⊢
   gi_wp2
   exact hK
  case body =>
   rintro y pre ⟨q, hq⟩ W hI hlt hR
   dsimp only at hR ⊢
   simp only [List.setIfInBounds_toArray, List.set_cons_zero, List.set_cons_succ]
   have hdp := HPOS.out _ (List.getElem_mem hq)
   have HPUT := Lib.hid (Vw.rm_put hlt hR HPOS.out)
   have HPRD := Lib.hid (Vw.rm_prod hlt hR hq)
   have HORD := Lib.hid (Vw.order_next (hq := hq) hI.order hR)
   have hnn : 0 ≤ AdjV.prod (l.drop (l.length - pre.length)) * l[q] ∧ AdjV.prod (l.drop (l.length - pre.length)) * l[q] ≤ 65536 := by
    rw [← HPRD.out]
    have a1 := AdjV.prod_pos (l.drop (l.length - (pre.length + 1))) (fun d hd => HPOS.out d (List.mem_of_mem_drop hd))
    have a2 := AdjV.prod_pos (l.take (l.length - (pre.length + 1))) (fun d hd => HPOS.out d (List.mem_of_mem_take hd))
    have e : AdjV.prod l = AdjV.prod (l.take (l.length - (pre.length + 1))) * AdjV.prod (l.drop (l.length - (pre.length + 1))) := by rw [← AdjV.prod_append, List.take_append_drop]
    have a3 := Int.mul_le_mul_of_nonneg_right a2 (show 0 ≤ AdjV.prod (l.drop (l.length - (pre.length + 1))) by omega)
    rw [Int.one_mul, ← e] at a3
    omega
   obtain ⟨b2, off2, rfl, hb2, hcs⟩ := hI.ints (by omega)
   have h5 := hcs q hq
   have h1 : W.cell? ⟨w.heap.size, 0, none⟩ = some (.slice (some ⟨b2, off2, none⟩) l.length cap) := hI.dims.cell 0
   have h2 : W.cell? ⟨w.heap.size + 1 + 1 + 1, 0, none⟩ = some (.int .i64 (AdjV.prod (l.drop (l.length - pre.length)))) := hI.n_.cell 0
   have h2f := hI.n_.frozen 0
   have h3 : W.cell? ⟨w.heap.size + 1 + 1, 0, none⟩ = some (.slice (some ⟨w.heap.size + 1, 0, none⟩) l.length l.length) := hI.out.cell 0
   have hln : (List.replicate (l.length - pre.length) (0 : Int) ++ (AdjV.steps l).drop (l.length - pre.length)).length = l.length := by rw [List.length_append, List.length_replicate, List.length_drop, AdjV.steps_length]; omega
   have h4 : ∃ c0, W.cell? ⟨w.heap.size + 1, q, none⟩ = some (.int .i64 c0) := by
    refine ⟨(List.replicate (l.length - pre.length) (0 : Int) ++ (AdjV.steps l).drop (l.length - pre.length))[q]'(by omega), ?_⟩
    rw [hI.cells.cell q]
    simpa using ints_at (List.replicate (l.length - pre.length) (0 : Int) ++ (AdjV.steps l).drop (l.length - pre.length)) q (by omega)
   obtain ⟨c0, h4⟩ := h4
   have h4f := hI.cells.frozen q
   have hbW : w.heap.size + 1 + 1 + 1 < W.heap.size := hI.n_.lt
   have HI := Lib.hid hI
   have HN := Lib.hid hI.n_
   have HLN := Lib.hid hln
   have HR := Lib.hid hR
   clear hI hcs hln hR
   generalize hP : AdjV.prod (l.drop (l.length - pre.length)) = pn at HPUT HPRD hnn h2 HN ⊢
   generalize hD : l[q] = d at hdp HPRD hnn h5 ⊢
   have i1 : (0 : Int) ≤ (q : Int) := by omega
   have i2 : (q : Int) < (l.length : Int) := by omega
   have hqw : IntKind.i64.wrap (pn * d) = pn * d := IntWalk.i64_in _ (by omega)
   clear hP hD
   gi_wp2_with fail
   obtain ⟨W1, hW1⟩ : ∃ W1, W.setCell ⟨w.heap.size + 1, q, none⟩ (.int .i64 pn) = W1 := ⟨_, rfl⟩
   rw [hW1]
   have g1 : Blk W1 w.heap.size 23 #[.slice (some ⟨b2, off2, none⟩) l.length cap] := by rw [← hW1]; exact HI.out.dims.far (p := ⟨w.heap.size + 1, q, none⟩) (by first | (simp; done) | (simp; omega) | omega) _
   have g2 : Blk W1 (w.heap.size + 1 + 1 + 1) 3 #[.int .i64 pn] := by rw [← hW1]; exact HN.out.far (p := ⟨w.heap.size + 1, q, none⟩) (by first | (simp; done) | (simp; omega) | omega) _
   have g3 : Blk W1 (w.heap.size + 1 + 1) 23 #[.slice (some ⟨w.heap.size + 1, 0, none⟩) l.length l.length] := by rw [← hW1]; exact HI.out.out.far (p := ⟨w.heap.size + 1, q, none⟩) (by first | (simp; done) | (simp; omega) | omega) _
   have g4 : Blk W1 (w.heap.size + 1) 3 (ints (List.replicate (l.length - (pre.length + 1)) 0 ++ (AdjV.steps l).drop (l.length - (pre.length + 1)))).toArray := by
    rw [← hW1, ← HPUT.out, ← ints_set]; exact HI.out.cells.set_ q _
   have g5 : Below w.heap.size W W1 := by rw [← hW1]; exact (Below.refl _ W).setCell (p := ⟨w.heap.size + 1, q, none⟩) (by first | (simp; done) | (simp; omega) | omega) _
   have g6 : Vw.Keeps (w.heap.size + 1 + 1 + 1 + 1) b W W1 := by rw [← hW1]; exact Vw.keeps_set (NL := 0) (by omega) (by rcases hb with rfl | hb <;> omega)
   have g7 : KeepsFrom W0.heap.size W W1 := by rw [← hW1]; exact Vw.from_set _ _ _
   have g8 : W1.cell? ⟨b2, off2 + q, none⟩ = some (.int .i64 d) := (g5.cell (p := ⟨b2, off2 + q, none⟩) (by simp; omega)).trans h5
   have hs1 : W1.heap.size = W.heap.size := by rw [← hW1]; simp
   have G := Lib.hid (And.intro g1 (And.intro g2 (And.intro g3 (And.intro g4 (And.intro g5 (And.intro g6 g7))))))
   have HS1 := Lib.hid hs1
   have c1 : W1.cell? ⟨w.heap.size, 0, none⟩ = some (.slice (some ⟨b2, off2, none⟩) l.length cap) := g1.cell 0
   have c2 : W1.cell? ⟨w.heap.size + 1 + 1 + 1, 0, none⟩ = some (.int .i64 pn) := g2.cell 0
   have c2f := g2.frozen 0
   clear g1 g2 g3 g4 g5 g6 g7 h1 h2 h3 h4 h5 h2f h4f hW1 hs1
   refine wpIn_region_still_tail2 6 (by kernel_rfl) (by kernel_rfl) (by kernel_rfl) ?_
   simp only [List.take_succ_cons, List.take_zero, List.drop_succ_cons, List.drop_zero]
   repeat still_step
   try refine wpStill_nil ?_
   change wpList _ _ _ _ _ W1.drew
   go_wp2_with fail
   obtain ⟨g1, g2, g3, g4, g5, g6, g7⟩ := G.out
   have e : (pre ++ [(⟨q, hq⟩ : Vw.Spot l)]).length = pre.length + 1 := by simp
   refine ⟨g7.trans ((Vw.from_set _ _ _).trans (Vw.from_drew _)), g6.trans (Vw.Keeps.drew (Vw.keeps_set (NL := 0) (by omega) (by rcases hb with rfl | hb <;> omega))), ?_, by rw [e]; exact hlt, HORD.out, (g1.far (p := ⟨w.heap.size + 1 + 1 + 1, 0, none⟩) (by first | (simp; done) | (simp; omega) | omega) _).drew, ?_, (g3.far (p := ⟨w.heap.size + 1 + 1 + 1, 0, none⟩) (by first | (simp; done) | (simp; omega) | omega) _).drew, ?_, HI.out.ints.below ((g5.trans ((Below.refl _ _).setCell (p := ⟨w.heap.size + 1 + 1 + 1, 0, none⟩) (by first | (simp; done) | (simp; omega) | omega) _).drew).mono hB), HI.out.below.trans (g5.trans ((Below.refl _ _).setCell (p := ⟨w.heap.size + 1 + 1 + 1, 0, none⟩) (by first | (simp; done) | (simp; omega) | omega) _).drew)⟩
   ·have h1 := HI.out.size
    have h2 := HS1.out
    simp [World.drew]
    omega
   ·rw [e]; exact (g4.far (p := ⟨w.heap.size + 1 + 1 + 1, 0, none⟩) (by first | (simp; done) | (simp; omega) | omega) _).drew
   ·rw [e, HPRD.out]; exact (g2.set_ 0 _).drew
  case done =>
   rintro D ys W hD hys hI hK
   have hyl : ys.length = l.length := by have := congrArg List.length hys; rwa [List.length_map, Vw.upto_length] at this
   have hDW : D < W.heap.size := (Array.getElem?_eq_some_iff.1 hK).1
   have hcl := hI.cells
   rw [hyl, Nat.sub_self, List.replicate_zero, List.nil_append, List.drop_zero] at hcl
   have h3 : W.cell? ⟨w.heap.size + 1 + 1, 0, none⟩ = some (.slice (some ⟨w.heap.size + 1, 0, none⟩) l.length l.length) := hI.out.cell 0
   have HBW := Lib.hid hI.below
   have HCL := Lib.hid hcl
   have HK := Lib.hid hK
   clear hI hys hcl hK
   go_wp2_with fail
   refine ⟨by simp, .inl ⟨_, _, rfl, run_takeDeferred HK.out, ?_⟩⟩
   have hbp : Below D W (W.putObj D (.deferred none)) := (Below.refl D W).grown (grownBy_putObj' W D (.deferred none)) (Nat.le_of_lt hDW) (fun k e => by cases e; exact Nat.le_refl _)
   refine ⟨.slice (some ⟨w.heap.size + 1, 0, none⟩) l.length l.length, by simp [results, Try.f69, go_sem], _, rfl, ?_, HBW.out.trans (hbp.mono (by omega))⟩
   have h := HCL.out.below hbp (by omega)
   exact ⟨by rw [ints_length, AdjV.steps_length, Nat.mul_one], .inr ⟨w.heap.size + 1, l.length, _, rfl, by omega, h, Nat.le_refl _, by unfold maxLen; omega, by simp [ints, AdjV.steps_length], by rw [Nat.mul_one]; exact List.take_of_length_le (by simp [ints, AdjV.steps_length])⟩⟩
  case stop =>
   rintro D c pre W _ _ h _
   exact h.elim
set_option maxHeartbeats 4000000 in
theorem Whole_any (DA : Option Addr) (cdi : Nat) (l : List Int) (B : Nat) (w : World) (hB : B ≤ w.heap.size) (hdi : Vw.IntsAt w B DA l) (md : l.length ≤ cdi) (md2 : cdi ≤ 9223372036854775807) :
    Calls Try.prog 57 #[.slice DA l.length cdi] w fun e w' => Vw.ViewOut B w w' (AdjV.whole l) e ∧ Below w.heap.size w w' := by
 have HB := Lib.hid ((Below.refl w.heap.size w).alloc (Nat.le_refl _) (.cells #[.int .i64 0, .slice none 0 0, .slice none 0 0] 68))
 have hbx := Blk.new w 68 #[.int .i64 0, .slice none 0 0, .slice none 0 0]
 have HSZ := Lib.hid (Size_any DA cdi l B _ (by omega) (hdi.below (HB.out.mono hB)))
 by_cases h0 : (AdjV.size l).2 = 0
 ·have hR : Vw.sizeR l = .tuple #[.int .i64 (AdjV.size l).1, .int .i64 0] := by unfold Vw.sizeR; rw [h0]
  have HR := Lib.hid hR
  have hT : AdjV.whole l = (⟨0, l, AdjV.steps l⟩, 0) := by unfold AdjV.whole; rw [if_neg (by simp [h0])]
  have HT := Lib.hid hT
  have hl6 := (AdjV.size_fine h0).1
  have HCL := Lib.hid (Clone_any DA cdi l B _ (by omega) (hdi.below (HB.out.mono hB)) (Nat.le_trans hB HB.out.size))
  have HRM := Lib.hid (fun (W : World) (hb : Below w.heap.size w W) => rowMajor_any DA cdi l B W md md2 (Nat.le_trans hB hb.size) (hdi.below (hb.mono hB)) h0)
  have HX := Lib.hid hbx
  clear hR h0 hT hdi hbx
  go_enter Try.func57, Try.ntmps57
  go_wp2_with fail
  refine HSZ.out.mono ?_
  rintro e w1 ⟨rfl, rfl⟩
  rw [HR.out]
  go_wp2_with fail
  refine HCL.out.mono ?_
  rintro e w1 ⟨v1, rfl, ho1, hb1⟩
  obtain ⟨G1, m1, rfl, hm1⟩ := Vw.own_any ho1
  have HB1 := Lib.hid (HB.out.trans (hb1.mono HB.out.size))
  have HX1 := Lib.hid (HX.out.below hb1 HX.out.lt)
  have HO1 := Lib.hid ho1
  have hz1 : w.heap.size + 1 ≤ w1.heap.size := by have := hb1.size; simpa using this
  clear ho1 hb1
  go_wp2_with fail
  refine (HRM.out _ HB1.out).mono ?_
  rintro e w2 ⟨v2, rfl, ho2, hb2⟩
  obtain ⟨G2, m2, rfl, hm2⟩ := Vw.own_any ho2
  have hx2 := HX1.out.below hb2 HX1.out.lt
  have ho1 := Vw.own_kept HO1.out hb2
  obtain ⟨A1, n1, hv1, ia1, la1, ma1, ga1⟩ := Vw.own_view ho1
  have ho2' := ho2
  rw [← AdjV.steps_length l] at ho2'
  obtain ⟨A2, n2, hv2, ia2, la2, ma2, ga2⟩ := Vw.own_view ho2'
  simp only [Value.slice.injEq] at hv1 hv2
  obtain ⟨rfl, _, rfl⟩ := hv1
  obtain ⟨rfl, _, rfl⟩ := hv2
  have HG := Lib.hid (And.intro ia1 (And.intro la1 (And.intro ma1 (And.intro ga1 (And.intro ia2 (And.intro la2 (And.intro ma2 ga2)))))))
  have HB2 := Lib.hid (HB1.out.trans (hb2.mono HB1.out.size))
  have hz2 : w1.heap.size ≤ w2.heap.size := hb2.size
  have r0 : w2.cell? ⟨w.heap.size, 0, none⟩ = some (.int .i64 0) := hx2.cell 0
  have r1 : w2.cell? ⟨w.heap.size, 1, none⟩ = some (.slice none 0 0) := hx2.cell 1
  have r2 : w2.cell? ⟨w.heap.size, 2, none⟩ = some (.slice none 0 0) := hx2.cell 2
  have f0 := hx2.frozen 0
  have f1 := hx2.frozen 1
  have f2 := hx2.frozen 2
  clear ho1 ho2 ho2' hb2 hx2 ia1 la1 ma1 ga1 ia2 la2 ma2 ga2
  go_wp2_with fail
  obtain ⟨ia1, la1, ma1, ga1, ia2, la2, ma2, ga2⟩ := HG.out
  refine bodyPost_ret (v := .tuple #[.agg #[.int .i64 0, .slice G1 l.length m1, .slice G2 l.length m2], .int .i64 0]) (by simp [results, Try.results57, go_sem, r0, r1, r2]) rfl ⟨?_, Vw.three HB2.out (Nat.le_refl _) _ _ _⟩
  rw [HT.out]
  rw [AdjV.steps_length] at la2
  refine Vw.out_mk ⟨G1, m1, G2, m2, by simp [AdjV.steps_length], ?_, ?_, la1, ma1, by simpa [AdjV.steps_length] using la2, ma2⟩ ?_ ?_
  ·exact (ia1.set3 (fun b off e hp => by have := ga1 b off e hp; simp at this; omega) _ _ _).up (by simp)
  ·exact (ia2.set3 (fun b off e hp => by have := ga2 b off e hp; omega) _ _ _).up (by simp)
  ·exact fun b off e hp => by have := ga1 b off e hp; simp at this; omega
  ·exact fun b off e hp => by have := ga2 b off e hp; omega
 ·have HT := Lib.hid (show AdjV.whole l = (AdjV.none_, (AdjV.size l).2) from if_pos h0)
  have hq : ((AdjV.size l).2 != 0) = true := by simpa using h0
  clear h0 hdi hbx
  go_enter Try.func57, Try.ntmps57
  go_wp2_with fail
  refine HSZ.out.mono ?_
  rintro e w1 ⟨rfl, rfl⟩
  simp only [Vw.sizeR]
  go_wp2_with fail
  refine bodyPost_ret (v := .tuple #[.agg #[.int .i64 0, .slice none 0 0, .slice none 0 0], .int .i64 (AdjV.size l).2]) (by simp [results, Try.results57, go_sem]) rfl ⟨?_, HB.out⟩
  rw [HT.out]; exact Vw.out_none _ _ _ _
end Go.Proofs.Ytapedmpbkffopaa
end
section
namespace Go.Proofs.Ytapedmpbkffopaa
set_option linter.unusedVariables false
open Go.RowKit Adj
set_option maxRecDepth 100000 in
set_option maxHeartbeats 8000000 in
theorem Ar.look_any (val : Value) (op : AdjD.Op) (A : Option Addr) (cd : Nat) (d : List Int) (B : Nat) (w : World) (hB : B ≤ w.heap.size) (hop : Ar.OpAt w B val op) (h2 : Vw.IntsAt w B A d) (md : d.length ≤ cd) (md2 : cd ≤ 9223372036854775807) :
    Calls Try.prog 42 #[val, .slice A d.length cd] w fun e w' => Vw.ViewOut 0 w w' (AdjD'.lookV op d) e ∧ Below w.heap.size w w' := by
 obtain ⟨v1, v2, v3, v4, v5, rfl, ⟨D, cD, rfl, iD, lD, mD⟩, ⟨T, ct, rfl, it, lt, mt⟩, ⟨O, co, rfl, io, lo, mo⟩, ⟨I, ci, rfl, ii, li, mi⟩, ⟨S, cs, rfl, is, ls, ms⟩⟩ := hop
 have HL := Lib.hid (fun W (hb : Below w.heap.size w W) => And.intro ((iD.below (hb.mono hB)).up (Nat.le_trans hB hb.size)) (And.intro ((it.below (hb.mono hB)).up (Nat.le_trans hB hb.size)) (And.intro ((io.below (hb.mono hB)).up (Nat.le_trans hB hb.size)) (And.intro ((ii.below (hb.mono hB)).up (Nat.le_trans hB hb.size)) ((is.below (hb.mono hB)).up (Nat.le_trans hB hb.size))))))
 have HM := Lib.hid (show (op.dims.length ≤ cD ∧ cD ≤ 9223372036854775807) ∧ (op.at_.length ≤ ct ∧ ct ≤ 9223372036854775807) ∧ (op.lo.length ≤ co ∧ co ≤ 9223372036854775807) ∧ (op.hi.length ≤ ci ∧ ci ≤ 9223372036854775807) ∧ (op.step.length ≤ cs ∧ cs ≤ 9223372036854775807) from ⟨⟨lD, mD⟩, ⟨lt, mt⟩, ⟨lo, mo⟩, ⟨li, mi⟩, ls, ms⟩)
 have HX := Lib.hid (Blk.new w 37 #[.int .i64 op.kind, .slice D op.dims.length cD, .slice T op.at_.length ct, .slice O op.lo.length co, .slice I op.hi.length ci, .slice S op.step.length cs, .int .i64 op.value])
 have HB := Lib.hid ((Below.refl w.heap.size w).alloc (Nat.le_refl _) (.cells #[.int .i64 op.kind, .slice D op.dims.length cD, .slice T op.at_.length ct, .slice O op.lo.length co, .slice I op.hi.length ci, .slice S op.step.length cs, .int .i64 op.value] 37))
 obtain ⟨w0, hw0⟩ : ∃ w0, w.alloc (.cells #[.int .i64 op.kind, .slice D op.dims.length cD, .slice T op.at_.length ct, .slice O op.lo.length co, .slice I op.hi.length ci, .slice S op.step.length cs, .int .i64 op.value] 37) = w0 := ⟨_, rfl⟩
 have hz0 : w0.heap.size = w.heap.size + 1 := by rw [← hw0]; simp
 rw [hw0] at HX HB
 have HR0 := Lib.hid (Blk.new w0 68 #[.int .i64 0, .slice none 0 0, .slice none 0 0])
 have HS0 := Lib.hid ((Below.refl w0.heap.size w0).alloc (Nat.le_refl _) (.cells #[.int .i64 0, .slice none 0 0, .slice none 0 0] 68))
 have HBB := Lib.hid (HB.out.trans (HS0.out.mono HB.out.size))
 have HX0 := Lib.hid (HX.out.below HS0.out HX.out.lt)
 have hz1 : (w0.alloc (.cells #[.int .i64 0, .slice none 0 0, .slice none 0 0] 68)).heap.size = w.heap.size + 2 := by simp; omega
 obtain ⟨ww, hww⟩ : ∃ ww, w0.alloc (.cells #[.int .i64 0, .slice none 0 0, .slice none 0 0] 68) = ww := ⟨_, rfl⟩
 rw [hz0] at HR0
 rw [hww] at HR0 HS0 HBB HX0 hz1
 have HW := Lib.hid (Whole_any A cd d B ww (by omega) (h2.below (HBB.out.mono hB)) md md2)
 clear iD it io ii is lD mD lt mt lo mo li mi ls ms h2
 go_enter Try.func42, Try.ntmps42
 go_wp2_with fail
 ((with_reducible refine HW.out.mono ?_); rintro e w1 ⟨⟨val1, rfl, hv1, ha1⟩, hb1⟩)
 obtain ⟨W1, n1, W2, n2, rfl, iw1, iw2, lw1, mw1, lw2, mw2⟩ := hv1
 have HV1 := Lib.hid (show Vw.ViewAt w1 w1.heap.size (.agg #[.int .i64 (AdjV.whole d).1.st, .slice W1 (AdjV.whole d).1.dims.length n1, .slice W2 (AdjV.whole d).1.steps.length n2]) (AdjV.whole d).1 from ⟨W1, n1, W2, n2, rfl, iw1, iw2, lw1, mw1, lw2, mw2⟩)
 have HB1 := Lib.hid (HBB.out.trans (hb1.mono HBB.out.size))
 have HX1 := Lib.hid (HX0.out.below hb1 HX0.out.lt)
 have HR1 := Lib.hid (HR0.out.below hb1 HR0.out.lt)
 have hs1 : w.heap.size + 2 ≤ w1.heap.size := by rw [← hz1]; exact hb1.size
 clear iw1 iw2 lw1 mw1 lw2 mw2 ha1 hb1
 by_cases h0 : (AdjV.size d).2 = 0
 ·have H0 := Lib.hid h0
  have e0 := (AdjD'.whole_fine h0).2
  rw [e0]
  clear h0 e0
  obtain ⟨V0, hV0⟩ : ∃ V0, (AdjV.whole d).1 = V0 := ⟨_, rfl⟩
  rw [hV0] at HV1 ⊢
  obtain ⟨X0, hX0⟩ : ∃ X : Value, X = .agg #[.int .i64 V0.st, .slice W1 V0.dims.length n1, .slice W2 V0.steps.length n2] := ⟨_, rfl⟩
  have HBs := Lib.hid ((Below.refl w1.heap.size w1).alloc (Nat.le_refl _) (.cells #[.int .i64 V0.st, .slice W1 V0.dims.length n1, .slice W2 V0.steps.length n2] 68))
  have HX2 := HX1.out.alloc (.cells #[.int .i64 V0.st, .slice W1 V0.dims.length n1, .slice W2 V0.steps.length n2] 68)
  have HN2 := Blk.new w1 68 #[.int .i64 V0.st, .slice W1 V0.dims.length n1, .slice W2 V0.steps.length n2]
  have hs2 : (w1.alloc (.cells #[.int .i64 V0.st, .slice W1 V0.dims.length n1, .slice W2 V0.steps.length n2] 68)).heap.size = w1.heap.size + 1 := by simp
  obtain ⟨w2, hw2⟩ : ∃ w2, w1.alloc (.cells #[.int .i64 V0.st, .slice W1 V0.dims.length n1, .slice W2 V0.steps.length n2] 68) = w2 := ⟨_, rfl⟩
  rw [hw2] at HBs hs2 HX2 HN2
  have HB2 := Lib.hid (HB1.out.trans (HBs.out.mono HB1.out.size))
  have HR2 := Lib.hid (HR1.out.below HBs.out HR1.out.lt)
  have HV2 := Lib.hid ((HV1.out.below HBs.out).up HBs.out.size)
  obtain ⟨L1, L2, L3, L4, L5⟩ := HL.out w2 HB2.out
  obtain ⟨⟨a1, a2⟩, ⟨a3, a4⟩, ⟨a5, a6⟩, ⟨a7, a8⟩, a9, a10⟩ := HM.out
  have x0 : w2.cell? ⟨w.heap.size, 0, none⟩ = some (.int .i64 op.kind) := HX2.cell 0
  have x1 : w2.cell? ⟨w.heap.size, 1, none⟩ = some (.slice D op.dims.length cD) := HX2.cell 1
  have x2 : w2.cell? ⟨w.heap.size, 2, none⟩ = some (.slice T op.at_.length ct) := HX2.cell 2
  have x3 : w2.cell? ⟨w.heap.size, 3, none⟩ = some (.slice O op.lo.length co) := HX2.cell 3
  have x4 : w2.cell? ⟨w.heap.size, 4, none⟩ = some (.slice I op.hi.length ci) := HX2.cell 4
  have x5 : w2.cell? ⟨w.heap.size, 5, none⟩ = some (.slice S op.step.length cs) := HX2.cell 5
  have z0 : w2.cell? ⟨w1.heap.size, 0, none⟩ = some (.int .i64 V0.st) := HN2.cell 0
  have z1 : w2.cell? ⟨w1.heap.size, 1, none⟩ = some (.slice W1 V0.dims.length n1) := HN2.cell 1
  have z2 : w2.cell? ⟨w1.heap.size, 2, none⟩ = some (.slice W2 V0.steps.length n2) := HN2.cell 2
  rw [← hw2] at x0 x1 x2 x3 x4 x5 z0 z1 z2
  clear HX2 HN2
  have HW2 := Lib.hid hw2
  clear hw2
  have HS9 := Lib.hid (Spread_any _ V0 D T cD ct op.dims op.at_ w2.heap.size w2 (Nat.le_refl _) HV2.out L1 L2 a1 a2 a3 a4)
  have HS11 := Lib.hid (Turn_any _ V0 T ct op.at_ w2.heap.size w2 (Nat.le_refl _) HV2.out L2 a3 a4)
  have HS12 := Lib.hid (Reform_any _ V0 D cD op.dims w2.heap.size w2 (Nat.le_refl _) HV2.out L1 a1 a2)
  have HS13 := Lib.hid (Cut_any _ V0 O I S co ci cs op.lo op.hi op.step w2.heap.size w2 (Nat.le_refl _) HV2.out L3 L4 L5 a5 a6 a7 a8 a9 a10)
  have HS15 := Lib.hid (Flip_any _ V0 T ct op.at_ w2.heap.size w2 (Nat.le_refl _) HV2.out L2 a3 a4)
  have HV := Lib.hid hV0
  clear L1 L2 L3 L4 L5 a1 a2 a3 a4 a5 a6 a7 a8 a9 a10 hV0 HL HM
  by_cases k9 : op.kind = 9
  ·have HLK := Lib.hid (show AdjD'.lookV op d = (AdjV.spread V0 op.dims op.at_) by rw [← HV.out]; unfold AdjD'.lookV; rw [if_neg (by simp [H0.out])]; simp [k9])
   rw [k9] at x0
   clear k9 HS11 HS12 HS13 HS15
   obtain ⟨R, hR⟩ : ∃ R, (AdjV.spread V0 op.dims op.at_) = R := ⟨_, rfl⟩
   rw [hR] at HLK HS9
   clear hR
   go_wp2_with fail
   rw [HW2.out]
   ((with_reducible refine HS9.out.mono ?_); rintro e w3 ⟨⟨val3, rfl, hv3, ha3⟩, hb3⟩)
   obtain ⟨G1, k1, G2, k2, rfl, ig1, ig2, lg1, mg1, lg2, mg2⟩ := hv3
   have hga := ha3 _ _ _ _ _ _ _ rfl
   have HV3 := Lib.hid (show Vw.ViewAt w3 w3.heap.size (.agg #[.int .i64 R.1.st, .slice G1 R.1.dims.length k1, .slice G2 R.1.steps.length k2]) R.1 from ⟨G1, k1, G2, k2, rfl, ig1, ig2, lg1, mg1, lg2, mg2⟩)
   have HGA := Lib.hid hga
   have hr3 := HR2.out.below hb3 HR2.out.lt
   have r0 : w3.cell? ⟨w.heap.size + 1, 0, none⟩ = some (.int .i64 0) := hr3.cell 0
   have r1 : w3.cell? ⟨w.heap.size + 1, 1, none⟩ = some (.slice none 0 0) := hr3.cell 1
   have r2 : w3.cell? ⟨w.heap.size + 1, 2, none⟩ = some (.slice none 0 0) := hr3.cell 2
   have f0 := hr3.frozen 0
   have f1 := hr3.frozen 1
   have f2 := hr3.frozen 2
   have HB3 := Lib.hid (HB2.out.trans (hb3.mono HB2.out.size))
   clear ig1 ig2 lg1 mg1 lg2 mg2 ha3 hga hb3 hr3 x0 x1 x2 x3 x4 x5 z0 z1 z2
   go_wp2_with fail
   refine bodyPost_ret (v := .tuple #[.agg #[.int .i64 R.1.st, .slice G1 R.1.dims.length k1, .slice G2 R.1.steps.length k2], .int .i64 R.2]) (by simp [results, Try.results42, go_sem, r0, r1, r2]) rfl ⟨?_, Vw.three HB3.out (by omega) _ _ _⟩
   rw [HLK.out]
   refine ⟨_, rfl, Vw.view_set3 HV3.out (cc := w.heap.size + 1) rfl (fun b off e hp => by have := HGA.out.1 b off e hp; omega) (fun b off e hp => by have := HGA.out.2 b off e hp; omega) (by simp) _ _ _, ?_⟩
   intro st A5 n5 c5 A6 n6 c6 e5
   simp only [Value.agg.injEq, Array.mk.injEq, List.cons.injEq, Value.slice.injEq, and_true] at e5
   obtain ⟨_, ⟨rfl, _, _⟩, rfl, _, _⟩ := e5
   exact ⟨fun b off e hp => by have := HGA.out.1 b off e hp; omega, fun b off e hp => by have := HGA.out.2 b off e hp; omega⟩
  by_cases k11 : op.kind = 11
  ·have HLK := Lib.hid (show AdjD'.lookV op d = (AdjV.turn V0 op.at_) by rw [← HV.out]; unfold AdjD'.lookV; rw [if_neg (by simp [H0.out])]; simp [k11])
   rw [k11] at x0
   clear k9 k11 HS9 HS12 HS13 HS15
   obtain ⟨R, hR⟩ : ∃ R, (AdjV.turn V0 op.at_) = R := ⟨_, rfl⟩
   rw [hR] at HLK HS11
   clear hR
   go_wp2_with fail
   rw [HW2.out]
   ((with_reducible refine HS11.out.mono ?_); rintro e w3 ⟨⟨val3, rfl, hv3, ha3⟩, hb3⟩)
   obtain ⟨G1, k1, G2, k2, rfl, ig1, ig2, lg1, mg1, lg2, mg2⟩ := hv3
   have hga := ha3 _ _ _ _ _ _ _ rfl
   have HV3 := Lib.hid (show Vw.ViewAt w3 w3.heap.size (.agg #[.int .i64 R.1.st, .slice G1 R.1.dims.length k1, .slice G2 R.1.steps.length k2]) R.1 from ⟨G1, k1, G2, k2, rfl, ig1, ig2, lg1, mg1, lg2, mg2⟩)
   have HGA := Lib.hid hga
   have hr3 := HR2.out.below hb3 HR2.out.lt
   have r0 : w3.cell? ⟨w.heap.size + 1, 0, none⟩ = some (.int .i64 0) := hr3.cell 0
   have r1 : w3.cell? ⟨w.heap.size + 1, 1, none⟩ = some (.slice none 0 0) := hr3.cell 1
   have r2 : w3.cell? ⟨w.heap.size + 1, 2, none⟩ = some (.slice none 0 0) := hr3.cell 2
   have f0 := hr3.frozen 0
   have f1 := hr3.frozen 1
   have f2 := hr3.frozen 2
   have HB3 := Lib.hid (HB2.out.trans (hb3.mono HB2.out.size))
   clear ig1 ig2 lg1 mg1 lg2 mg2 ha3 hga hb3 hr3 x0 x1 x2 x3 x4 x5 z0 z1 z2
   go_wp2_with fail
   refine bodyPost_ret (v := .tuple #[.agg #[.int .i64 R.1.st, .slice G1 R.1.dims.length k1, .slice G2 R.1.steps.length k2], .int .i64 R.2]) (by simp [results, Try.results42, go_sem, r0, r1, r2]) rfl ⟨?_, Vw.three HB3.out (by omega) _ _ _⟩
   rw [HLK.out]
   refine ⟨_, rfl, Vw.view_set3 HV3.out (cc := w.heap.size + 1) rfl (fun b off e hp => by have := HGA.out.1 b off e hp; omega) (fun b off e hp => by have := HGA.out.2 b off e hp; omega) (by simp) _ _ _, ?_⟩
   intro st A5 n5 c5 A6 n6 c6 e5
   simp only [Value.agg.injEq, Array.mk.injEq, List.cons.injEq, Value.slice.injEq, and_true] at e5
   obtain ⟨_, ⟨rfl, _, _⟩, rfl, _, _⟩ := e5
   exact ⟨fun b off e hp => by have := HGA.out.1 b off e hp; omega, fun b off e hp => by have := HGA.out.2 b off e hp; omega⟩
  by_cases k12 : op.kind = 12
  ·have HLK := Lib.hid (show AdjD'.lookV op d = (AdjV.reform V0 op.dims) by rw [← HV.out]; unfold AdjD'.lookV; rw [if_neg (by simp [H0.out])]; simp [k12])
   rw [k12] at x0
   clear k9 k11 k12 HS9 HS11 HS13 HS15
   obtain ⟨R, hR⟩ : ∃ R, (AdjV.reform V0 op.dims) = R := ⟨_, rfl⟩
   rw [hR] at HLK HS12
   clear hR
   go_wp2_with fail
   rw [HW2.out]
   ((with_reducible refine HS12.out.mono ?_); rintro e w3 ⟨⟨val3, rfl, hv3, ha3⟩, hb3⟩)
   obtain ⟨G1, k1, G2, k2, rfl, ig1, ig2, lg1, mg1, lg2, mg2⟩ := hv3
   have hga := ha3 _ _ _ _ _ _ _ rfl
   have HV3 := Lib.hid (show Vw.ViewAt w3 w3.heap.size (.agg #[.int .i64 R.1.st, .slice G1 R.1.dims.length k1, .slice G2 R.1.steps.length k2]) R.1 from ⟨G1, k1, G2, k2, rfl, ig1, ig2, lg1, mg1, lg2, mg2⟩)
   have HGA := Lib.hid hga
   have hr3 := HR2.out.below hb3 HR2.out.lt
   have r0 : w3.cell? ⟨w.heap.size + 1, 0, none⟩ = some (.int .i64 0) := hr3.cell 0
   have r1 : w3.cell? ⟨w.heap.size + 1, 1, none⟩ = some (.slice none 0 0) := hr3.cell 1
   have r2 : w3.cell? ⟨w.heap.size + 1, 2, none⟩ = some (.slice none 0 0) := hr3.cell 2
   have f0 := hr3.frozen 0
   have f1 := hr3.frozen 1
   have f2 := hr3.frozen 2
   have HB3 := Lib.hid (HB2.out.trans (hb3.mono HB2.out.size))
   clear ig1 ig2 lg1 mg1 lg2 mg2 ha3 hga hb3 hr3 x0 x1 x2 x3 x4 x5 z0 z1 z2
   go_wp2_with fail
   refine bodyPost_ret (v := .tuple #[.agg #[.int .i64 R.1.st, .slice G1 R.1.dims.length k1, .slice G2 R.1.steps.length k2], .int .i64 R.2]) (by simp [results, Try.results42, go_sem, r0, r1, r2]) rfl ⟨?_, Vw.three HB3.out (by omega) _ _ _⟩
   rw [HLK.out]
   refine ⟨_, rfl, Vw.view_set3 HV3.out (cc := w.heap.size + 1) rfl (fun b off e hp => by have := HGA.out.1 b off e hp; omega) (fun b off e hp => by have := HGA.out.2 b off e hp; omega) (by simp) _ _ _, ?_⟩
   intro st A5 n5 c5 A6 n6 c6 e5
   simp only [Value.agg.injEq, Array.mk.injEq, List.cons.injEq, Value.slice.injEq, and_true] at e5
   obtain ⟨_, ⟨rfl, _, _⟩, rfl, _, _⟩ := e5
   exact ⟨fun b off e hp => by have := HGA.out.1 b off e hp; omega, fun b off e hp => by have := HGA.out.2 b off e hp; omega⟩
  by_cases k13 : op.kind = 13
  ·have HLK := Lib.hid (show AdjD'.lookV op d = (AdjV.cut V0 op.lo op.hi op.step) by rw [← HV.out]; unfold AdjD'.lookV; rw [if_neg (by simp [H0.out])]; simp [k13])
   rw [k13] at x0
   clear k9 k11 k12 k13 HS9 HS11 HS12 HS15
   obtain ⟨R, hR⟩ : ∃ R, (AdjV.cut V0 op.lo op.hi op.step) = R := ⟨_, rfl⟩
   rw [hR] at HLK HS13
   clear hR
   go_wp2_with fail
   rw [HW2.out]
   ((with_reducible refine HS13.out.mono ?_); rintro e w3 ⟨⟨val3, rfl, hv3, ha3⟩, hb3⟩)
   obtain ⟨G1, k1, G2, k2, rfl, ig1, ig2, lg1, mg1, lg2, mg2⟩ := hv3
   have hga := ha3 _ _ _ _ _ _ _ rfl
   have HV3 := Lib.hid (show Vw.ViewAt w3 w3.heap.size (.agg #[.int .i64 R.1.st, .slice G1 R.1.dims.length k1, .slice G2 R.1.steps.length k2]) R.1 from ⟨G1, k1, G2, k2, rfl, ig1, ig2, lg1, mg1, lg2, mg2⟩)
   have HGA := Lib.hid hga
   have hr3 := HR2.out.below hb3 HR2.out.lt
   have r0 : w3.cell? ⟨w.heap.size + 1, 0, none⟩ = some (.int .i64 0) := hr3.cell 0
   have r1 : w3.cell? ⟨w.heap.size + 1, 1, none⟩ = some (.slice none 0 0) := hr3.cell 1
   have r2 : w3.cell? ⟨w.heap.size + 1, 2, none⟩ = some (.slice none 0 0) := hr3.cell 2
   have f0 := hr3.frozen 0
   have f1 := hr3.frozen 1
   have f2 := hr3.frozen 2
   have HB3 := Lib.hid (HB2.out.trans (hb3.mono HB2.out.size))
   clear ig1 ig2 lg1 mg1 lg2 mg2 ha3 hga hb3 hr3 x0 x1 x2 x3 x4 x5 z0 z1 z2
   go_wp2_with fail
   refine bodyPost_ret (v := .tuple #[.agg #[.int .i64 R.1.st, .slice G1 R.1.dims.length k1, .slice G2 R.1.steps.length k2], .int .i64 R.2]) (by simp [results, Try.results42, go_sem, r0, r1, r2]) rfl ⟨?_, Vw.three HB3.out (by omega) _ _ _⟩
   rw [HLK.out]
   refine ⟨_, rfl, Vw.view_set3 HV3.out (cc := w.heap.size + 1) rfl (fun b off e hp => by have := HGA.out.1 b off e hp; omega) (fun b off e hp => by have := HGA.out.2 b off e hp; omega) (by simp) _ _ _, ?_⟩
   intro st A5 n5 c5 A6 n6 c6 e5
   simp only [Value.agg.injEq, Array.mk.injEq, List.cons.injEq, Value.slice.injEq, and_true] at e5
   obtain ⟨_, ⟨rfl, _, _⟩, rfl, _, _⟩ := e5
   exact ⟨fun b off e hp => by have := HGA.out.1 b off e hp; omega, fun b off e hp => by have := HGA.out.2 b off e hp; omega⟩
  have q9 : (op.kind == 9) = false := by simpa using k9
  have q11 : (op.kind == 11) = false := by simpa using k11
  have q12 : (op.kind == 12) = false := by simpa using k12
  have q13 : (op.kind == 13) = false := by simpa using k13
  have HLK := Lib.hid (show AdjD'.lookV op d = AdjV.flip V0 op.at_ by unfold AdjD'.lookV; rw [if_neg (by simp [H0.out]), if_neg k9, if_neg k11, if_neg k12, if_neg k13, HV.out])
  clear k9 k11 k12 k13 HS9 HS11 HS12 HS13
  obtain ⟨R, hR⟩ : ∃ R, (AdjV.flip V0 op.at_) = R := ⟨_, rfl⟩
  rw [hR] at HLK HS15
  clear hR
  go_wp2_with fail
  rw [HW2.out]
  ((with_reducible refine HS15.out.mono ?_); rintro e w3 ⟨⟨val3, rfl, hv3, ha3⟩, hb3⟩)
  obtain ⟨G1, k1, G2, k2, rfl, ig1, ig2, lg1, mg1, lg2, mg2⟩ := hv3
  have hga := ha3 _ _ _ _ _ _ _ rfl
  have HV3 := Lib.hid (show Vw.ViewAt w3 w3.heap.size (.agg #[.int .i64 R.1.st, .slice G1 R.1.dims.length k1, .slice G2 R.1.steps.length k2]) R.1 from ⟨G1, k1, G2, k2, rfl, ig1, ig2, lg1, mg1, lg2, mg2⟩)
  have HGA := Lib.hid hga
  have hr3 := HR2.out.below hb3 HR2.out.lt
  have r0 : w3.cell? ⟨w.heap.size + 1, 0, none⟩ = some (.int .i64 0) := hr3.cell 0
  have r1 : w3.cell? ⟨w.heap.size + 1, 1, none⟩ = some (.slice none 0 0) := hr3.cell 1
  have r2 : w3.cell? ⟨w.heap.size + 1, 2, none⟩ = some (.slice none 0 0) := hr3.cell 2
  have f0 := hr3.frozen 0
  have f1 := hr3.frozen 1
  have f2 := hr3.frozen 2
  have HB3 := Lib.hid (HB2.out.trans (hb3.mono HB2.out.size))
  clear ig1 ig2 lg1 mg1 lg2 mg2 ha3 hga hb3 hr3 x0 x1 x2 x3 x4 x5 z0 z1 z2
  go_wp2_with fail
  refine bodyPost_ret (v := .tuple #[.agg #[.int .i64 R.1.st, .slice G1 R.1.dims.length k1, .slice G2 R.1.steps.length k2], .int .i64 R.2]) (by simp [results, Try.results42, go_sem, r0, r1, r2]) rfl ⟨?_, Vw.three HB3.out (by omega) _ _ _⟩
  rw [HLK.out]
  refine ⟨_, rfl, Vw.view_set3 HV3.out (cc := w.heap.size + 1) rfl (fun b off e hp => by have := HGA.out.1 b off e hp; omega) (fun b off e hp => by have := HGA.out.2 b off e hp; omega) (by simp) _ _ _, ?_⟩
  intro st A5 n5 c5 A6 n6 c6 e5
  simp only [Value.agg.injEq, Array.mk.injEq, List.cons.injEq, Value.slice.injEq, and_true] at e5
  obtain ⟨_, ⟨rfl, _, _⟩, rfl, _, _⟩ := e5
  exact ⟨fun b off e hp => by have := HGA.out.1 b off e hp; omega, fun b off e hp => by have := HGA.out.2 b off e hp; omega⟩
 ·have HT := Lib.hid (show AdjD'.lookV op d = (AdjV.none_, (AdjV.size d).2) from if_pos h0)
  have hq : ((AdjV.size d).2 != 0) = true := by simpa using h0
  have hw : AdjV.whole d = (AdjV.none_, (AdjV.size d).2) := if_pos h0
  rw [hw] at HV1 ⊢
  simp only [show AdjV.none_.st = 0 from rfl, show AdjV.none_.dims.length = 0 from rfl, show AdjV.none_.steps.length = 0 from rfl]
  simp only [show AdjV.none_.st = 0 from rfl, show AdjV.none_.dims.length = 0 from rfl, show AdjV.none_.steps.length = 0 from rfl] at HV1
  clear h0 hw
  have HR2 := HR1.out.alloc (.cells #[.int .i64 0, .slice W1 0 n1, .slice W2 0 n2] 68)
  have HBB2 := Lib.hid (HB1.out.alloc (by omega) (.cells #[.int .i64 0, .slice W1 0 n1, .slice W2 0 n2] 68))
  have r0 : (w1.alloc (.cells #[.int .i64 0, .slice W1 0 n1, .slice W2 0 n2] 68)).cell? ⟨w.heap.size + 1, 0, none⟩ = some (.int .i64 0) := HR2.cell 0
  have r1 : (w1.alloc (.cells #[.int .i64 0, .slice W1 0 n1, .slice W2 0 n2] 68)).cell? ⟨w.heap.size + 1, 1, none⟩ = some (.slice none 0 0) := HR2.cell 1
  have r2 : (w1.alloc (.cells #[.int .i64 0, .slice W1 0 n1, .slice W2 0 n2] 68)).cell? ⟨w.heap.size + 1, 2, none⟩ = some (.slice none 0 0) := HR2.cell 2
  have f0 := HR2.frozen 0
  have f1 := HR2.frozen 1
  have f2 := HR2.frozen 2
  clear HR2
  go_wp2_with fail
  refine bodyPost_ret (v := .tuple #[.agg #[.int .i64 0, .slice W1 0 n1, .slice W2 0 n2], .int .i64 (AdjV.size d).2]) (by simp [results, Try.results42, go_sem, r0, r1, r2]) rfl ⟨?_, Vw.three HBB2.out (by omega) _ _ _⟩
  rw [HT.out]
  obtain ⟨B1, k1, B2, k2, e1, i1, i2, l1, l2, l3, l4⟩ := HV1.out
  simp only [Value.agg.injEq, Array.mk.injEq, List.cons.injEq, Value.slice.injEq, and_true] at e1
  obtain ⟨_, ⟨rfl, _, rfl⟩, rfl, _, rfl⟩ := e1
  exact ⟨_, rfl, ⟨W1, n1, W2, n2, rfl, fun h => by simp [AdjV.none_] at h, fun h => by simp [AdjV.none_] at h, by simp [AdjV.none_], l2, by simp [AdjV.none_], l4⟩, fun st A5 n5 c5 A6 n6 c6 _ => ⟨fun b off _ h => by simp [AdjV.none_] at h, fun b off _ h => by simp [AdjV.none_] at h⟩⟩
end Go.Proofs.Ytapedmpbkffopaa
end
