/-
  The walks of rowMajor and of Whole. Condition: the dimensions can be read (rowMajor: and are right).
-/
import Derived.Test.YtkbmnefjnfihbaaViewZ
import Derived.Test.YtkbmnefjnfihbaaOrdered1
import Derived.Test.YtkbmnefjnfihbaaViewPlainB
namespace Go.Proofs.Ytkbmnefjnfihbaa
set_option linter.unusedVariables false
open Go.RowKit Go.Shelf Adj
attribute [local go_sem] Oper.semAt_some

namespace Vw
/-- What lies while rowMajor goes through the dimensions from behind. -/
structure RmI (NL : Nat) (w : World) (A : Option Addr) (cap : Nat) (l : List Int) (B : Nat) (pre : List (Spot l)) (W : World) : Prop where
  size : NL ≤ W.heap.size
  len : pre.length ≤ l.length
  order : pre.map (·.1) = upto (down l.length) pre.length
  dims : Blk W w.heap.size 22 #[.slice A l.length cap]
  cells : Blk W (w.heap.size + 1) 3 (ints (List.replicate (l.length - pre.length) 0 ++ (AdjV.steps l).drop (l.length - pre.length))).toArray
  out : Blk W (w.heap.size + 1 + 1) 22 #[.slice (some ⟨w.heap.size + 1, 0, none⟩) l.length l.length]
  n_ : Blk W (w.heap.size + 1 + 1 + 1) 3 #[.int .i64 (AdjV.prod (l.drop (l.length - pre.length)))]
  ints : IntsAt W B A l
  below : Below w.heap.size w W
theorem RmI.own {NL : Nat} {w : World} {A : Option Addr} {cap : Nat} {l : List Int} {B : Nat} (hB : B ≤ w.heap.size) (hN : w.heap.size + 1 + 1 + 1 < NL) : OwnFrom NL (RmI NL w A cap l B) :=
  own_from_below (N := NL) (Nat.le_refl _) (fun s X Y h hb => ⟨Nat.le_trans h.size hb.size, h.len, h.order, h.dims.below hb (by omega), h.cells.below hb (by omega), h.out.below hb (by omega), h.n_.below hb (by omega), h.ints.below (hb.mono (by omega)), h.below.trans (hb.mono (by omega))⟩) (fun s X h => h.size)
theorem rm_put {l : List Int} {j q : Nat} (hj : j < l.length) (hq : q = down l.length j) (hpos : ∀ d ∈ l, 1 ≤ d) :
    (List.replicate (l.length - j) 0 ++ (AdjV.steps l).drop (l.length - j)).set q (AdjV.prod (l.drop (l.length - j))) = List.replicate (l.length - (j + 1)) 0 ++ (AdjV.steps l).drop (l.length - (j + 1)) := by
  unfold down at hq
  subst hq
  have e : l.length - j = (l.length - (j + 1)) + 1 := by omega
  have hk : l.length - (j + 1) < (AdjV.steps l).length := by rw [AdjV.steps_length]; omega
  have hs : (AdjV.steps l)[l.length - (j + 1)] = AdjV.prod (l.drop (l.length - j)) := by rw [AdjV.steps_pos hpos (by omega), ← e]
  rw [List.drop_eq_getElem_cons hk, hs, ← e]
  rw [List.set_append_left _ _ (by rw [List.length_replicate]; omega)]
  conv => lhs; rw [show List.replicate (l.length - j) (0 : Int) = List.replicate (l.length - (j + 1)) 0 ++ [0] by rw [e, List.replicate_succ']]
  rw [List.set_append_right _ _ (by rw [List.length_replicate]; omega), List.length_replicate, show l.length - 1 - j - (l.length - (j + 1)) = 0 by omega, List.append_assoc]
  rfl
theorem rm_prod {l : List Int} {j q : Nat} (hj : j < l.length) (hq : q = down l.length j) (hql : q < l.length) : AdjV.prod (l.drop (l.length - (j + 1))) = AdjV.prod (l.drop (l.length - j)) * l[q] := by
  unfold down at hq
  subst hq
  have e : l.length - j = (l.length - (j + 1)) + 1 := by omega
  have hk : l.length - (j + 1) < l.length := by omega
  rw [List.drop_eq_getElem_cons hk, ← e]
  simp only [AdjV.prod]
  rw [Int.mul_comm]
  congr 2
  omega
end Vw

set_option maxRecDepth 100000 in
set_option maxHeartbeats 4000000 in
theorem rowMajor_any (A : Option Addr) (cap : Nat) (l : List Int) (B : Nat) (w : World) (hl : l.length ≤ cap) (hl' : cap ≤ 9223372036854775807) (hB : B ≤ w.heap.size) (hm : Vw.IntsAt w B A l) (h0 : (AdjV.size l).2 = 0) :
    Calls Try.prog 44 #[.slice A l.length cap] w fun e w' => ∃ v, e = .returned v ∧ w'.ownsRow w.heap.size 3 1 v l.length (ints (AdjV.steps l)) ∧ Below w.heap.size w w' := by
  obtain ⟨z1, z2, z3, z4, z5⟩ := AdjV.size_fine h0
  have HZ2 := Lib.hid z2
  have hl16 : l.length ≤ 65536 := by omega
  have HM := Lib.hid hm
  have HMKI := Lib.hid (fun W => run_make_int l.length hl16 W)
  obtain ⟨W2, hW2⟩ : ∃ W2, ((w.alloc (.cells #[.slice A l.length cap] 22)).alloc (.cells (ints (List.replicate l.length 0)).toArray 3)).alloc (.cells #[.slice (some ⟨w.heap.size + 1, 0, none⟩) l.length l.length] 22) = W2 := ⟨_, rfl⟩
  have hb2 : Below w.heap.size w W2 := by rw [← hW2]; exact (((Below.refl _ _).alloc (Nat.le_refl _) _).alloc (by simp) _).alloc (by simp; omega) _
  have HB2 := Lib.hid hb2
  have hs2 : W2.heap.size = w.heap.size + 1 + 1 + 1 := by rw [← hW2]; simp
  have hd2 : Blk W2 w.heap.size 22 #[.slice A l.length cap] := by rw [← hW2]; exact ((Blk.new w _ _).alloc _).alloc _
  have hc2 : Blk W2 (w.heap.size + 1) 3 (ints (List.replicate l.length 0)).toArray := by rw [← hW2]; exact (Vw.blk2 w _ _ _).alloc _
  have ho2 : Blk W2 (w.heap.size + 1 + 1) 22 #[.slice (some ⟨w.heap.size + 1, 0, none⟩) l.length l.length] := by rw [← hW2]; exact Vw.blk3 w _ _ _ _
  have HD2 := Lib.hid hd2
  have HC2 := Lib.hid hc2
  have HO2 := Lib.hid ho2
  have HCT := Lib.hid (Contains_any 0 A cap l B W2 (by omega) (hm.below (hb2.mono hB)))
  have HW2 := Lib.hid hW2
  have HS2 := Lib.hid hs2
  clear z2 z3 hm hW2 hb2 hs2 hd2 hc2 ho2
  refine (callsIn_wide (n := 6)).1 ?_
  refine callsIn_of_wp_marks Try.func44 rfl trivial ?_ rfl
  refine wpIn_wide.2 ?_
  simp only [Try.ntmps44, List.size_toArray, List.length_cons, List.length_nil, Nat.reduceAdd, Nat.reduceSub, Array.replicate_succ, Array.replicate_zero, List.push_toArray, List.append_toArray, List.nil_append, List.cons_append]
  have hmk := HMKI.out
  go_wp2_with fail
  rw [HW2.out]
  clear hmk
  refine HCT.out.mono ?_
  rintro e w1 ⟨rfl, rfl⟩
  have o2 : W2.cell? ⟨w.heap.size + 1 + 1, 0, none⟩ = some (.slice (some ⟨w.heap.size + 1, 0, none⟩) l.length l.length) := HO2.out.cell 0
  have d2 : W2.cell? ⟨w.heap.size, 0, none⟩ = some (.slice A l.length cap) := HD2.out.cell 0
  have y1 : w.heap.size < W2.heap.size := by have := HS2.out; omega
  have y2 : w.heap.size + 1 + 1 < W2.heap.size := by have := HS2.out; omega
  by_cases hz : (0 : Int) ∈ l
  · rw [show decide ((0 : Int) ∈ l) = true by simpa using hz]
    have HZ := Lib.hid hz
    clear hz
    go_wp2_with fail
    refine ⟨.slice (some ⟨w.heap.size + 1, 0, none⟩) l.length l.length, by simp [results, Try.f44, go_sem], _, rfl, ?_, HB2.out⟩
    have hst : AdjV.steps l = List.replicate l.length 0 := by
      apply List.ext_getElem
      · simp [AdjV.steps_length]
      · intro k k1 k2; rw [AdjV.steps_at, if_pos HZ.out]; simp
    rw [hst]
    have h := HC2.out
    exact ⟨by rw [ints_length, List.length_replicate, Nat.mul_one], .inr ⟨w.heap.size + 1, l.length, _, rfl, by omega, h, Nat.le_refl _, by unfold maxLen; omega, by simp [ints], by simp [ints]⟩⟩
  · rw [show decide ((0 : Int) ∈ l) = false by simpa using hz]
    have hpos : ∀ d ∈ l, 1 ≤ d := fun d hd => by
      have := HZ2.out d hd
      have h1 : d ≠ 0 := fun e => hz (e ▸ hd)
      omega
    have HPOS := Lib.hid hpos
    clear hz hpos
    go_wp2_with fail
    refine (callsIn_wide.1 (back_in Fence.wide 5 trivial rfl _ _ _ _)).mono ?_
    rintro e w4 ⟨rfl, rfl⟩
    go_wp2_with fail
    rw [HS2.out]
    obtain ⟨W0, hW0⟩ : ∃ W0, (W2.alloc (.cells #[.int .i64 1] 3)).alloc (.cells #[.slice A l.length cap] 22) = W0 := ⟨_, rfl⟩
    have hsz : W0.heap.size = w.heap.size + 1 + 1 + 1 + 1 + 1 := by rw [← hW0]; simp [HS2.out]
    have hb0 : Below w.heap.size w W0 := by rw [← hW0]; exact (HB2.out.alloc (by omega) _).alloc (by simp; omega) _
    have hbx : Blk W0 (w.heap.size + 1 + 1 + 1 + 1) 22 #[.slice A l.length cap] := by
      rw [← hW0]
      have h := Blk.new (W2.alloc (.cells #[.int .i64 1] 3)) 22 #[.slice A l.length cap]
      rwa [show (W2.alloc (.cells #[.int .i64 1] 3)).heap.size = w.heap.size + 1 + 1 + 1 + 1 by simp [HS2.out]] at h
    have HI0 := Lib.hid (show Vw.RmI W0.heap.size w A cap l B [] W0 from by
      refine ⟨Nat.le_refl _, Nat.zero_le _, rfl, ?_, ?_, ?_, ?_, HM.out.below (hb0.mono hB), hb0⟩
      · rw [← hW0]; exact (HD2.out.alloc _).alloc _
      · rw [← hW0]
        have h := (HC2.out.alloc (.cells #[.int .i64 1] 3)).alloc (.cells #[.slice A l.length cap] 22)
        rw [List.drop_of_length_le (by rw [AdjV.steps_length]; simp), List.append_nil]
        exact h
      · rw [← hW0]; exact (HO2.out.alloc _).alloc _
      · rw [← hW0]
        have h := (Blk.new W2 3 #[.int .i64 1]).alloc (.cells #[.slice A l.length cap] 22)
        rw [HS2.out] at h
        simpa [AdjV.prod] using h)
    have hs4 : (W2.alloc (.cells #[.int .i64 1] 3)).heap.size = w.heap.size + 1 + 1 + 1 + 1 := by simp [HS2.out]
    rw [hW0]
    obtain ⟨b, hb, hstop⟩ := back_ord Fence.wide 5 trivial rfl (by omega) (w.heap.size + 1 + 1 + 1 + 1) A cap B l (by omega) W0 (by omega) (by omega) (hbx.cell 0) HI0.out.ints
    clear hW0 hbx hb0 o2 d2 hs4 y1 y2
    refine (wpIn_wide (n := 6)).1 ?_
    refine wpIn_rangeFunc_ord1 5 (fun x : Vw.Spot l => .int .i64 (x.1 : Int)) (fun x => .int .i64 (l[x.1]'x.2)) rfl (by omega) (gf := 58) (lb := #[.pointer (some ⟨w.heap.size + 1 + 1 + 1 + 1, 0, none⟩)]) rfl trivial (enters_of Try.func58 (by kernel_rfl) rfl) hstop
      (fun h1 h2 => h1.trans h2) (fun W y o o' hl hg _ _ => Vw.Keeps.book (N := W0.heap.size) (by omega) (by rcases hb with rfl | hb <;> omega) W y o o' hl hg) (Below.refl _ _)
      (Vw.RmI W0.heap.size w A cap l B) (fun _ _ _ => False) (Vw.RmI.own hB (by omega)) (fun _ _ _ _ _ hs _ _ => hs) HI0.out ?assign ?body ?done ?stop
    case assign =>
      intro y x W K hK
      simp only [List.setIfInBounds_toArray, List.set_cons_zero, List.set_cons_succ] at hK ⊢
      gi_wp2
      exact hK
    case body =>
      rintro y pre ⟨q, hq⟩ W hI hlt hR
      dsimp only at hR ⊢
      simp only [List.setIfInBounds_toArray, List.set_cons_zero, List.set_cons_succ]
      have hdp := HPOS.out _ (List.getElem_mem hq)
      have HPUT := Lib.hid (Vw.rm_put hlt hR HPOS.out)
      have HPRD := Lib.hid (Vw.rm_prod hlt hR hq)
      have HORD := Lib.hid (Vw.order_next (hq := hq) hI.order hR)
      have hnn : 0 ≤ AdjV.prod (l.drop (l.length - pre.length)) * l[q] ∧ AdjV.prod (l.drop (l.length - pre.length)) * l[q] ≤ 65536 := by
        rw [← HPRD.out]
        have a1 := AdjV.prod_pos (l.drop (l.length - (pre.length + 1))) (fun d hd => HPOS.out d (List.mem_of_mem_drop hd))
        have a2 := AdjV.prod_pos (l.take (l.length - (pre.length + 1))) (fun d hd => HPOS.out d (List.mem_of_mem_take hd))
        have e : AdjV.prod l = AdjV.prod (l.take (l.length - (pre.length + 1))) * AdjV.prod (l.drop (l.length - (pre.length + 1))) := by rw [← AdjV.prod_append, List.take_append_drop]
        have a3 := Int.mul_le_mul_of_nonneg_right a2 (show 0 ≤ AdjV.prod (l.drop (l.length - (pre.length + 1))) by omega)
        rw [Int.one_mul, ← e] at a3
        omega
      obtain ⟨b2, off2, rfl, hb2, hcs⟩ := hI.ints (by omega)
      have h5 := hcs q hq
      have h1 : W.cell? ⟨w.heap.size, 0, none⟩ = some (.slice (some ⟨b2, off2, none⟩) l.length cap) := hI.dims.cell 0
      have h2 : W.cell? ⟨w.heap.size + 1 + 1 + 1, 0, none⟩ = some (.int .i64 (AdjV.prod (l.drop (l.length - pre.length)))) := hI.n_.cell 0
      have h2f := hI.n_.frozen 0
      have h3 : W.cell? ⟨w.heap.size + 1 + 1, 0, none⟩ = some (.slice (some ⟨w.heap.size + 1, 0, none⟩) l.length l.length) := hI.out.cell 0
      have hln : (List.replicate (l.length - pre.length) (0 : Int) ++ (AdjV.steps l).drop (l.length - pre.length)).length = l.length := by rw [List.length_append, List.length_replicate, List.length_drop, AdjV.steps_length]; omega
      have h4 : ∃ c0, W.cell? ⟨w.heap.size + 1, q, none⟩ = some (.int .i64 c0) := by
        refine ⟨(List.replicate (l.length - pre.length) (0 : Int) ++ (AdjV.steps l).drop (l.length - pre.length))[q]'(by omega), ?_⟩
        rw [hI.cells.cell q]
        simpa using ints_at (List.replicate (l.length - pre.length) (0 : Int) ++ (AdjV.steps l).drop (l.length - pre.length)) q (by omega)
      obtain ⟨c0, h4⟩ := h4
      have h4f := hI.cells.frozen q
      have hbW : w.heap.size + 1 + 1 + 1 < W.heap.size := hI.n_.lt
      have HI := Lib.hid hI
      have HN := Lib.hid hI.n_
      have HLN := Lib.hid hln
      have HR := Lib.hid hR
      clear hI hcs hln hR
      generalize hP : AdjV.prod (l.drop (l.length - pre.length)) = pn at HPUT HPRD hnn h2 HN ⊢
      generalize hD : l[q] = d at hdp HPRD hnn h5 ⊢
      have i1 : (0 : Int) ≤ (q : Int) := by omega
      have i2 : (q : Int) < (l.length : Int) := by omega
      have hqw : IntKind.i64.wrap (pn * d) = pn * d := IntWalk.i64_in _ (by omega)
      clear hP hD
      gi_wp2_with fail
      obtain ⟨W1, hW1⟩ : ∃ W1, W.setCell ⟨w.heap.size + 1, q, none⟩ (.int .i64 pn) = W1 := ⟨_, rfl⟩
      rw [hW1]
      have g1 : Blk W1 w.heap.size 22 #[.slice (some ⟨b2, off2, none⟩) l.length cap] := by rw [← hW1]; exact HI.out.dims.far (p := ⟨w.heap.size + 1, q, none⟩) (by first | (simp; done) | (simp; omega) | omega) _
      have g2 : Blk W1 (w.heap.size + 1 + 1 + 1) 3 #[.int .i64 pn] := by rw [← hW1]; exact HN.out.far (p := ⟨w.heap.size + 1, q, none⟩) (by first | (simp; done) | (simp; omega) | omega) _
      have g3 : Blk W1 (w.heap.size + 1 + 1) 22 #[.slice (some ⟨w.heap.size + 1, 0, none⟩) l.length l.length] := by rw [← hW1]; exact HI.out.out.far (p := ⟨w.heap.size + 1, q, none⟩) (by first | (simp; done) | (simp; omega) | omega) _
      have g4 : Blk W1 (w.heap.size + 1) 3 (ints (List.replicate (l.length - (pre.length + 1)) 0 ++ (AdjV.steps l).drop (l.length - (pre.length + 1)))).toArray := by
        rw [← hW1, ← HPUT.out, ← ints_set]; exact HI.out.cells.set_ q _
      have g5 : Below w.heap.size W W1 := by rw [← hW1]; exact (Below.refl _ W).setCell (p := ⟨w.heap.size + 1, q, none⟩) (by first | (simp; done) | (simp; omega) | omega) _
      have g6 : Vw.Keeps (w.heap.size + 1 + 1 + 1 + 1) b W W1 := by rw [← hW1]; exact Vw.keeps_set (NL := 0) (by omega) (by rcases hb with rfl | hb <;> omega)
      have g7 : KeepsFrom W0.heap.size W W1 := by rw [← hW1]; exact Vw.from_set _ _ _
      have g8 : W1.cell? ⟨b2, off2 + q, none⟩ = some (.int .i64 d) := (g5.cell (p := ⟨b2, off2 + q, none⟩) (by simp; omega)).trans h5
      have hs1 : W1.heap.size = W.heap.size := by rw [← hW1]; simp
      have G := Lib.hid (And.intro g1 (And.intro g2 (And.intro g3 (And.intro g4 (And.intro g5 (And.intro g6 g7))))))
      have HS1 := Lib.hid hs1
      have c1 : W1.cell? ⟨w.heap.size, 0, none⟩ = some (.slice (some ⟨b2, off2, none⟩) l.length cap) := g1.cell 0
      have c2 : W1.cell? ⟨w.heap.size + 1 + 1 + 1, 0, none⟩ = some (.int .i64 pn) := g2.cell 0
      have c2f := g2.frozen 0
      clear g1 g2 g3 g4 g5 g6 g7 h1 h2 h3 h4 h5 h2f h4f hW1 hs1
      refine wpIn_region_still_tail2 6 (by kernel_rfl) (by kernel_rfl) (by kernel_rfl) ?_
      simp only [List.take_succ_cons, List.take_zero, List.drop_succ_cons, List.drop_zero]
      repeat still_step
      try refine wpStill_nil ?_
      change wpList _ _ _ _ _ W1.drew
      go_wp2_with fail
      obtain ⟨g1, g2, g3, g4, g5, g6, g7⟩ := G.out
      have e : (pre ++ [(⟨q, hq⟩ : Vw.Spot l)]).length = pre.length + 1 := by simp
      refine ⟨g7.trans ((Vw.from_set _ _ _).trans (Vw.from_drew _)), g6.trans (Vw.Keeps.drew (Vw.keeps_set (NL := 0) (by omega) (by rcases hb with rfl | hb <;> omega))), ?_, by rw [e]; exact hlt, HORD.out, (g1.far (p := ⟨w.heap.size + 1 + 1 + 1, 0, none⟩) (by first | (simp; done) | (simp; omega) | omega) _).drew, ?_, (g3.far (p := ⟨w.heap.size + 1 + 1 + 1, 0, none⟩) (by first | (simp; done) | (simp; omega) | omega) _).drew, ?_, HI.out.ints.below ((g5.trans ((Below.refl _ _).setCell (p := ⟨w.heap.size + 1 + 1 + 1, 0, none⟩) (by first | (simp; done) | (simp; omega) | omega) _).drew).mono hB), HI.out.below.trans (g5.trans ((Below.refl _ _).setCell (p := ⟨w.heap.size + 1 + 1 + 1, 0, none⟩) (by first | (simp; done) | (simp; omega) | omega) _).drew)⟩
      · have h1 := HI.out.size
        have h2 := HS1.out
        simp [World.drew]
        omega
      · rw [e]; exact (g4.far (p := ⟨w.heap.size + 1 + 1 + 1, 0, none⟩) (by first | (simp; done) | (simp; omega) | omega) _).drew
      · rw [e, HPRD.out]; exact (g2.set_ 0 _).drew
    case done =>
      rintro D ys W hD hys hI hK
      have hyl : ys.length = l.length := by have := congrArg List.length hys; rwa [List.length_map, Vw.upto_length] at this
      have hDW : D < W.heap.size := (Array.getElem?_eq_some_iff.1 hK).1
      have hcl := hI.cells
      rw [hyl, Nat.sub_self, List.replicate_zero, List.nil_append, List.drop_zero] at hcl
      have h3 : W.cell? ⟨w.heap.size + 1 + 1, 0, none⟩ = some (.slice (some ⟨w.heap.size + 1, 0, none⟩) l.length l.length) := hI.out.cell 0
      have HBW := Lib.hid hI.below
      have HCL := Lib.hid hcl
      have HK := Lib.hid hK
      clear hI hys hcl hK
      go_wp2_with fail
      refine ⟨by simp, .inl ⟨_, _, rfl, run_takeDeferred HK.out, ?_⟩⟩
      have hbp : Below D W (W.putObj D (.deferred none)) := (Below.refl D W).grown (grownBy_putObj' W D (.deferred none)) (Nat.le_of_lt hDW) (fun k e => by cases e; exact Nat.le_refl _)
      refine ⟨.slice (some ⟨w.heap.size + 1, 0, none⟩) l.length l.length, by simp [results, Try.f44, go_sem], _, rfl, ?_, HBW.out.trans (hbp.mono (by omega))⟩
      have h := HCL.out.below hbp (by omega)
      exact ⟨by rw [ints_length, AdjV.steps_length, Nat.mul_one], .inr ⟨w.heap.size + 1, l.length, _, rfl, by omega, h, Nat.le_refl _, by unfold maxLen; omega, by simp [ints, AdjV.steps_length], by rw [Nat.mul_one]; exact List.take_of_length_le (by simp [ints, AdjV.steps_length])⟩⟩
    case stop =>
      rintro D c pre W _ _ h _
      exact h.elim

set_option maxHeartbeats 4000000 in
theorem Whole_any (DA : Option Addr) (cdi : Nat) (l : List Int) (B : Nat) (w : World) (hB : B ≤ w.heap.size) (hdi : Vw.IntsAt w B DA l) (md : l.length ≤ cdi) (md2 : cdi ≤ 9223372036854775807) :
    Calls Try.prog 19 #[.slice DA l.length cdi] w fun e w' => Vw.ViewOut B w w' (AdjV.whole l) e ∧ Below w.heap.size w w' := by
  have HB := Lib.hid ((Below.refl w.heap.size w).alloc (Nat.le_refl _) (.cells #[.int .i64 0, .slice none 0 0, .slice none 0 0] 34))
  have hbx := Blk.new w 34 #[.int .i64 0, .slice none 0 0, .slice none 0 0]
  have HSZ := Lib.hid (Size_any DA cdi l B _ (by omega) (hdi.below (HB.out.mono hB)))
  by_cases h0 : (AdjV.size l).2 = 0
  · have hR : Vw.sizeR l = .tuple #[.int .i64 (AdjV.size l).1, .int .i64 0] := by unfold Vw.sizeR; rw [h0]
    have HR := Lib.hid hR
    have hT : AdjV.whole l = (⟨0, l, AdjV.steps l⟩, 0) := by unfold AdjV.whole; rw [if_neg (by simp [h0])]
    have HT := Lib.hid hT
    have hl6 := (AdjV.size_fine h0).1
    have HCL := Lib.hid (Clone_any DA cdi l B _ (by omega) (hdi.below (HB.out.mono hB)) (Nat.le_trans hB HB.out.size))
    have HRM := Lib.hid (fun (W : World) (hb : Below w.heap.size w W) => rowMajor_any DA cdi l B W md md2 (Nat.le_trans hB hb.size) (hdi.below (hb.mono hB)) h0)
    have HX := Lib.hid hbx
    clear hR h0 hT hdi hbx
    go_enter Try.func19, Try.ntmps19
    go_wp2_with fail
    refine HSZ.out.mono ?_
    rintro e w1 ⟨rfl, rfl⟩
    rw [HR.out]
    go_wp2_with fail
    refine HCL.out.mono ?_
    rintro e w1 ⟨v1, rfl, ho1, hb1⟩
    obtain ⟨G1, m1, rfl, hm1⟩ := Vw.own_any ho1
    have HB1 := Lib.hid (HB.out.trans (hb1.mono HB.out.size))
    have HX1 := Lib.hid (HX.out.below hb1 HX.out.lt)
    have HO1 := Lib.hid ho1
    have hz1 : w.heap.size + 1 ≤ w1.heap.size := by have := hb1.size; simpa using this
    clear ho1 hb1
    go_wp2_with fail
    refine (HRM.out _ HB1.out).mono ?_
    rintro e w2 ⟨v2, rfl, ho2, hb2⟩
    obtain ⟨G2, m2, rfl, hm2⟩ := Vw.own_any ho2
    have hx2 := HX1.out.below hb2 HX1.out.lt
    have ho1 := Vw.own_kept HO1.out hb2
    obtain ⟨A1, n1, hv1, ia1, la1, ma1, ga1⟩ := Vw.own_view ho1
    have ho2' := ho2
    rw [← AdjV.steps_length l] at ho2'
    obtain ⟨A2, n2, hv2, ia2, la2, ma2, ga2⟩ := Vw.own_view ho2'
    simp only [Value.slice.injEq] at hv1 hv2
    obtain ⟨rfl, _, rfl⟩ := hv1
    obtain ⟨rfl, _, rfl⟩ := hv2
    have HG := Lib.hid (And.intro ia1 (And.intro la1 (And.intro ma1 (And.intro ga1 (And.intro ia2 (And.intro la2 (And.intro ma2 ga2)))))))
    have HB2 := Lib.hid (HB1.out.trans (hb2.mono HB1.out.size))
    have hz2 : w1.heap.size ≤ w2.heap.size := hb2.size
    have r0 : w2.cell? ⟨w.heap.size, 0, none⟩ = some (.int .i64 0) := hx2.cell 0
    have r1 : w2.cell? ⟨w.heap.size, 1, none⟩ = some (.slice none 0 0) := hx2.cell 1
    have r2 : w2.cell? ⟨w.heap.size, 2, none⟩ = some (.slice none 0 0) := hx2.cell 2
    have f0 := hx2.frozen 0
    have f1 := hx2.frozen 1
    have f2 := hx2.frozen 2
    clear ho1 ho2 ho2' hb2 hx2 ia1 la1 ma1 ga1 ia2 la2 ma2 ga2
    go_wp2_with fail
    obtain ⟨ia1, la1, ma1, ga1, ia2, la2, ma2, ga2⟩ := HG.out
    refine bodyPost_ret (v := .tuple #[.agg #[.int .i64 0, .slice G1 l.length m1, .slice G2 l.length m2], .int .i64 0]) (by simp [results, Try.results19, go_sem, r0, r1, r2]) rfl ⟨?_, Vw.three HB2.out (Nat.le_refl _) _ _ _⟩
    rw [HT.out]
    rw [AdjV.steps_length] at la2
    refine Vw.out_mk ⟨G1, m1, G2, m2, by simp [AdjV.steps_length], ?_, ?_, la1, ma1, by simpa [AdjV.steps_length] using la2, ma2⟩ ?_ ?_
    · exact (ia1.set3 (fun b off e hp => by have := ga1 b off e hp; simp at this; omega) _ _ _).up (by simp)
    · exact (ia2.set3 (fun b off e hp => by have := ga2 b off e hp; omega) _ _ _).up (by simp)
    · exact fun b off e hp => by have := ga1 b off e hp; simp at this; omega
    · exact fun b off e hp => by have := ga2 b off e hp; omega
  · have HT := Lib.hid (show AdjV.whole l = (AdjV.none_, (AdjV.size l).2) from if_pos h0)
    have hq : ((AdjV.size l).2 != 0) = true := by simpa using h0
    clear h0 hdi hbx
    go_enter Try.func19, Try.ntmps19
    go_wp2_with fail
    refine HSZ.out.mono ?_
    rintro e w1 ⟨rfl, rfl⟩
    simp only [Vw.sizeR]
    go_wp2_with fail
    refine bodyPost_ret (v := .tuple #[.agg #[.int .i64 0, .slice none 0 0, .slice none 0 0], .int .i64 (AdjV.size l).2]) (by simp [results, Try.results19, go_sem]) rfl ⟨?_, HB.out⟩
    rw [HT.out]; exact Vw.out_none _ _ _ _
end Go.Proofs.Ytkbmnefjnfihbaa
