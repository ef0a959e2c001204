/-
  The walk of the program's Index: the reference's answer. Condition: the dimensions can be read.
-/
import Derived.Test.YtkbmnefjnfihbaaViewE
import Derived.Test.YtkbmnefjnfihbaaViewF
import Derived.Laws.MakeOwn
import Derived.Test.YtkbmnefjnfihbaaViewPlain2
import Derived.Test.YtkbmnefjnfihbaaStillTailIn
namespace Go.Proofs.Ytkbmnefjnfihbaa
set_option linter.unusedVariables false
open Go.RowKit Go.Shelf Adj
attribute [local go_sem] Oper.semAt_some

theorem made_zero (c : Nat) : madeCells (Value.int .i64 0).cells c = (ints (List.replicate c 0)).toArray := by
  apply Array.ext
  · simp [size_madeCells, ints]
  · intro i h1 h2
    simp [madeCells, ints, Value.cells, Nat.mod_one]

theorem run_make_int (c : Nat) (h : c ≤ 65536) (w : World) :
    (Instr.makeSlice 22 (.int .i64 (c : Int)) (.int .i64 (c : Int))).run Try.prog w = .ok (.slice (some ⟨w.heap.size, 0, none⟩) c c) (w.alloc (.cells (ints (List.replicate c 0)).toArray 3)) := by
  rw [← made_zero]
  obtain ⟨i0, hi, hz0, hz1, hz2⟩ := info_parts Try.infoOf3
  have hb : (i0.bytes : Int) * (c : Int) ≤ 281474976710656 := by rw [hz2]; omega
  have hr := run_make (P := Try.prog) w 22 3 i0 _ Try.underlying22 hi hz0 .i64 .i64 c c (by omega) (by omega) hb (by omega)
  simp only [Int.toNat_natCast, hz1, Nat.mul_one] at hr
  exact hr

theorem back_stops_any (F : Fence) (n : Nat) (h8 : F.fn 58) (hro : F.round = none) (hn : 1 ≤ n) (Bs : Nat) (A : Option Addr) (cap B : Nat) (l : List Int) (hlen : l.length ≤ 9223372036854775807) (w : World) (hBs : Bs < w.heap.size) (hB : B ≤ w.heap.size)
    (hc : w.cell? ⟨Bs, 0, none⟩ = some (.slice A l.length cap)) (hI : Vw.IntsAt w B A l) :
    ∃ b, (b = Bs ∨ b < B) ∧ SeqStopsK F n Try.prog 58 #[.pointer (some ⟨Bs, 0, none⟩)] (fun x : Vw.Spot l => Vw.told x) (Vw.Keeps Bs b) (fun ys => ys.map (·.1) = Vw.upto (Vw.down l.length) l.length) (fun _ => True) l.length w := by
  by_cases h : 0 < l.length
  · obtain ⟨b, off, rfl, hb, hcs⟩ := hI h
    exact ⟨b, .inr hb, back_stops F n h8 hro hn Bs b off cap l hlen w hBs (by omega) hc hcs⟩
  · obtain rfl : l = [] := List.length_eq_zero_iff.1 (by omega)
    exact ⟨Bs, .inl rfl, fun y J Jx W hW _ _ hY h0 => (back1_nil_in F n h8 hro y Bs A cap J W ((hW.cell (p := ⟨Bs, 0, none⟩) hBs).trans hc) h0).mono fun e W' ⟨he, hj⟩ => ⟨he, .inl ⟨_, rfl, hj⟩⟩⟩

namespace Vw
theorem own_from_below {β : Type} {N B : Nat} {I : β → World → Prop} (hN : N ≤ B) (h : ∀ s A B', I s A → Below N A B' → I s B') (hs : ∀ s A, I s A → N ≤ A.heap.size) : OwnFrom B I :=
  fun s W W' row hi hg hr => h s W W' hi ((Below.refl N W).grown hg (hs s W hi) (fun k e => Nat.le_trans hN (hr k e).1))
/-- What lies while Index goes through the dimensions. -/
structure IxI (w : World) (A : Option Addr) (cap : Nat) (l : List Int) (p : Int) (B : Nat) (pre : List (Spot l)) (W : World) : Prop where
  size : w.heap.size + 4 ≤ W.heap.size
  dims : Blk W w.heap.size 22 #[.slice A l.length cap]
  place : Blk W (w.heap.size + 1) 3 #[.int .i64 (AdjV.ixRun l p (pre.map (·.1))).1]
  cells : Blk W (w.heap.size + 1 + 1) 3 (ints (AdjV.ixRun l p (pre.map (·.1))).2).toArray
  out : Blk W (w.heap.size + 1 + 1 + 1) 22 #[.slice (some ⟨w.heap.size + 1 + 1, 0, none⟩) l.length l.length]
  ints : IntsAt W B A l
  below : Below w.heap.size w W
theorem IxI.own {w : World} {A : Option Addr} {cap : Nat} {l : List Int} {p : Int} {B : Nat} (hB : B ≤ w.heap.size) : OwnFrom (w.heap.size + 1 + 1 + 1 + 1 + 1) (IxI w A cap l p B) :=
  own_from_below (N := w.heap.size + 4) (by omega) (fun s X Y h hb => ⟨Nat.le_trans h.size hb.size, h.dims.below hb (by omega), h.place.below hb (by omega), h.cells.below hb (by omega), h.out.below hb (by omega), h.ints.below (hb.mono (by omega)), h.below.trans (hb.mono (by omega))⟩) (fun s X h => h.size)
theorem Keeps.book {Bs b N : Nat} (h1 : Bs < N) (h2 : b < N) (W : World) (l : Nat) (o o' : Obj) (hl : N ≤ l) (hg : W.heap[l]? = some o) : Keeps Bs b W (W.putObj l o') :=
  Keeps.of_below ((Below.refl l W).grown (grownBy_putObj' W l o') (Nat.le_of_lt (Array.getElem?_eq_some_iff.1 hg).1) (fun k e => by cases e; exact Nat.le_refl _)) (by omega) (by omega)
end Vw

set_option maxRecDepth 100000 in
set_option maxHeartbeats 2000000 in
theorem Index_fine (A : Option Addr) (cap : Nat) (l : List Int) (p : Int) (B : Nat) (w : World) (hl : l.length ≤ cap) (hl' : cap ≤ 9223372036854775807) (hB : B ≤ w.heap.size) (hm : Vw.IntsAt w B A l) (h0 : (AdjV.size l).2 = 0) (hp : ¬ (p < 0 ∨ (AdjV.size l).1 ≤ p)) :
    Calls Try.prog 15 #[.slice A l.length cap, .int .i64 p] w fun e w' => ∃ g, e = .returned (.tuple #[.slice (some ⟨g, 0, none⟩) l.length l.length, .int .i64 0]) ∧ Below w.heap.size w w' ∧
      w.heap.size ≤ g ∧ Blk w' g 3 (ints (AdjV.idx l p)).toArray := by
  have HSZ := Lib.hid (fun W (h : Vw.IntsAt W B A l) => Size_any A cap l B W (by omega) h)
  obtain ⟨z1, z2, z3, z4, z5⟩ := AdjV.size_fine h0
  have hR : Vw.sizeR l = .tuple #[.int .i64 (AdjV.size l).1, .int .i64 0] := by unfold Vw.sizeR; rw [h0]
  have HR := Lib.hid hR
  have HM := Lib.hid hm
  obtain ⟨hix, hp0, hp1, hpos⟩ := AdjV.index_ok h0 hp
  have HPOS := Lib.hid hpos
  have hpn : p < (AdjV.size l).1 := by omega
  have hmk := fun W => run_make_int l.length (by omega) W
  clear hR hm z2 hix hpos hp
  refine (callsIn_wide (n := 6)).1 ?_
  refine callsIn_of_wp_marks Try.func15 rfl trivial ?_ rfl
  simp only [Try.ntmps15, List.size_toArray, List.length_cons, List.length_nil, Nat.reduceAdd, Nat.reduceSub, Array.replicate_succ, Array.replicate_zero, List.push_toArray, List.append_toArray, List.nil_append, List.cons_append]
  have hb2 : Below w.heap.size w ((w.alloc (.cells #[.slice A l.length cap] 22)).alloc (.cells #[.int .i64 p] 3)) := ((Below.refl _ w).alloc (Nat.le_refl _) _).alloc (by simp) _
  have HB2 := Lib.hid hb2
  clear hb2
  gi_wp2_with fail
  refine ⟨trivial, (callsIn_wide.2 (HSZ.out _ (HM.out.below (HB2.out.mono hB)))).mono ?_⟩
  rintro e w1 ⟨rfl, rfl⟩
  rw [HR.out]
  gi_wp2_with fail
  refine ⟨trivial, (back_in Fence.wide 5 trivial rfl _ _ _ _).mono ?_⟩
  rintro e w1 ⟨rfl, rfl⟩
  gi_wp2_with fail
  obtain ⟨W0, hW0⟩ : ∃ W0, (((((w.alloc (.cells #[.slice A l.length cap] 22)).alloc (.cells #[.int .i64 p] 3)).alloc (.cells (ints (List.replicate l.length 0)).toArray 3)).alloc (.cells #[.slice (some ⟨w.heap.size + 1 + 1, 0, none⟩) l.length l.length] 22)).alloc (.cells #[.slice A l.length cap] 22)) = W0 := ⟨_, rfl⟩
  have hsz : W0.heap.size = w.heap.size + 1 + 1 + 1 + 1 + 1 := by rw [← hW0]; simp
  have hbel : Below w.heap.size w W0 := by rw [← hW0]; exact ((((HB2.out.alloc (by simp; omega) _).alloc (by simp; omega) _).alloc (by simp; omega) _))
  have hbx : Blk W0 (w.heap.size + 1 + 1 + 1 + 1) 22 #[.slice A l.length cap] := by rw [← hW0]; exact (by simpa using Blk.new ((((w.alloc (.cells #[.slice A l.length cap] 22)).alloc (.cells #[.int .i64 p] 3)).alloc (.cells (ints (List.replicate l.length 0)).toArray 3)).alloc (.cells #[.slice (some ⟨w.heap.size + 1 + 1, 0, none⟩) l.length l.length] 22)) 22 #[.slice A l.length cap])
  have hI0 : Vw.IxI w A cap l p B [] W0 := by
    refine ⟨by omega, ?_, ?_, ?_, ?_, HM.out.below (hbel.mono hB), hbel⟩
    · rw [← hW0]; exact (((Blk.new _ _ _).alloc _).alloc _).alloc _ |>.alloc _
    · rw [← hW0]; exact (by simpa [AdjV.ixRun] using (((Blk.new (w.alloc (.cells #[.slice A l.length cap] 22)) 3 #[.int .i64 p]).alloc (.cells (ints (List.replicate l.length 0)).toArray 3)).alloc (.cells #[.slice (some ⟨w.heap.size + 1 + 1, 0, none⟩) l.length l.length] 22)).alloc (.cells #[.slice A l.length cap] 22))
    · rw [← hW0]; exact (by simpa [AdjV.ixRun] using ((Blk.new ((w.alloc (.cells #[.slice A l.length cap] 22)).alloc (.cells #[.int .i64 p] 3)) 3 (ints (List.replicate l.length 0)).toArray).alloc (.cells #[.slice (some ⟨w.heap.size + 1 + 1, 0, none⟩) l.length l.length] 22)).alloc (.cells #[.slice A l.length cap] 22))
    · rw [← hW0]; exact (by simpa using (Blk.new (((w.alloc (.cells #[.slice A l.length cap] 22)).alloc (.cells #[.int .i64 p] 3)).alloc (.cells (ints (List.replicate l.length 0)).toArray 3)) 22 #[.slice (some ⟨w.heap.size + 1 + 1, 0, none⟩) l.length l.length]).alloc (.cells #[.slice A l.length cap] 22))
  rw [hW0]
  obtain ⟨b, hb, hstop⟩ := back_stops_any Fence.wide 5 trivial rfl (by omega) (w.heap.size + 1 + 1 + 1 + 1) A cap B l (by omega) W0 (by omega) (by omega) (hbx.cell 0) hI0.ints
  clear hW0 hbx
  refine wpIn_rangeFunc_ownG rfl (by omega) (gf := 58) (lb := #[.pointer (some ⟨w.heap.size + 1 + 1 + 1 + 1, 0, none⟩)]) rfl trivial (enters_of Try.func58 (by kernel_rfl) rfl) hstop
    (fun h1 h2 => h1.trans h2) (fun W y o o' hl hg _ _ => Vw.Keeps.book (N := W0.heap.size) (by omega) (by omega) W y o o' hl hg) (Below.refl _ _) (fun _ => rfl)
    (Vw.IxI w A cap l p B) (fun _ _ _ => False) (by rw [hsz]; exact Vw.IxI.own hB) (fun _ _ _ _ _ hs _ _ => hs) hI0
    (fun x => { tmps := #[.slice A l.length cap, .int .i64 p, .pointer (some ⟨w.heap.size, 0, none⟩), .pointer (some ⟨w.heap.size + 1, 0, none⟩), .slice none 0 0, .int .i64 0, .int .i64 (AdjV.prod l), .int .i64 0,
          .pointer (some ⟨w.heap.size + 1 + 1 + 1, 0, none⟩), .int .i64 (x.1 : Int), .tuple #[.int .i64 (AdjV.prod l), .int .i64 0], .slice A l.length cap, .tuple #[.int .i64 (AdjV.prod l), .int .i64 0],
          .int .i64 (AdjV.prod l), .int .i64 0, .int .i64 0, .bool false, undef, .int .i64 p, .bool (decide (p < 0)), .bool (decide (p < 0)), .int .i64 p, .int .i64 (AdjV.prod l), .bool (decide (AdjV.prod l ≤ p)),
          .bool (decide (p < 0) || decide (AdjV.prod l ≤ p)), .slice A l.length cap, .int .i64 l.length, .slice (some ⟨w.heap.size + 1 + 1, 0, none⟩) l.length l.length, .slice A l.length cap,
          .func (.func 58) #[] #[.pointer (some ⟨w.heap.size + 1 + 1 + 1 + 1, 0, none⟩)], .int .i64 (x.1 : Int), .int .i64 (l[x.1]'x.2), undef, undef, undef, undef, undef, undef, undef, undef, undef, undef, undef, undef, undef, undef, undef, undef], defers := [] }) ?assign ?body ?done ?stop
  case assign =>
    intro y x W K hK
    unfold Vw.told
    gi_wp2
    exact hK
  case body =>
    rintro y pre ⟨q, hq⟩ W hI hlt
    obtain ⟨b2, off2, rfl, hb2, hcs⟩ := hI.ints (by omega)
    have h1 := hI.dims.cell 0
    have h2 := hI.place.cell 0
    have h2f := hI.place.frozen 0
    have h3 := hI.out.cell 0
    have h4 := hI.cells.cell q
    have h4f := hI.cells.frozen q
    have h5 := hcs q hq
    obtain ⟨f1, f2, f3⟩ := AdjV.ixRun_fine HPOS.out hp0 (pre.map (·.1))
    have hd1 := HPOS.out _ (List.getElem_mem hq)
    have HI := Lib.hid hI
    clear hI hcs
    generalize hPL : (AdjV.ixRun l p (pre.map (·.1))).1 = pl at *
    generalize hCS : (AdjV.ixRun l p (pre.map (·.1))).2 = cs at *
    have h4' : W.cell? ⟨w.heap.size + 1 + 1, q, none⟩ = some (.int .i64 (cs[q]'(by omega))) := by rw [h4]; simpa using ints_at cs q (by omega)
    clear h4
    generalize cs[q]'(by omega) = c0 at h4'
    generalize hD : l[q] = d at *
    have hi1 : (0 : Int) ≤ (q : Int) := by omega
    have hi2 : (q : Int) < (l.length : Int) := by omega
    have h1' : W.cell? ⟨w.heap.size, 0, none⟩ = some (.slice (some ⟨b2, off2, none⟩) l.length cap) := h1
    have h2' : W.cell? ⟨w.heap.size + 1, 0, none⟩ = some (.int .i64 pl) := h2
    have h3' : W.cell? ⟨w.heap.size + 1 + 1 + 1, 0, none⟩ = some (.slice (some ⟨w.heap.size + 1 + 1, 0, none⟩) l.length l.length) := h3
    clear h1 h2 h3
    have hd0 : d ≠ 0 := by omega
    have hr1 : 0 ≤ pl % d := Int.emod_nonneg _ hd0
    have hr2 : pl % d < d := Int.emod_lt_of_pos _ (by omega)
    have hr3 : pl % d ≤ pl := by
      have e1 := Int.emod_add_mul_ediv pl d
      have e2 := Int.mul_nonneg (show 0 ≤ d by omega) (Int.ediv_nonneg f1 (show 0 ≤ d by omega))
      omega
    have hrm : pl.tmod d = pl % d := Int.tmod_eq_emod_of_nonneg f1
    have hrw : IntKind.i64.wrap (pl % d) = pl % d := IntWalk.i64_in _ (by omega)
    have hq1 : 0 ≤ pl / d := Int.ediv_nonneg f1 (by omega)
    have hq2 : pl / d ≤ pl := Int.ediv_le_self _ f1
    have hqm : pl.tdiv d = pl / d := Int.tdiv_eq_ediv_of_nonneg f1
    have hqw : IntKind.i64.wrap (pl / d) = pl / d := IntWalk.i64_in _ (by omega)
    gi_wp2
    refine wpIn_region_still_tail 9 (by kernel_rfl) (by kernel_rfl) (by kernel_rfl) ?_
    simp only [List.take_succ_cons, List.take_zero, List.drop_succ_cons, List.drop_zero]
    repeat still_step
    try refine wpStill_nil ?_
    change wpList _ _ _ _ _ W.drew
    go_wp2_with fail
    rename_i Kq hKq
    refine hKq _ _ ?_
    clear hKq
    obtain ⟨W1, hW1⟩ : ∃ W1, (W.setCell ⟨w.heap.size + 1 + 1, q, none⟩ (.int .i64 (pl % d))).drew = W1 := ⟨_, rfl⟩
    rw [hW1]
    have g1 : Blk W1 w.heap.size 22 #[.slice (some ⟨b2, off2, none⟩) l.length cap] := by rw [← hW1]; exact (HI.out.dims.far (by simp; omega) _).drew
    have g2 : Blk W1 (w.heap.size + 1) 3 #[.int .i64 pl] := by rw [← hW1, ← hPL]; exact (HI.out.place.far (by simp) _).drew
    have g3 : Blk W1 (w.heap.size + 1 + 1 + 1) 22 #[.slice (some ⟨w.heap.size + 1 + 1, 0, none⟩) l.length l.length] := by rw [← hW1]; exact (HI.out.out.far (by simp) _).drew
    have g4 : Blk W1 (w.heap.size + 1 + 1) 3 (ints (cs.set q (pl % d))).toArray := by rw [← hW1, ← ints_set, ← hCS]; exact (HI.out.cells.set_ _ _).drew
    have g5 : Below w.heap.size W W1 := by rw [← hW1]; exact ((Below.refl _ W).setCell (p := ⟨w.heap.size + 1 + 1, q, none⟩) (by simp; omega) _).drew
    have g6 : Vw.Keeps (w.heap.size + 1 + 1 + 1 + 1) b W W1 := by
      rw [← hW1]
      intro pp hpp
      exact World.cell?_of_block ((Below.heap_setCell W ⟨w.heap.size + 1 + 1, q, none⟩ (.int .i64 (pl % d)) pp.block (by simp; omega)))
    have g7 : KeepsFrom W0.heap.size W W1 := by rw [← hW1]; exact ((KeepsOthers.setCell _ _ _).trans (KeepsOthers.drew _)).from _
    have g8 : W1.cell? ⟨b2, off2 + q, none⟩ = some (.int .i64 d) := (g5.cell (p := ⟨b2, off2 + q, none⟩) (by simp; omega)).trans h5
    have G := Lib.hid (And.intro g1 (And.intro g2 (And.intro g3 (And.intro g4 (And.intro g5 (And.intro g6 g7))))))
    have c1 : W1.cell? ⟨w.heap.size, 0, none⟩ = some (.slice (some ⟨b2, off2, none⟩) l.length cap) := g1.cell 0
    have c2 : W1.cell? ⟨w.heap.size + 1, 0, none⟩ = some (.int .i64 pl) := g2.cell 0
    have c2f := g2.frozen 0
    clear g1 g2 g3 g4 g5 g6 g7 h1' h2' h3' h4' h5 h2f h4f hW1
    refine wpIn_region_still_tail 6 (by kernel_rfl) (by kernel_rfl) (by kernel_rfl) ?_
    simp only [List.take_succ_cons, List.take_zero, List.drop_succ_cons, List.drop_zero]
    repeat still_step
    try refine wpStill_nil ?_
    change wpList _ _ _ _ _ W1.drew
    go_wp2_with fail
    obtain ⟨g1, g2, g3, g4, g5, g6, g7⟩ := G.out
    have hst : AdjV.ixRun l p ((pre ++ [(⟨q, hq⟩ : Vw.Spot l)]).map (·.1)) = (pl / d, cs.set q (pl % d)) := by
      rw [List.map_append, List.map_singleton, AdjV.ixRun_snoc]
      unfold AdjV.ixStep
      rw [hPL, hCS, show l.getD q 1 = d by rw [List.getD_eq_getElem?_getD, List.getElem?_eq_getElem hq]; exact hD]
    have k5 : Below w.heap.size W1 (W1.setCell ⟨w.heap.size + 1, 0, none⟩ (.int .i64 (pl / d))).drew := ((Below.refl _ W1).setCell (p := ⟨w.heap.size + 1, 0, none⟩) (by simp) _).drew
    have k6 : Vw.Keeps (w.heap.size + 1 + 1 + 1 + 1) b W1 (W1.setCell ⟨w.heap.size + 1, 0, none⟩ (.int .i64 (pl / d))).drew := by
      intro pp hpp
      exact World.cell?_of_block ((Below.heap_setCell W1 ⟨w.heap.size + 1, 0, none⟩ (.int .i64 (pl / d)) pp.block (by simp; omega)))
    show KeepsFrom W0.heap.size W (W1.setCell ⟨w.heap.size + 1, 0, none⟩ (.int .i64 (pl / d))).drew ∧ Vw.Keeps (w.heap.size + 1 + 1 + 1 + 1) b W (W1.setCell ⟨w.heap.size + 1, 0, none⟩ (.int .i64 (pl / d))).drew ∧ Vw.IxI w (some ⟨b2, off2, none⟩) cap l p B (pre ++ [⟨q, hq⟩]) (W1.setCell ⟨w.heap.size + 1, 0, none⟩ (.int .i64 (pl / d))).drew
    refine ⟨g7.trans (((KeepsOthers.setCell _ _ _).trans (KeepsOthers.drew _)).from _), g6.trans k6, ?_⟩
    refine ⟨?_, (g1.far (by simp <;> omega) _).drew, ?_, ?_, (g3.far (by simp <;> omega) _).drew, HI.out.ints.below ((g5.trans k5).mono hB), HI.out.below.trans (g5.trans k5)⟩
    · have := HI.out.size
      have := (g5.trans k5).size
      omega
    · rw [hst]
      exact (g2.set_ 0 _).drew
    · rw [hst]
      exact (g4.far (by simp <;> omega) _).drew
  case done =>
    rintro D ys W hD hys hI hK
    have hout : W.cell? ⟨w.heap.size + 1 + 1 + 1, 0, none⟩ = some (.slice (some ⟨w.heap.size + 1 + 1, 0, none⟩) l.length l.length) := hI.out.cell 0
    gi_wp2
    refine ⟨by simp, .inl ⟨_, _, rfl, run_takeDeferred hK, ?_⟩⟩
    refine ⟨.tuple #[.slice (some ⟨w.heap.size + 1 + 1, 0, none⟩) l.length l.length, .int .i64 0], by simp [results, Try.f15, go_sem], w.heap.size + 1 + 1, rfl, hI.below.trans (belowK_b (w := w) (Nat.le_refl _) W D _ _ (by omega) hK rfl rfl), by omega, ?_⟩
    have hc := hI.cells
    rw [hys, show Vw.upto (Vw.down l.length) l.length = (List.range l.length).map fun j => l.length - 1 - j from rfl, AdjV.ixRun_all HPOS.out hp0] at hc
    exact hc.grown (grownBy_putObj' _ D (.deferred none)) (by simp; omega)
  case stop =>
    rintro D c pre W _ _ h _
    exact h.elim

end Go.Proofs.Ytkbmnefjnfihbaa
