/-
  The walk of core.Run. Conditions: the code, memory and picks can be read.
-/
import Derived.Test.YtlnfmipcbhhkhaaCoreT
import Derived.Test.YtlnfmipcbhhkhaaCoreI
import Derived.Deep.LoopGhost
import Derived.Deep.DeepCutAuto
namespace Go.Proofs.Ytlnfmipcbhhkhaa
set_option linter.unusedVariables false
open Go.RowKit Adj

namespace Cr
/-- A list of words that a slice value reads as. -/
def Words (w : World) (v : Value) (l : List Int) : Prop := ∃ A cap, v = .slice A l.length cap ∧ IntsAt w w.heap.size A l ∧ l.length ≤ cap ∧ cap ≤ 9223372036854775807
/-- What Run answers. -/
def RunV (w : World) (r : List Int × Int) (e : Ending) (w' : World) : Prop := ∃ v, e = .returned (.tuple #[v, .int .i64 r.2]) ∧ Below w.heap.size w w' ∧ Words w' v r.1
theorem words_nil (w : World) : Words w (.slice none 0 0) [] := ⟨none, 0, rfl, IntsAt.nil, Nat.le_refl _, by omega⟩
theorem own_mm {w : World} {B : Nat} {v : Value} {l : List Int} (h : w.ownsRow B 2 1 v l.length (ints l)) : ∃ A cap, v = .slice A l.length cap ∧ l.length ≤ cap ∧ cap ≤ 9223372036854775807 ∧ (l = [] ∨ ∃ g, B ≤ g ∧ g < w.heap.size ∧ Mm w A g l) := by
  rcases h.2 with ⟨rfl, hn⟩ | ⟨g, cap, cur, rfl, hb, hh, hc, hm, hs, ht⟩
  · exact ⟨none, 0, by rw [hn], by omega, by omega, .inl (List.length_eq_zero_iff.1 hn)⟩
  · refine ⟨some ⟨g, 0, none⟩, cap, rfl, hc, by unfold maxLen at hm; omega, ?_⟩
    rcases Nat.eq_zero_or_pos l.length with h0 | h0
    · exact .inl (List.length_eq_zero_iff.1 h0)
    · have hb2 : Blk w g 2 cur := hh
      refine .inr ⟨g, hb, hb2.lt, fun _ => ⟨rfl, cur, hb2, fun j x hx => ?_⟩⟩
      have hj : j < l.length := (List.getElem?_eq_some_iff.1 hx).1
      have h2 : (cur.toList.take (l.length * 1))[j]? = (ints l)[j]? := by rw [ht]
      rw [List.getElem?_take, if_pos (by omega)] at h2
      unfold ints at h2
      rw [List.getElem?_map, hx] at h2
      simpa using h2
theorem words_mem {w : World} {A : Option Addr} {g cap : Nat} {l : List Int} (h : Mm w A g l) (h1 : l.length ≤ cap) (h2 : cap ≤ 9223372036854775807) : Words w (.slice A l.length cap) l := by
  refine ⟨A, cap, rfl, fun hp => ?_, h1, h2⟩
  rw [ints_length] at hp
  obtain ⟨e, cur, hb, hc⟩ := h hp
  refine ⟨g, 0, e, hb.lt, fun i v hv => ?_⟩
  unfold ints at hv
  rw [List.getElem?_map] at hv
  obtain ⟨x, hx, rfl⟩ := Option.map_eq_some_iff.1 hv
  rw [hb.cell, Nat.zero_add]
  exact hc i x hx
/-- The state as it begins. -/
theorem begun {w W : World} {c : AdjC.Code} {mem : List Int} {pn gp mc n n' : Nat} {A A' MA : Option Addr} (hB : Below w.heap.size w W) (hc : c.pad = (pn : Int)) (hm : (mem.length : Int) = c.mem) (hgp : w.heap.size ≤ gp) (hG : Blk W gp 2 (ints (List.replicate pn 0)).toArray)
    (hmm : mem = [] ∨ ∃ g, (w.heap.size ≤ g ∧ g ≠ gp ∧ g < W.heap.size) ∧ Mm W MA g mem) (hA : IntsAt w w.heap.size A (AdjC.flat c.mover)) (hA' : IntsAt w w.heap.size A' (AdjC.flat c.maker)) (hpn : pn ≤ 4096) :
    ∃ k : Sk, Value.pointer (some ⟨W.heap.size, 0, none⟩) = .pointer (some ⟨k.g, 0, none⟩) ∧ k.cm = mc ∧ Sb w k c (AdjC.start c mem) (W.alloc (.cells #[.int .i64 (pn : Int), .int .i64 (mem.length : Int), .slice A c.mover.length n, .slice A' c.maker.length n', .slice (some ⟨gp, 0, none⟩) pn pn, .slice MA mem.length mc, .int .i64 0, .int .i64 0, .int .i64 0, .int .i64 0, .int .i64 0, .int .i64 0, .int .i64 0, .int .i64 0, .int .i64 0, .int .i64 0, .int .i64 0, .int .i64 0, .int .i64 0, .int .i64 0, .int .i64 0, .int .i64 0, .int .i64 0, .int .i64 0] 50)) := by
  have hst : AdjC.start c mem = ⟨List.replicate pn 0, mem, List.replicate 16 0, 0, 0⟩ := by unfold AdjC.start; rw [hc, Int.toNat_natCast]
  have hlt := hG.lt
  have hgm : ∃ gm, (w.heap.size ≤ gm ∧ gm ≠ gp ∧ gm ≠ W.heap.size) ∧ Mm W MA gm mem := by
    rcases hmm with h | ⟨g, h1, h2⟩
    · subst h
      exact ⟨W.heap.size + 1, ⟨by have := hB.size; omega, by omega, by omega⟩, fun h => by simp at h⟩
    · exact ⟨g, ⟨h1.1, h1.2.1, by omega⟩, h2⟩
  obtain ⟨gm, hg1, hg2⟩ := hgm
  refine ⟨⟨W.heap.size, gp, gm, A, A', some ⟨gp, 0, none⟩, MA, n, n', pn, mc⟩, rfl, rfl, hB.alloc hB.size _, ⟨hB.size, hgp, hg1.1, Nat.ne_of_gt hlt, Ne.symm hg1.2.2, Ne.symm hg1.2.1⟩, ?_, ?_, ?_, hA, hA', ?_⟩
  · rw [hst]
    have e : (stL ⟨W.heap.size, gp, gm, A, A', some ⟨gp, 0, none⟩, MA, n, n', pn, mc⟩ c ⟨List.replicate pn 0, mem, List.replicate 16 0, 0, 0⟩).toArray = #[.int .i64 (pn : Int), .int .i64 (mem.length : Int), .slice A c.mover.length n, .slice A' c.maker.length n', .slice (some ⟨gp, 0, none⟩) pn pn, .slice MA mem.length mc, .int .i64 0, .int .i64 0, .int .i64 0, .int .i64 0, .int .i64 0, .int .i64 0, .int .i64 0, .int .i64 0, .int .i64 0, .int .i64 0, .int .i64 0, .int .i64 0, .int .i64 0, .int .i64 0, .int .i64 0, .int .i64 0, .int .i64 0, .int .i64 0] := by
      unfold stL; simp only [List.length_replicate]; rw [hc, hm]; rfl
    rw [e]
    exact Blk.new W _ _
  · rw [hst]
    refine Mm.alloc (fun _ => ⟨rfl, _, hG, fun j x hx => ?_⟩) _
    unfold ints
    simp only [List.getElem?_toArray, List.getElem?_map]
    rw [hx]; rfl
  · rw [hst]; exact hg2.alloc _
  · rw [hst]; simp only [List.length_replicate]; omega
theorem four_alloc {g : Nat} {v0 v1 v2 v3 : Value} {W : World} (h : W.cell? ⟨g, 0, none⟩ = some v0 ∧ W.cell? ⟨g, 1, none⟩ = some v1 ∧ W.cell? ⟨g, 2, none⟩ = some v2 ∧ W.cell? ⟨g, 3, none⟩ = some v3) (hs : g < W.heap.size) (o : Obj) :
    (W.alloc o).cell? ⟨g, 0, none⟩ = some v0 ∧ (W.alloc o).cell? ⟨g, 1, none⟩ = some v1 ∧ (W.alloc o).cell? ⟨g, 2, none⟩ = some v2 ∧ (W.alloc o).cell? ⟨g, 3, none⟩ = some v3 := by
  have e : ∀ i, (W.alloc o).cell? ⟨g, i, none⟩ = W.cell? ⟨g, i, none⟩ := fun i => World.cell?_alloc_lt _ _ _ hs
  exact ⟨(e 0).trans h.1, (e 1).trans h.2.1, (e 2).trans h.2.2.1, (e 3).trans h.2.2.2⟩
theorem four_below {g : Nat} {v0 v1 v2 v3 : Value} {W W' : World} (h : W.cell? ⟨g, 0, none⟩ = some v0 ∧ W.cell? ⟨g, 1, none⟩ = some v1 ∧ W.cell? ⟨g, 2, none⟩ = some v2 ∧ W.cell? ⟨g, 3, none⟩ = some v3) (hs : g < W.heap.size) (hb : Below W.heap.size W W') :
    W'.cell? ⟨g, 0, none⟩ = some v0 ∧ W'.cell? ⟨g, 1, none⟩ = some v1 ∧ W'.cell? ⟨g, 2, none⟩ = some v2 ∧ W'.cell? ⟨g, 3, none⟩ = some v3 := by
  have e : ∀ i, W'.cell? ⟨g, i, none⟩ = W.cell? ⟨g, i, none⟩ := fun i => hb.cell (p := ⟨g, i, none⟩) hs
  exact ⟨(e 0).trans h.1, (e 1).trans h.2.1, (e 2).trans h.2.2.1, (e 3).trans h.2.2.2⟩
end Cr

theorem run_make_word (c : Nat) (h : c ≤ 1048576) (w : World) :
    (Instr.makeSlice 31 (.int .i64 (c : Int)) (.int .i64 (c : Int))).run Try.prog w = .ok (.slice (some ⟨w.heap.size, 0, none⟩) c c) (w.alloc (.cells (ints (List.replicate c 0)).toArray 2)) := by
  rw [← made_zero]
  obtain ⟨i0, hi, hz0, hz1, hz2⟩ := info_parts Try.infoWord
  have hb : (i0.bytes : Int) * (c : Int) ≤ 281474976710656 := by rw [hz2]; omega
  have hr := run_make (P := Try.prog) w 31 2 i0 _ Try.underlying31 hi hz0 .i64 .i64 c c (by omega) (by omega) hb (by omega)
  simp only [Int.toNat_natCast, hz1, Nat.mul_one] at hr
  exact hr
set_option maxRecDepth 100000 in
set_option maxHeartbeats 8000000 in
theorem Run_any (val : Value) (c : AdjC.Code) (MA PA : Option Addr) (mcap pcap : Nat) (mem picks : List Int) (w : World) (h : Cr.CodeAt w w.heap.size val c) (hm : IntsAt w w.heap.size MA mem) (hp : IntsAt w w.heap.size PA picks)
    (hml : mem.length ≤ 9223372036854775807) (hpl : picks.length ≤ 9223372036854775807) :
    Calls Try.prog 8 #[val, .slice MA mem.length mcap, .slice PA picks.length pcap] w (Cr.RunV w (AdjC.run c mem picks)) := by
  have HT := Lib.hid (fun W (hb : Below w.heap.size w W) => Wrong_any val c W ((h.below hb).up hb.size))
  have HC := Lib.hid h
  obtain ⟨A, n, A', n', rfl, hA, hA', m1, m2, m1', m2'⟩ := h
  have HA := Lib.hid hA
  have HA' := Lib.hid hA'
  have HM := Lib.hid hm
  have HP := Lib.hid hp
  have HB0 := Lib.hid ((Below.refl w.heap.size w).alloc (Nat.le_refl _) (.cells #[.int .i64 c.pad, .int .i64 c.mem, .slice A c.mover.length n, .slice A' c.maker.length n'] 24))
  have HX0 := Lib.hid (Blk.new w 24 #[.int .i64 c.pad, .int .i64 c.mem, .slice A c.mover.length n, .slice A' c.maker.length n'])
  clear hA hA' hm hp
  go_enter Try.func8, Try.ntmps8
  go_wp2_with fail
  ((with_reducible refine (HT.out _ HB0.out).mono ?_); rintro e w1 ⟨rfl, hb1⟩)
  have HB1 := Lib.hid (HB0.out.trans (hb1.mono HB0.out.size))
  have HX1 := Lib.hid (HX0.out.below hb1 HX0.out.lt)
  have hlt1 : w.heap.size < w1.heap.size := HX1.out.lt
  clear hb1 HT
  by_cases hz : AdjC.wrong c = 0
  · rw [hz]
    have HZ := Lib.hid hz
    clear hz
    have x1 := HX1.out.cell 1
    by_cases hml2 : (mem.length : Int) = c.mem
    · have hz1 := (AdjC.wrong_zero HZ.out).1
      have hz2 := (AdjC.wrong_zero HZ.out).2.1
      obtain ⟨pn, hpn⟩ : ∃ pn : Nat, c.pad = (pn : Int) := ⟨c.pad.toNat, by omega⟩
      have HPN := Lib.hid hpn
      have hpn4 : pn ≤ 4096 := by omega
      have hme : mem.length ≤ 1048576 := by omega
      have HML := Lib.hid hml2
      rw [← hml2] at x1
      clear hml2 hpn hz1
      go_upto_region 6 with (fail)
      have x0 := HX1.out.cell 0
      rw [HPN.out] at x0
      have x2 := HX1.out.cell 2
      have x3 := HX1.out.cell 3
      have HCL := Lib.hid (fun (W : World) (hb : Below w1.heap.size w1 W) => CloneW_any MA mcap mem w.heap.size W hme (HM.out.below (HB1.out.trans (hb.mono HB1.out.size))) (Nat.le_trans HB1.out.size hb.size))
      have HA1 := Lib.hid ((HA.out.below HB1.out).up HB1.out.size)
      have HA1' := Lib.hid ((HA'.out.below HB1.out).up HB1.out.size)
      go_cut [9] (fun s9 wx => ∃ k : Cr.Sk, s9 = .pointer (some ⟨k.g, 0, none⟩) ∧ Cr.Sb w1 k c (AdjC.start c mem) wx ∧ mem.length ≤ k.cm ∧ k.cm ≤ 9223372036854775807)
      case first =>
        refine wp_region_T (fun w' => w'.cell? ⟨w.heap.size, 0, none⟩ = some (.int .i64 (pn : Int)) ∧ w'.cell? ⟨w.heap.size, 1, none⟩ = some (.int .i64 (mem.length : Int)) ∧ w'.cell? ⟨w.heap.size, 2, none⟩ = some (.slice A c.mover.length n) ∧ w'.cell? ⟨w.heap.size, 3, none⟩ = some (.slice A' c.maker.length n')) 8 (fun _ => True) 8 9 rfl (by kernel_rfl) ⟨⟨x0, x1, x2, x3⟩, trivial⟩ (fun hHeld => ?_)
        simp only [List.replicate_succ, List.replicate_zero]
        refine wpT_take 0 24 (v := ?_) hHeld.1 hHeld.2 rfl rfl (by kernel_rfl) (fun _ _ _ h => h) rfl ?_ ?_
        rotate_left
        · (intro w hSw; (try dsimp only at hSw); go_simp; try with_reducible rfl)
        try simp only [Act.put, List.setIfInBounds_toArray, List.set_cons_zero, List.set_cons_succ]
        refine wpT_take 1 25 (v := ?_) hHeld.1 hHeld.2 rfl rfl (by kernel_rfl) (fun _ _ _ h => h) rfl ?_ ?_
        rotate_left
        · (intro w hSw; (try dsimp only at hSw); go_simp; try with_reducible rfl)
        try simp only [Act.put, List.setIfInBounds_toArray, List.set_cons_zero, List.set_cons_succ]
        refine wpT_take 2 26 (v := ?_) hHeld.1 hHeld.2 rfl rfl (by kernel_rfl) (fun _ _ _ h => h) rfl ?_ ?_
        rotate_left
        · (intro w hSw; (try dsimp only at hSw); go_simp; try with_reducible rfl)
        try simp only [Act.put, List.setIfInBounds_toArray, List.set_cons_zero, List.set_cons_succ]
        refine wpT_take 4 28 (v := ?_) hHeld.1 hHeld.2 rfl rfl (by kernel_rfl) (fun _ _ _ h => h) rfl ?_ ?_
        rotate_left
        · (intro w hSw; (try dsimp only at hSw); go_simp; try with_reducible rfl)
        try simp only [Act.put, List.setIfInBounds_toArray, List.set_cons_zero, List.set_cons_succ]
        have HB2 := Lib.hid (Below.refl w1.heap.size w1).drew
        have HX2 := Lib.hid (show Blk w1.drew w.heap.size 24 #[.int .i64 c.pad, .int .i64 c.mem, .slice A c.mover.length n, .slice A' c.maker.length n'] from HX1.out)
        have hl2 : w.heap.size < w1.drew.heap.size := hlt1
        generalize w1.drew = W at HB2 HX2 hHeld hl2 ⊢
        have hmk := fun W => run_make_word pn (by omega) W
        refine wpT_two 3 5 (by kernel_rfl) (stepT_early rfl rfl (fun K hK => ?_)) (stepT_early rfl rfl (fun K hK => ?_))
        · go_simp
          refine hK.out _ _ ⟨Cr.four_alloc hHeld.1 hl2 _, trivial⟩ (fun hHeld2 => ?_)
          clear hK K hHeld
          have hHeld := hHeld2
          clear hHeld2
          try simp only [List.setIfInBounds_toArray, List.set_cons_zero, List.set_cons_succ]
          clear hmk
          have HB3 := Lib.hid (HB2.out.alloc HB2.out.size (.cells (ints (List.replicate pn 0)).toArray 2))
          have HX3 := Lib.hid (HX2.out.alloc (.cells (ints (List.replicate pn 0)).toArray 2))
          have HG3 := Lib.hid (Blk.new W 2 (ints (List.replicate pn 0)).toArray)
          have hgp : w1.heap.size ≤ W.heap.size := HB2.out.size
          generalize hgpe : W.heap.size = gp at HG3 hgp ⊢
          generalize W.alloc (.cells (ints (List.replicate pn 0)).toArray 2) = W3 at HB3 HX3 HG3 hHeld ⊢
          clear HB2 HX2 hl2 hgpe
          refine wpT_one 5 (by kernel_rfl) (stepT_early rfl rfl (fun K hK => ?_))
          go_simp
          ((with_reducible refine (HCL.out _ HB3.out).mono ?_); rintro e W4 ⟨va, rfl, hown, hb4⟩)
          have HB4 := Lib.hid (HB3.out.trans (hb4.mono HB3.out.size))
          have HX4 := Lib.hid (HX3.out.below hb4 HX3.out.lt)
          have HG4 := Lib.hid (HG3.out.below hb4 HG3.out.lt)
          obtain ⟨MA2, mc2, rfl, c1, c2, hmm⟩ := Cr.own_mm hown
          have HMM := Lib.hid (show mem = [] ∨ ∃ g, (w1.heap.size ≤ g ∧ g ≠ gp ∧ g < W4.heap.size) ∧ Cr.Mm W4 MA2 g mem from hmm.imp id (fun ⟨g, h1, h2, h3⟩ => ⟨g, ⟨Nat.le_trans HB3.out.size h1, Nat.ne_of_gt (Nat.lt_of_lt_of_le HG3.out.lt h1), h2⟩, h3⟩))
          clear hown hmm
          try go_simp
          refine hK.out _ _ ⟨Cr.four_below hHeld.1 HX3.out.lt hb4, trivial⟩ (fun hHeld2 => ?_)
          clear hK K hHeld
          have hHeld := hHeld2
          clear hHeld2
          try simp only [List.setIfInBounds_toArray, List.set_cons_zero, List.set_cons_succ]
          clear hb4 HB3 HX3 HG3
          refine wpT_one 6 (by kernel_rfl) (stepT_early rfl rfl (fun K hK => ?_))
          go_simp
          refine hK.out _ _ hHeld (fun hHeld2 => ?_)
          clear hK K hHeld
          have hHeld := hHeld2
          clear hHeld2
          try simp only [List.setIfInBounds_toArray, List.set_cons_zero, List.set_cons_succ]
          refine wpT_one 7 (by kernel_rfl) (stepT_early rfl rfl (fun K hK => ?_))
          go_simp
          refine hK.out _ _ ⟨Cr.four_alloc hHeld.1 HX4.out.lt _, trivial⟩ (fun hHeld2 => ?_)
          clear hK K hHeld
          have hHeld := hHeld2
          clear hHeld2
          try simp only [List.setIfInBounds_toArray, List.set_cons_zero, List.set_cons_succ]
          refine wpT_tail [_] 8 [] rfl (by kernel_rfl) ?_
          clear hHeld
          go_wp2_with fail
          go_meet
          case rel =>
            obtain ⟨k, h1, h2, h3⟩ := Cr.begun (n := n) (n' := n') (mc := mc2) HB4.out HPN.out HML.out hgp HG4.out HMM.out HA1.out HA1'.out hpn4
            exact ⟨k, h1, h3, by rw [h2]; exact c1, by rw [h2]; exact c2⟩
        · go_simp
          ((with_reducible refine (HCL.out _ HB2.out).mono ?_); rintro e W3 ⟨va, rfl, hown, hb4⟩)
          have HB3 := Lib.hid (HB2.out.trans (hb4.mono HB2.out.size))
          have HX3 := Lib.hid (HX2.out.below hb4 HX2.out.lt)
          obtain ⟨MA2, mc2, rfl, c1, c2, hmm⟩ := Cr.own_mm hown
          have hgp : w1.heap.size ≤ W3.heap.size := HB3.out.size
          have HMM := Lib.hid (show mem = [] ∨ ∃ g, (w1.heap.size ≤ g ∧ g ≠ W3.heap.size ∧ g < (W3.alloc (.cells (ints (List.replicate pn 0)).toArray 2)).heap.size) ∧ Cr.Mm (W3.alloc (.cells (ints (List.replicate pn 0)).toArray 2)) MA2 g mem from hmm.imp id (fun ⟨g, h1, h2, h3⟩ => ⟨g, ⟨Nat.le_trans HB2.out.size h1, by omega, by rw [World.size_alloc]; omega⟩, h3.alloc _⟩))
          clear hown hmm
          try go_simp
          refine hK.out _ _ ⟨Cr.four_below hHeld.1 HX2.out.lt hb4, trivial⟩ (fun hHeld2 => ?_)
          clear hK K hHeld
          have hHeld := hHeld2
          clear hHeld2
          try simp only [List.setIfInBounds_toArray, List.set_cons_zero, List.set_cons_succ]
          clear hb4 HB2 HX2 hl2
          refine wpT_one 3 (by kernel_rfl) (stepT_early rfl rfl (fun K hK => ?_))
          go_simp
          refine hK.out _ _ ⟨Cr.four_alloc hHeld.1 HX3.out.lt _, trivial⟩ (fun hHeld2 => ?_)
          clear hK K hHeld
          have hHeld := hHeld2
          clear hHeld2
          try simp only [List.setIfInBounds_toArray, List.set_cons_zero, List.set_cons_succ]
          clear hmk
          have HB4 := Lib.hid (HB3.out.alloc HB3.out.size (.cells (ints (List.replicate pn 0)).toArray 2))
          have HX4 := Lib.hid (HX3.out.alloc (.cells (ints (List.replicate pn 0)).toArray 2))
          have HG4 := Lib.hid (Blk.new W3 2 (ints (List.replicate pn 0)).toArray)
          generalize hgpe : W3.heap.size = gp at HG4 hgp HMM ⊢
          generalize W3.alloc (.cells (ints (List.replicate pn 0)).toArray 2) = W4 at HB4 HX4 HG4 HMM hHeld ⊢
          clear HB3 HX3 hgpe
          refine wpT_one 6 (by kernel_rfl) (stepT_early rfl rfl (fun K hK => ?_))
          go_simp
          refine hK.out _ _ hHeld (fun hHeld2 => ?_)
          clear hK K hHeld
          have hHeld := hHeld2
          clear hHeld2
          try simp only [List.setIfInBounds_toArray, List.set_cons_zero, List.set_cons_succ]
          refine wpT_one 7 (by kernel_rfl) (stepT_early rfl rfl (fun K hK => ?_))
          go_simp
          refine hK.out _ _ ⟨Cr.four_alloc hHeld.1 HX4.out.lt _, trivial⟩ (fun hHeld2 => ?_)
          clear hK K hHeld
          have hHeld := hHeld2
          clear hHeld2
          try simp only [List.setIfInBounds_toArray, List.set_cons_zero, List.set_cons_succ]
          refine wpT_tail [_] 8 [] rfl (by kernel_rfl) ?_
          clear hHeld
          go_wp2_with fail
          go_meet
          case rel =>
            obtain ⟨k, h1, h2, h3⟩ := Cr.begun (n := n) (n' := n') (mc := mc2) HB4.out HPN.out HML.out hgp HG4.out HMM.out HA1.out HA1'.out hpn4
            exact ⟨k, h1, h3, by rw [h2]; exact c1, by rw [h2]; exact c2⟩
      case rest =>
        obtain ⟨k, rfl, hs, hk1, hk2⟩ := hcut
        have HS := Lib.hid hs
        have HCO := Lib.hid (AdjC.Comes.start (c := c) (mem := mem) (picks := picks) HZ.out HML.out)
        have HB1w := HB1
        clear hs x0 x1 x2 x3 HCL HB0 HX0 HM hlt1 HA HA' HA1 HA1' HB1
        go_wp2_with fail
        go_loopg [10] (AdjC.left c (AdjC.start c mem)) (fun kk tv wr => ∃ (s : AdjC.St) (t : Nat), tv = .int .i64 (t : Int) ∧ kk = AdjC.left c s ∧ AdjC.Comes c mem picks (s, t) ∧ Cr.Sb w1 k c s wr)
        case atStart => exact ⟨_, 0, rfl, rfl, HCO.out, HS.out⟩
        case round =>
          obtain ⟨s, t, rfl, hkk, hcm, hs⟩ := hrel
          have HKK := Lib.hid hkk
          have HS1 := Lib.hid hs
          have HCM := Lib.hid hcm
          have HOK := Lib.hid hcm.2.1
          have ht : t ≤ 524288 := by
            have h1 := hcm.2.2
            have h2 := hcm.2.1.i
            have h3 := hcm.2.1.j
            simp only at h1 h2 h3
            omega
          have HCA := Lib.hid (can_mover w1 wr k c s hs hcm.2.1 HZ.out)
          have HCB := Lib.hid (fun W hb => can_maker w1 W k c s hb hcm.2.1 HZ.out)
          have HSA := Lib.hid (fun W hb => step_mover w1 W k c s hb hcm.2.1 HZ.out)
          have HSB := Lib.hid (fun W hb => step_maker w1 W k c s hb hcm.2.1 HZ.out)
          clear hs hcm hkk HS HCO
          go_wp2_with fail
          ((with_reducible refine HCA.out.mono ?_); rintro e w2 ⟨rfl, hb2⟩)
          have HS2 := Lib.hid (HS1.out.below hb2)
          clear hb2
          go_wp2_with fail
          ((with_reducible refine (HCB.out _ HS2.out).mono ?_); rintro e w3 ⟨rfl, hb3⟩)
          have HS3 := Lib.hid (HS2.out.below hb3)
          clear hb3 HS1 HS2 HCA HCB
          rcases Bool.eq_false_or_eq_true (AdjC.canA c s) with ha | ha <;> rcases Bool.eq_false_or_eq_true (AdjC.canB c s) with hb | hb
          · rw [ha, hb]
            have HA1 := Lib.hid ha
            have HB1 := Lib.hid hb
            clear ha hb
            rcases List.eq_nil_or_concat picks with hpe | ⟨_, _, hpe⟩
            · have HPK := Lib.hid (show AdjC.picked picks t = true by unfold AdjC.picked; rw [if_pos hpe])
              have HCB := Lib.hid (HCM.out.both HZ.out HA1.out HB1.out)
              rw [HPK.out, if_pos rfl] at HCB
              have hl1 : decide (0 < picks.length) = false := by rw [hpe]; rfl
              have hl2 : decide ((0 : Int) < (picks.length : Int)) = false := by rw [hpe]; rfl
              clear hpe
              go_wp2_with fail
              ((with_reducible refine (HSA.out _ HS3.out HA1.out).mono ?_); rintro e w4 ⟨rfl, hs4⟩)
              have HS4 := Lib.hid hs4
              clear hs4
              go_wp2_with fail
              go_roundg (AdjC.left c (AdjC.stepA c s))
              case measure => have h1 := AdjC.left_stepA HA1.out; have h2 := HKK.out; omega
              case rel => exact ⟨_, t + 1, by go_num, rfl, HCB.out, HS4.out⟩
            · have hl1 : 0 < picks.length := by rw [hpe]; simp
              clear hpe
              obtain ⟨pb, poff, rfl, hpb⟩ := HP.out.spot hl1
              obtain ⟨q, hq⟩ : ∃ q, t % picks.length = q := ⟨_, rfl⟩
              have hql : q < picks.length := by rw [← hq]; exact Nat.mod_lt _ hl1
              obtain ⟨p, hp⟩ : ∃ p, picks[q] = p := ⟨_, rfl⟩
              have hcell := (((HP.out.below HB1w.out).up HB1w.out.size).below HS3.out.bel).get hql
              rw [hp] at hcell
              have HPK := Lib.hid (show AdjC.picked picks t = decide (p % 2 = 0) by
                unfold AdjC.picked
                rw [if_neg (by intro h; rw [h] at hl1; simp at hl1), hq, List.getD_eq_getElem?_getD, List.getElem?_eq_getElem hql, hp]; rfl)
              have HCB := Lib.hid (HCM.out.both HZ.out HA1.out HB1.out)
              have e1 : (t : Int) % (picks.length : Int) = (q : Int) := by rw [← hq]; exact (Int.natCast_emod _ _).symm
              have e2 : (t : Int).tmod (picks.length : Int) = (q : Int) := by rw [Int.tmod_eq_emod_of_nonneg (by omega)]; exact e1
              have HQ := Lib.hid hq
              have HPP := Lib.hid hp
              clear hq hp
              by_cases hpz : p % 2 = 0
              · have HPK2 := Lib.hid (show AdjC.picked picks t = true by rw [HPK.out]; simpa using hpz)
                rw [HPK2.out, if_pos rfl] at HCB
                have g1 : (p.tmod 2 != 0) = false := by
                  have : p.tmod 2 = 0 := Int.tmod_eq_zero_of_dvd (Int.dvd_of_emod_eq_zero hpz)
                  simpa using this
                clear hpz
                go_wp2_with fail
                ((with_reducible refine (HSA.out _ HS3.out HA1.out).mono ?_); rintro e w4 ⟨rfl, hs4⟩)
                have HS4 := Lib.hid hs4
                clear hs4
                go_wp2_with fail
                go_roundg (AdjC.left c (AdjC.stepA c s))
                case measure => have h1 := AdjC.left_stepA HA1.out; have h2 := HKK.out; omega
                case rel => exact ⟨_, t + 1, by go_num, rfl, HCB.out, HS4.out⟩
              · have HPK2 := Lib.hid (show AdjC.picked picks t = false by rw [HPK.out]; simpa using hpz)
                rw [HPK2.out, if_neg (by decide)] at HCB
                have g1 : (p.tmod 2 != 0) = true := by
                  have : p.tmod 2 ≠ 0 := fun h => hpz (Int.emod_eq_zero_of_dvd (Int.dvd_of_tmod_eq_zero h))
                  simpa using this
                clear hpz
                go_wp2_with fail
                ((with_reducible refine (HSB.out _ HS3.out HB1.out).mono ?_); rintro e w4 ⟨rfl, hs4⟩)
                have HS4 := Lib.hid hs4
                clear hs4
                go_wp2_with fail
                go_roundg (AdjC.left c (AdjC.stepB c s))
                case measure => have h1 := AdjC.left_stepB HB1.out; have h2 := HKK.out; omega
                case rel => exact ⟨_, t + 1, by go_num, rfl, HCB.out, HS4.out⟩
          · rw [ha, hb]
            have HA1 := Lib.hid ha
            have HB1 := Lib.hid hb
            clear ha hb
            go_wp2_with fail
            ((with_reducible refine (HSA.out _ HS3.out HA1.out).mono ?_); rintro e w4 ⟨rfl, hs4⟩)
            have HS4 := Lib.hid hs4
            clear hs4
            go_wp2_with fail
            go_roundg (AdjC.left c (AdjC.stepA c s))
            case measure => have h1 := AdjC.left_stepA HA1.out; have h2 := HKK.out; omega
            case rel => exact ⟨_, t, rfl, rfl, HCM.out.one HZ.out HA1.out HB1.out, HS4.out⟩
          · rw [ha, hb]
            have HA1 := Lib.hid ha
            have HB1 := Lib.hid hb
            clear ha hb
            go_wp2_with fail
            ((with_reducible refine (HSB.out _ HS3.out HB1.out).mono ?_); rintro e w4 ⟨rfl, hs4⟩)
            have HS4 := Lib.hid hs4
            clear hs4
            go_wp2_with fail
            go_roundg (AdjC.left c (AdjC.stepB c s))
            case measure => have h1 := AdjC.left_stepB HB1.out; have h2 := HKK.out; omega
            case rel => exact ⟨_, t, rfl, rfl, HCM.out.two HZ.out HA1.out HB1.out, HS4.out⟩
          · rw [ha, hb]
            have HA1 := Lib.hid ha
            have HB1 := Lib.hid hb
            clear ha hb
            have HXB := Lib.hid (HX1.out.below HS3.out.bel HX1.out.lt)
            have y2 := HXB.out.cell 2
            have y3 := HXB.out.cell 3
            have a22 := HS3.out.i_at HOK.out.sems
            have a23 := HS3.out.j_at HOK.out.sems
            go_upto_region 20 with (fail)
            by_cases hi : s.i < c.mover.length
            · have HT := Lib.hid (AdjC.run_stuck HZ.out HML.out HCM.out HA1.out HB1.out (.inl hi))
              go_quiet (fail)
              clear y2 y3 a22 a23
              go_wp2_with fail
              go_ret2
              rw [HT.out]
              exact ⟨_, rfl, HB1w.out.trans ((HS3.out.drewN _).bel.mono HB1w.out.size), Cr.words_nil _⟩
            · by_cases hj : s.j < c.maker.length
              · have HT := Lib.hid (AdjC.run_stuck HZ.out HML.out HCM.out HA1.out HB1.out (.inr hj))
                go_quiet (fail)
                clear y2 y3 a22 a23
                go_wp2_with fail
                go_ret2
                rw [HT.out]
                exact ⟨_, rfl, HB1w.out.trans ((HS3.out.drewN _).bel.mono HB1w.out.size), Cr.words_nil _⟩
              · have HT := Lib.hid (AdjC.run_ends HZ.out HML.out HCM.out HA1.out HB1.out (by simp only; omega))
                have a5 := fun m => (HS3.out.drewN m).mem_at
                go_quiet (fail)
                clear y2 y3 a22 a23
                go_wp2_with fail
                go_ret2
                rw [HT.out]
                exact ⟨_, rfl, HB1w.out.trans ((HS3.out.drewN _).bel.mono HB1w.out.size), Cr.words_mem (HS3.out.drewN _).mem (by have h1 := HOK.out.mem; have h2 := HML.out; omega) hk2⟩
    · have HT := Lib.hid (AdjC.run_shape (picks := picks) HZ.out hml2)
      have hq : ((mem.length : Int) != c.mem) = true := by simpa using hml2
      clear hml2
      go_wp2_with fail
      go_ret2
      rw [HT.out]
      exact ⟨_, rfl, HB1.out, Cr.words_nil _⟩
  · have HW := Lib.hid (AdjC.run_wrong (mem := mem) (picks := picks) hz)
    have hzn : (AdjC.wrong c != 0) = true := by simpa using hz
    obtain ⟨wr, hwr⟩ : ∃ wr, AdjC.wrong c = wr := ⟨_, rfl⟩
    rw [hwr] at HW hzn ⊢
    clear hz hwr
    go_wp2_with fail
    go_ret2
    rw [HW.out]
    exact ⟨_, rfl, HB1.out, Cr.words_nil _⟩
end Go.Proofs.Ytlnfmipcbhhkhaa
