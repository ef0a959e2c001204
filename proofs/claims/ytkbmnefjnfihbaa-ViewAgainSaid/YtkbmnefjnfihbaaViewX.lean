/-
  The walk of the reference's Reform. Conditions: the view and the list can be read.
-/
import Derived.Test.YtkbmnefjnfihbaaViewW
import Derived.Deep.DeepCutAuto
namespace Go.Proofs.Ytkbmnefjnfihbaa
set_option linter.unusedVariables false
open Go.RowKit Adj
attribute [local go_sem ↓] Go.wp_at_zero Go.wp_at_succ

namespace Vw
theorem Fs.later {B N bw : Nat} {W0 W W' : World} {st : Int} {A1 : Option Addr} {c1 : Nat} {v2 : Value} {xs ys : List Int} (h : Fs B N bw W0 st A1 c1 v2 xs ys W) (hb : Below W.heap.size W W') : Fs B N bw W0 st A1 c1 v2 xs ys W' :=
  ⟨h.blk.below hb h.blk.lt, (h.i1.below hb).up hb.size, h.g1, h.l1, h.l2, own_kept h.own2 hb, h.n2, h.below.trans (hb.mono (Nat.le_trans h.low (Nat.le_of_lt h.blk.lt))), h.low⟩
theorem readL_at (v : AdjV.V) (q : Nat) (h : q < (readL v).length) : (readL v)[q] = AdjV.at_ v q := by simp [readL]
theorem Fs.store2' {B N bw : Nat} {W0 W : World} {st : Int} {A1 : Option Addr} {c1 g cap n : Nat} {xs ys : List Int} (h : Fs B N bw W0 st A1 c1 (.slice (some ⟨g, 0, none⟩) n cap) xs ys W) (hn : ys.length = n) (j : Nat) (x : Int) :
    Fs B N bw W0 st A1 c1 (.slice (some ⟨g, 0, none⟩) n cap) xs (ys.set j x) (W.setCell ⟨g, j, none⟩ (.int .i64 x)) := by
  subst hn
  have := h.store2 j x
  rwa [List.length_set] at this
theorem go_none {v : AdjV.V} {dims : List Int} (h : AdjV.wrong v = 0) (h2 : (AdjV.size dims).2 = 0) (h3 : (AdjV.size v.dims).1 = (AdjV.size dims).1) (h4 : (AdjV.size dims).1 ≠ 0) {p : Int}
    (hne : AdjV.w64 (v.st + AdjV.dot (AdjV.idx dims p) (AdjV.offs v dims)) ≠ AdjV.at_ v p) : AdjV.go dims.reverse (AdjV.blocks v) = none := by
  cases hg : AdjV.go dims.reverse (AdjV.blocks v) with
  | none => rfl
  | some ss =>
    exfalso
    have hy := (AdjV.reform_yes h h2 h3 h4 hg).2 p
    have hs := AdjV.at_small h p (AdjV.reform_fine h h2 h3 h4).2.2.2.1
    rw [hy] at hne
    exact hne (AdjV.w64_in (by omega))
/-- Only the block of one row of the call's own has changed. -/
def Same (v : Value) (W W' : World) : Prop := W'.heap.size = W.heap.size ∧ ∀ b, v.ownBlock ≠ some b → W'.heap[b]? = W.heap[b]?
theorem Same.put {g n c : Nat} {W W' : World} (h : Same (.slice (some ⟨g, 0, none⟩) n c) W W') (j : Nat) (x : Value) : Same (.slice (some ⟨g, 0, none⟩) n c) W (W'.setCell ⟨g, j, none⟩ x).drew :=
  ⟨by simp [World.drew]; exact h.1, fun b hb => (Below.heap_setCell W' ⟨g, j, none⟩ x b (fun e => hb (by simp [Value.ownBlock, e]))).trans (h.2 b hb)⟩
end Vw

set_option maxRecDepth 100000 in
set_option maxHeartbeats 8000000 in
theorem refReform_any (val : Value) (v : AdjV.V) (DA : Option Addr) (cdi : Nat) (dims : List Int) (B : Nat) (w : World) (hB : B ≤ w.heap.size) (h : Vw.ViewAt w B val v) (hdi : Vw.IntsAt w B DA dims)
    (md : dims.length ≤ cdi) (md2 : cdi ≤ 9223372036854775807) :
    Calls Try.prog 35 #[val, .slice DA dims.length cdi] w fun e w' => Vw.ViewOut B w w' (AdjV.reform v dims) e ∧ Below w.heap.size w w' := by
  have HW := Lib.hid (fun (W : World) (hb : Below w.heap.size w W) => refWrong_any val v B W (Nat.le_trans hB hb.size) (h.below (hb.mono hB)))
  have HDI := Lib.hid hdi
  have HZ := Lib.hid (fun (W : World) (hb : Below w.heap.size w W) => refSize_any DA cdi dims B W (by omega) (hdi.below (hb.mono hB)))
  obtain ⟨A, c, A', c', rfl, hd, hs, c1, c2, c3, c4⟩ := h
  have HD := Lib.hid hd
  have HS := Lib.hid hs
  have HB := Lib.hid ((((Below.refl w.heap.size w).alloc (Nat.le_refl _) (.cells #[.int .i64 v.st, .slice A v.dims.length c, .slice A' v.steps.length c'] 34))).alloc (by simp) (.cells #[.int .i64 0, .slice none 0 0, .slice none 0 0] 34))
  clear hd hs hdi
  by_cases h0 : AdjV.wrong v = 0
  rotate_left
  · have HT := Lib.hid (AdjV.reform_wrong (dims := dims) h0)
    have hq : (AdjV.wrong v != 0) = true := by simpa using h0
    clear h0
    go_enter Try.func35, Try.ntmps35
    go_wp2_with fail
    refine (HW.out _ HB.out).mono ?_
    rintro e w1 ⟨rfl, hb1⟩
    obtain ⟨hc, hf⟩ := bcell hb1
    have hz : w.heap.size + 1 < w1.heap.size := by have := hb1.size; simp at this; omega
    go_wp2_with fail
    refine bodyPost_ret (v := .tuple #[.agg #[.int .i64 0, .slice none 0 0, .slice none 0 0], .int .i64 (AdjV.wrong v)]) (by simp [results, Try.results35, go_sem, hc]) rfl ⟨?_, Vw.three (HB.out.trans (hb1.mono HB.out.size)) (Nat.le_succ _) _ _ _⟩
    rw [HT.out]; exact Vw.out_none _ _ _ _
  have H0 := Lib.hid h0
  obtain ⟨z1, z2, z3, z4⟩ := AdjV.wrong_fine h0
  have hn6 : v.dims.length ≤ 6 := (AdjV.size_fine z1).1
  have HLS := Lib.hid z2
  have HZ1 := Lib.hid z1
  have HSV := Lib.hid (fun (W : World) (hb : Below w.heap.size w W) => refSize_any A c v.dims B W (by omega) (HD.out.below (hb.mono hB)))
  clear h0 z1 z2 z4
  go_enter Try.func35, Try.ntmps35
  go_wp2_with fail
  refine (HW.out _ HB.out).mono ?_
  rintro e w1 ⟨rfl, hb1⟩
  rw [H0.out]
  have hx := ((Blk.new w 34 #[.int .i64 v.st, .slice A v.dims.length c, .slice A' v.steps.length c']).alloc (.cells #[.int .i64 0, .slice none 0 0, .slice none 0 0] 34)).below hb1 (by simp; omega)
  have hr := (Vw.blk2 w (.cells #[.int .i64 v.st, .slice A v.dims.length c, .slice A' v.steps.length c'] 34) 34 #[.int .i64 0, .slice none 0 0, .slice none 0 0]).below hb1 (by simp)
  have HX := Lib.hid hx
  have HR := Lib.hid hr
  have HB1 := Lib.hid (HB.out.trans (hb1.mono HB.out.size))
  have hz : w.heap.size + 1 < w1.heap.size := by have := hb1.size; simp at this; omega
  have x0 : w1.cell? ⟨w.heap.size, 0, none⟩ = some (.int .i64 v.st) := hx.cell 0
  have x1 : w1.cell? ⟨w.heap.size, 1, none⟩ = some (.slice A v.dims.length c) := hx.cell 1
  have x2 : w1.cell? ⟨w.heap.size, 2, none⟩ = some (.slice A' v.steps.length c') := hx.cell 2
  have r0 : w1.cell? ⟨w.heap.size + 1, 0, none⟩ = some (.int .i64 0) := hr.cell 0
  have r1 : w1.cell? ⟨w.heap.size + 1, 1, none⟩ = some (.slice none 0 0) := hr.cell 1
  have r2 : w1.cell? ⟨w.heap.size + 1, 2, none⟩ = some (.slice none 0 0) := hr.cell 2
  have f0 := hr.frozen 0
  have f1 := hr.frozen 1
  have f2 := hr.frozen 2
  clear hb1 hx hr
  go_wp2_with fail
  refine (HZ.out _ HB1.out).mono ?_
  rintro e w2 ⟨rfl, rfl⟩
  by_cases hs0 : (AdjV.size dims).2 = 0
  rotate_left
  · have HT := Lib.hid (AdjV.reform_size H0.out hs0)
    have hq : ((AdjV.size dims).2 != 0) = true := by simpa using hs0
    simp only [Vw.sizeR]
    clear hs0
    go_wp2_with fail
    refine bodyPost_ret (v := .tuple #[.agg #[.int .i64 0, .slice none 0 0, .slice none 0 0], .int .i64 ((AdjV.size dims).2)]) (by simp [results, Try.results35, go_sem, r0, r1, r2]) rfl ⟨?_, Vw.three HB1.out (Nat.le_succ _) _ _ _⟩
    rw [HT.out]; exact Vw.out_none _ _ _ _
  have HS0 := Lib.hid hs0
  have hd6 : dims.length ≤ 6 := (AdjV.size_fine hs0).1
  have hd16 : dims.length ≤ 65536 := by omega
  simp only [Vw.sizeR, hs0]
  have HMKI := Lib.hid (fun W => run_make_int dims.length hd16 W)
  clear hs0
  by_cases hss : (AdjV.size v.dims).1 = (AdjV.size dims).1
  rotate_left
  · have HT := Lib.hid (AdjV.reform_shape H0.out HS0.out hss)
    have hq1 : ((AdjV.size v.dims).1 != (AdjV.size dims).1) = true := by simpa using hss
    clear hss
    go_wp2_with fail
    refine (HSV.out _ HB1.out).mono ?_
    rintro e w2 ⟨rfl, rfl⟩
    simp only [Vw.sizeR]
    go_wp2_with fail
    refine bodyPost_ret (v := .tuple #[.agg #[.int .i64 0, .slice none 0 0, .slice none 0 0], .int .i64 6]) (by simp [results, Try.results35, go_sem, r0, r1, r2]) rfl ⟨?_, Vw.three HB1.out (Nat.le_succ _) _ _ _⟩
    rw [HT.out]; exact Vw.out_none _ _ _ _
  have hq1 : ((AdjV.size v.dims).1 != (AdjV.size dims).1) = false := by simpa using hss
  have HSS := Lib.hid hss
  clear hss
  go_wp2_with fail
  refine (HSV.out _ HB1.out).mono ?_
  rintro e w2 ⟨rfl, rfl⟩
  simp only [Vw.sizeR]
  clear r0 r1 r2 f0 f1 f2
  go_wp2_with fail
  have hmk := HMKI.out
  go_cut [11] (fun s11 wx => ∃ (bw : Nat) (A1 : Option Addr) (k1 : Nat) (v2 : Value), s11 = .pointer (some ⟨bw, 0, none⟩) ∧ Vw.Fs B w1.heap.size bw w1 v.st A1 k1 v2 dims (List.replicate dims.length 0) wx)
  case first =>
    refine wp_region_T (fun w' => w'.cell? ⟨w.heap.size, 0, none⟩ = some (.int .i64 v.st)) 8 (fun _ => True) 8 9 rfl (by kernel_rfl) ⟨x0, trivial⟩ (fun hHeld => ?_)
    simp only [List.replicate_succ, List.replicate_zero]
    refine wpT_take 0 43 (v := ?_) hHeld.1 hHeld.2 rfl rfl (by kernel_rfl) (fun _ _ _ h => h) rfl ?_ ?_
    rotate_left
    · (intro w hSw; (try dsimp only at hSw); go_simp; try with_reducible rfl)
    try simp only [Act.put, List.setIfInBounds_toArray, List.set_cons_zero, List.set_cons_succ]
    refine wpT_take 1 44 (v := ?_) hHeld.1 hHeld.2 rfl rfl (by kernel_rfl) (fun _ _ _ h => h) rfl ?_ ?_
    rotate_left
    · (intro w hSw; (try dsimp only at hSw); go_simp; try with_reducible rfl)
    try simp only [Act.put, List.setIfInBounds_toArray, List.set_cons_zero, List.set_cons_succ]
    refine wpT_take 2 45 (v := ?_) hHeld.1 hHeld.2 rfl rfl (by kernel_rfl) (fun _ _ _ h => h) rfl ?_ ?_
    rotate_left
    · (intro w hSw; (try dsimp only at hSw); go_simp; try with_reducible rfl)
    try simp only [Act.put, List.setIfInBounds_toArray, List.set_cons_zero, List.set_cons_succ]
    refine wpT_take 3 46 (v := ?_) hHeld.1 hHeld.2 rfl rfl (by kernel_rfl) (fun _ _ _ h => h) rfl ?_ ?_
    rotate_left
    · (intro w hSw; (try dsimp only at hSw); go_simp; try with_reducible rfl)
    try simp only [Act.put, List.setIfInBounds_toArray, List.set_cons_zero, List.set_cons_succ]
    refine wpT_take 4 47 (v := ?_) hHeld.1 hHeld.2 rfl rfl (by kernel_rfl) (fun _ _ _ h => h) rfl ?_ ?_
    rotate_left
    · (intro w hSw; (try dsimp only at hSw); go_simp; try with_reducible rfl)
    try simp only [Act.put, List.setIfInBounds_toArray, List.set_cons_zero, List.set_cons_succ]
    have HA0 := Lib.hid (Vw.Acc.start w1)
    have HDW := Lib.hid (HDI.out.below (HB1.out.mono hB))
    generalize w1.drew = W0 at HA0 hHeld ⊢
    refine wpT_two 5 7 (by kernel_rfl) (stepT_early rfl rfl (fun K hK => ?_)) (stepT_early rfl rfl (fun K hK => ?_))
    · go_simp
      have HA1 := Lib.hid (HA0.out.make dims.length hd16)
      refine hK.out _ _ ?_ (fun hHeld2 => ?_)
      · exact ⟨(HA1.out.below.cell (p := ⟨w.heap.size, 0, none⟩) (by simp; omega)).trans x0, trivial⟩
      clear hK K hHeld
      have hHeld := hHeld2
      clear hHeld2
      try simp only [List.setIfInBounds_toArray, List.set_cons_zero, List.set_cons_succ]
      generalize W0.alloc (.cells (ints (List.replicate dims.length 0)).toArray 3) = W1 at HA1 hHeld ⊢
      refine wpT_takeP 6 49 (v := ?_) ⟨fun _ => hHeld.1, fun _ => hHeld.2⟩ rfl rfl (by kernel_rfl) (fun _ _ _ h => h) rfl ?_ ?_
      rotate_left
      · (intro w; go_simp; try with_reducible rfl)
      try simp only [Act.put, List.setIfInBounds_toArray, List.set_cons_zero, List.set_cons_succ]
      refine wpT_one 7 (by kernel_rfl) (stepT_early rfl rfl (fun K hK => ?_))
      go_simp
      have HA3 := Lib.hid HA1.out.stepB
      refine hK.out _ _ ?_ (fun hHeld2 => ?_)
      · exact ⟨(HA3.out.below.cell (p := ⟨w.heap.size, 0, none⟩) (by simp; omega)).trans x0, trivial⟩
      clear hK K hHeld
      have hHeld := hHeld2
      clear hHeld2
      try simp only [List.setIfInBounds_toArray, List.set_cons_zero, List.set_cons_succ]
      generalize W1.alloc (.cells #[.int .i64 0, .slice none 0 0, .slice none 0 0] 34) = W3 at HA3 hHeld ⊢
      refine wpT_tail [_] 8 [] rfl (by kernel_rfl) ?_
      have HBK := Lib.hid (HA3.out.fb _ rfl)
      have q0 := HBK.out.2.cell 0
      have q1 := HBK.out.2.cell 1
      have q2 := HBK.out.2.cell 2
      have fq0 := HBK.out.2.frozen 0
      have fq1 := HBK.out.2.frozen 1
      have fq2 := HBK.out.2.frozen 2
      have hblt := HBK.out.2.lt
      have HF := Lib.hid (HA3.out.fs' v.st HDW.out (by omega) md md2)
      clear hHeld
      go_wp2_with fail
      go_meet
      exact ⟨_, _, _, _, rfl, HF.out⟩
    · go_simp
      have HA1 := Lib.hid HA0.out.stepB
      refine hK.out _ _ ?_ (fun hHeld2 => ?_)
      · exact ⟨(HA1.out.below.cell (p := ⟨w.heap.size, 0, none⟩) (by simp; omega)).trans x0, trivial⟩
      clear hK K hHeld
      have hHeld := hHeld2
      clear hHeld2
      try simp only [List.setIfInBounds_toArray, List.set_cons_zero, List.set_cons_succ]
      generalize W0.alloc (.cells #[.int .i64 0, .slice none 0 0, .slice none 0 0] 34) = W1 at HA1 hHeld ⊢
      refine wpT_one 5 (by kernel_rfl) (stepT_early rfl rfl (fun K hK => ?_))
      go_simp
      have HA3 := Lib.hid (HA1.out.make dims.length hd16)
      refine hK.out _ _ ?_ (fun hHeld2 => ?_)
      · exact ⟨(HA3.out.below.cell (p := ⟨w.heap.size, 0, none⟩) (by simp; omega)).trans x0, trivial⟩
      clear hK K hHeld
      have hHeld := hHeld2
      clear hHeld2
      try simp only [List.setIfInBounds_toArray, List.set_cons_zero, List.set_cons_succ]
      generalize W1.alloc (.cells (ints (List.replicate dims.length 0)).toArray 3) = W3 at HA3 hHeld ⊢
      refine wpT_takeP 6 49 (v := ?_) ⟨fun _ => hHeld.1, fun _ => hHeld.2⟩ rfl rfl (by kernel_rfl) (fun _ _ _ h => h) rfl ?_ ?_
      rotate_left
      · (intro w; go_simp; try with_reducible rfl)
      try simp only [Act.put, List.setIfInBounds_toArray, List.set_cons_zero, List.set_cons_succ]
      refine wpT_tail [_] 8 [] rfl (by kernel_rfl) ?_
      have HBK := Lib.hid (HA3.out.fb _ rfl)
      have q0 := HBK.out.2.cell 0
      have q1 := HBK.out.2.cell 1
      have q2 := HBK.out.2.cell 2
      have fq0 := HBK.out.2.frozen 0
      have fq1 := HBK.out.2.frozen 1
      have fq2 := HBK.out.2.frozen 2
      have hblt := HBK.out.2.lt
      have HF := Lib.hid (HA3.out.fs' v.st HDW.out (by omega) md md2)
      clear hHeld
      go_wp2_with fail
      go_meet
      exact ⟨_, _, _, _, rfl, HF.out⟩
  case rest =>
    obtain ⟨bw, A1, k1, v2, rfl, hfs⟩ := hcut
    have HF0 := Lib.hid hfs
    clear hfs hmk x0
    by_cases hn0 : (AdjV.size dims).1 = 0
    · have HT := Lib.hid (AdjV.reform_empty H0.out HS0.out HSS.out hn0)
      have hq2 : ((AdjV.size dims).1 == 0) = true := by simpa using hn0
      clear hn0
      obtain ⟨A2, n2, hv2, ia2, la2, ma2, ga2⟩ := Vw.own_view HF0.out.own2
      subst hv2
      have hrb := HR.out.below HF0.out.below (by omega)
      have HI2 := Lib.hid (And.intro ia2 (And.intro la2 (And.intro ma2 ga2)))
      have hlow : w1.heap.size ≤ bw := HF0.out.low
      have hbwl : bw < wc.heap.size := HF0.out.blk.lt
      have e0 : wc.cell? ⟨bw, 0, none⟩ = some (.int .i64 v.st) := HF0.out.blk.cell 0
      have e1 : wc.cell? ⟨bw, 1, none⟩ = some (.slice A1 dims.length k1) := HF0.out.blk.cell 1
      have e2 : wc.cell? ⟨bw, 2, none⟩ = some (.slice A2 (List.replicate dims.length (0 : Int)).length n2) := HF0.out.blk.cell 2
      have r0 : wc.cell? ⟨w.heap.size + 1, 0, none⟩ = some (.int .i64 0) := hrb.cell 0
      have r1 : wc.cell? ⟨w.heap.size + 1, 1, none⟩ = some (.slice none 0 0) := hrb.cell 1
      have r2 : wc.cell? ⟨w.heap.size + 1, 2, none⟩ = some (.slice none 0 0) := hrb.cell 2
      have f0 := hrb.frozen 0
      have f1 := hrb.frozen 1
      have f2 := hrb.frozen 2
      clear hrb ia2 la2 ma2 ga2
      go_wp2_with fail
      refine bodyPost_ret (v := .tuple #[.agg #[.int .i64 v.st, .slice A1 dims.length k1, .slice A2 (List.replicate dims.length (0 : Int)).length n2], .int .i64 0]) (by simp [results, Try.results35, go_sem, r0, r1, r2]) rfl ⟨?_, Vw.three (HB1.out.trans (HF0.out.below.mono HB1.out.size)) (Nat.le_succ _) _ _ _⟩
      rw [HT.out]
      refine Vw.out_mk ⟨A1, k1, A2, n2, rfl, ?_, ?_, HF0.out.l1, HF0.out.l2, HI2.out.2.1, HI2.out.2.2.1⟩ ?_ ?_
      · exact (HF0.out.i1.set3 (fun b off e hp => by have := (HF0.out.g1 b off e hp).1; omega) _ _ _).up (by simp)
      · exact (HI2.out.1.set3 (fun b off e hp => by have := HI2.out.2.2.2 b off e hp; omega) _ _ _).up (by simp)
      · exact fun b off e hp => by have := (HF0.out.g1 b off e hp).1; omega
      · exact fun b off e hp => by have := HI2.out.2.2.2 b off e hp; omega
    · have hq2 : ((AdjV.size dims).1 == 0) = false := by simpa using hn0
      obtain ⟨f1', f2', f3', f4', f5'⟩ := AdjV.reform_fine H0.out HS0.out HSS.out hn0
      have HPE := Lib.hid f1'
      have HPP := Lib.hid f2'
      have HN0 := Lib.hid hn0
      have HPV := Lib.hid f4'
      have HPD := Lib.hid f5'
      have HBC := Lib.hid (HB1.out.trans (HF0.out.below.mono HB1.out.size))
      have hxc := HX.out.below HF0.out.below (by omega)
      have x0 : wc.cell? ⟨w.heap.size, 0, none⟩ = some (.int .i64 v.st) := hxc.cell 0
      have x1 : wc.cell? ⟨w.heap.size, 1, none⟩ = some (.slice A v.dims.length c) := hxc.cell 1
      have x2 : wc.cell? ⟨w.heap.size, 2, none⟩ = some (.slice A' v.steps.length c') := hxc.cell 2
      have HRD := Lib.hid (refReads_any (.agg #[.int .i64 v.st, .slice A v.dims.length c, .slice A' v.steps.length c']) v B wc (Nat.le_trans hB HBC.out.size) ⟨A, c, A', c', rfl, HD.out.below (HBC.out.mono hB), HS.out.below (HBC.out.mono hB), c1, c2, c3, c4⟩ H0.out (by omega))
      clear hxc f1' f2' f3' f4' f5' hn0
      go_wp2_with fail
      refine HRD.out.mono ?_
      rintro e w3 ⟨o, rfl, ho3, hb3⟩
      obtain ⟨AL, cl, rfl, _⟩ := Vw.own_any ho3
      obtain ⟨n, hn⟩ : ∃ n, (Vw.readL v).length = n := ⟨_, rfl⟩
      rw [hn] at ho3 ⊢
      have HNL := Lib.hid hn
      have HBC3 := Lib.hid (HBC.out.trans (hb3.mono HBC.out.size))
      have HO3 := Lib.hid ho3
      have HF3 := Lib.hid (HF0.out.later hb3)
      have HSZ3 := Lib.hid hb3.size
      have HSP := Lib.hid (Steps_any DA cdi dims B w3 md md2 HS0.out (HDI.out.below (HBC3.out.mono hB)) (Nat.le_trans hB HBC3.out.size))
      clear hn ho3 hb3
      go_wp2_with fail
      refine HSP.out.mono ?_
      rintro e w4 ⟨vs, rfl, ho4, hb4⟩
      obtain ⟨AS, cs, rfl, _⟩ := Vw.own_any ho4
      have HSR := Lib.hid ho4
      have HF4 := Lib.hid (HF3.out.later hb4)
      have HRL := Lib.hid (Vw.own_kept HO3.out hb4)
      have HSZ4 := Lib.hid hb4.size
      have HO2 := Lib.hid HF0.out.own2.lt
      have HBC4 := Lib.hid (HBC3.out.trans (hb4.mono HBC3.out.size))
      clear ho4 hb4 x0 x1 x2
      go_wp2_with fail
      go_loopw [14, 15, 61] (fun _ _ i wr => ∃ (k : Nat), k ≤ dims.length ∧ i = .int .i64 (k : Int) ∧ Vw.Fs B w1.heap.size bw w1 v.st A1 k1 v2 dims (AdjV.offK v dims k) wr ∧ Vw.Same v2 w4 wr) (fun _ _ i _ => dims.length + 1 - (intOf i).toNat)
      case atStart => exact ⟨0, by omega, rfl, by rw [AdjV.offK_zero]; exact HF4.out, rfl, fun _ _ => rfl⟩
      case round =>
        obtain ⟨k, hk, rfl, hfs, hsm⟩ := hrel
        obtain ⟨wo, rfl⟩ : ∃ wo : World, wo = wr := ⟨_, rfl⟩
        have HF := Lib.hid hfs
        have HSM := Lib.hid hsm
        have HFW := Lib.hid (fun b (h : wc.heap.size ≤ b) => hsm.2 b (fun e => by have := HO2.out b e; omega))
        clear hfs hsm
        by_cases hlt : k < dims.length
        · have hrs := Vw.own_same (base' := w3.heap.size) HSR.out (Nat.le_refl _) (fun b h1 h2 => HFW.out b (Nat.le_trans HSZ3.out h1))
          obtain ⟨gs, cs', hgs, _, _⟩ := hrs.form (by omega)
          simp only [Value.slice.injEq, true_and] at hgs
          obtain ⟨rfl, rfl⟩ := hgs
          have hsk := hrs.cellAt k (by omega)
          rw [ints_at _ k (by rw [AdjV.steps_length]; exact hlt), AdjV.steps_pos HPD.out hlt] at hsk
          obtain ⟨db, doff, rfl, hdb, hdc⟩ := HDI.out (by omega)
          have hdk := ((HB1.out.trans (HF.out.below.mono HB1.out.size)).cell (p := ⟨db, doff + k, none⟩) (by simp; omega)).trans (hdc k hlt)
          have i1 : (0 : Int) ≤ (k : Int) := by omega
          have i2 : (k : Int) < (dims.length : Int) := by omega
          have hdp := HPD.out _ (List.getElem_mem hlt)
          by_cases h1 : 1 < dims[k]
          · have HSL := Lib.hid (AdjV.step_less HPD.out hlt h1)
            have HNX := Lib.hid (AdjV.offK_set (v := v) hlt h1)
            obtain ⟨q, hq⟩ : ∃ q : Nat, AdjV.prod (dims.drop (k + 1)) = (q : Int) := ⟨(AdjV.prod (dims.drop (k + 1))).toNat, by have := HSL.out; omega⟩
            have hqn : q < n := by have h1 := HSL.out; have h2 := HNL.out; rw [Vw.readL_length] at h2; have h3 := HPE.out; omega
            rw [hq] at hsk HNX
            have hrl := Vw.own_same (base' := wc.heap.size) HRL.out (Nat.le_refl _) (fun b h1 h2 => HFW.out b h1)
            obtain ⟨gl, cl', hgl, _, _⟩ := hrl.form (by omega)
            simp only [Value.slice.injEq, true_and] at hgl
            obtain ⟨rfl, rfl⟩ := hgl
            have hlq := hrl.cellAt q (by omega)
            rw [ints_at _ q (by have := HNL.out; omega), Vw.readL_at] at hlq
            have hl0 := hrl.cellAt 0 (by omega)
            rw [ints_at _ 0 (by have := HNL.out; omega), Vw.readL_at] at hl0
            have hb1 := AdjV.at_small H0.out (q : Int) HPV.out
            have hb2 := AdjV.at_small H0.out ((0 : Nat) : Int) HPV.out
            obtain ⟨g2, m2, hv2, _, _⟩ := HF.out.own2.form (by rw [AdjV.offK_length]; omega)
            rw [AdjV.offK_length] at hv2
            subst hv2
            have hln := AdjV.offK_length v dims k
            have ho2 : wo.ownsRow w1.heap.size 3 1 (.slice (some ⟨g2, 0, none⟩) dims.length m2) dims.length (ints (AdjV.offK v dims k)) := by have h := HF.out.own2; rw [AdjV.offK_length] at h; exact h
            have fq := ho2.frozenAt k
            have hbwl : bw < wo.heap.size := HF.out.blk.lt
            have b2 : wo.cell? ⟨bw, 2, none⟩ = some (.slice (some ⟨g2, 0, none⟩) dims.length m2) := HF.out.blk.cell 2
            have dq := ho2.cellAt k (by omega)
            rw [ints_at _ k (by rw [AdjV.offK_length]; omega)] at dq
            generalize (AdjV.offK v dims k)[k]'(by rw [AdjV.offK_length]; omega) = zq at dq
            have HST2 := Lib.hid (fun x => Vw.Fs.store2' HF.out (AdjV.offK_length v dims k) k x)
            have HLN := Lib.hid hln
            have q1 : (0 : Int) ≤ (q : Int) := by omega
            have q2 : (q : Int) < (n : Int) := by omega
            have q3 : 0 < n := by omega
            have q4 : (0 : Int) < (n : Int) := by omega
            clear hq hrl hrs hln hdc ho2
            generalize dims[k] = d at hdk hdp h1
            have h1' : decide (1 < d) = true := by simpa using h1
            generalize AdjV.at_ v (q : Int) = x at hlq hb1 HNX
            generalize hx0 : AdjV.at_ v ((0 : Nat) : Int) = x0 at hl0 hb2
            have HX0 := Lib.hid hx0
            clear hx0
            go_wp2_with fail
            refine wp_region_T (fun w' => w'.cell? ⟨bw, 2, none⟩ = some (.slice (some ⟨g2, 0, none⟩) dims.length m2) ∧ w'.cell? ⟨gl, q, none⟩ = some (.int .i64 x) ∧ w'.cell? ⟨gl, 0, none⟩ = some (.int .i64 x0)) 11 (fun _ => True) 11 13 rfl (by kernel_rfl) ⟨⟨b2, hlq, hl0⟩, trivial⟩ (fun hHeld => ?_)
            simp only [List.replicate_succ, List.replicate_zero]
            refine wpT_take 0 71 (v := ?_) hHeld.1 hHeld.2 rfl rfl (by kernel_rfl) (fun _ _ _ h => h) rfl ?_ ?_
            rotate_left
            · (intro w hSw; (try dsimp only at hSw); go_simp; try with_reducible rfl)
            try simp only [Act.put, List.setIfInBounds_toArray, List.set_cons_zero, List.set_cons_succ]
            refine wpT_take 1 72 (v := ?_) hHeld.1 hHeld.2 rfl rfl (by kernel_rfl) (fun _ _ _ h => h) rfl ?_ ?_
            rotate_left
            · (intro w hSw; (try dsimp only at hSw); go_simp; try with_reducible rfl)
            try simp only [Act.put, List.setIfInBounds_toArray, List.set_cons_zero, List.set_cons_succ]
            refine wpT_take 2 73 (v := ?_) hHeld.1 hHeld.2 rfl rfl (by kernel_rfl) (fun _ _ _ h => h) rfl ?_ ?_
            rotate_left
            · (intro w hSw; (try dsimp only at hSw); go_simp; try with_reducible rfl)
            try simp only [Act.put, List.setIfInBounds_toArray, List.set_cons_zero, List.set_cons_succ]
            refine wpT_take 3 74 (v := ?_) hHeld.1 hHeld.2 rfl rfl (by kernel_rfl) (fun _ _ _ h => h) rfl ?_ ?_
            rotate_left
            · (intro w hSw; (try dsimp only at hSw); go_simp; try with_reducible rfl)
            try simp only [Act.put, List.setIfInBounds_toArray, List.set_cons_zero, List.set_cons_succ]
            refine wpT_take 4 75 (v := ?_) hHeld.1 hHeld.2 rfl rfl (by kernel_rfl) (fun _ _ _ h => h) rfl ?_ ?_
            rotate_left
            · (intro w hSw; (try dsimp only at hSw); go_simp; try with_reducible rfl)
            try simp only [Act.put, List.setIfInBounds_toArray, List.set_cons_zero, List.set_cons_succ]
            refine wpT_take 5 76 (v := ?_) hHeld.1 hHeld.2 rfl rfl (by kernel_rfl) (fun _ _ _ h => h) rfl ?_ ?_
            rotate_left
            · (intro w hSw; (try dsimp only at hSw); go_simp; try with_reducible rfl)
            try simp only [Act.put, List.setIfInBounds_toArray, List.set_cons_zero, List.set_cons_succ]
            refine wpT_take 6 77 (v := ?_) hHeld.1 hHeld.2 rfl rfl (by kernel_rfl) (fun _ _ _ h => h) rfl ?_ ?_
            rotate_left
            · (intro w hSw; (try dsimp only at hSw); go_simp; try with_reducible rfl)
            try simp only [Act.put, List.setIfInBounds_toArray, List.set_cons_zero, List.set_cons_succ]
            refine wpT_take 7 78 (v := ?_) hHeld.1 hHeld.2 rfl rfl (by kernel_rfl) (fun _ _ _ h => h) rfl ?_ ?_
            rotate_left
            · (intro w hSw; (try dsimp only at hSw); go_simp; try with_reducible rfl)
            try simp only [Act.put, List.setIfInBounds_toArray, List.set_cons_zero, List.set_cons_succ]
            refine wpT_take 8 79 (v := ?_) hHeld.1 hHeld.2 rfl rfl (by kernel_rfl) (fun _ _ _ h => h) rfl ?_ ?_
            rotate_left
            · (intro w hSw; (try dsimp only at hSw); go_simp; try with_reducible rfl)
            try simp only [Act.put, List.setIfInBounds_toArray, List.set_cons_zero, List.set_cons_succ]
            refine wpT_take 9 80 (v := ?_) hHeld.1 hHeld.2 rfl rfl (by kernel_rfl) (fun _ _ _ h => h) rfl ?_ ?_
            rotate_left
            · (intro w hSw; (try dsimp only at hSw); go_simp; try with_reducible rfl)
            try simp only [Act.put, List.setIfInBounds_toArray, List.set_cons_zero, List.set_cons_succ]
            refine wpT_take 10 81 (v := ?_) hHeld.1 hHeld.2 rfl rfl (by kernel_rfl) (fun _ _ _ h => h) rfl ?_ ?_
            rotate_left
            · (intro w hSw; (try dsimp only at hSw); go_simp; try with_reducible rfl)
            try simp only [Act.put, List.setIfInBounds_toArray, List.set_cons_zero, List.set_cons_succ]
            refine wpT_tail [_, _] 11 [12] rfl (by kernel_rfl) ?_
            clear hHeld b2 hlq hl0
            go_wp2_with fail
            have HE2 := Lib.hid (show Vw.Fs B w1.heap.size bw w1 v.st A1 k1 (.slice (some ⟨g2, 0, none⟩) dims.length m2) dims (AdjV.offK v dims (k + 1)) (wo.setCell ⟨g2, k, none⟩ (.int .i64 (x - x0))).drew from by
              rw [HNX.out, ← HX0.out]; exact (HST2.out _).drew)
            have HE3 := Lib.hid (show Vw.Same (.slice (some ⟨g2, 0, none⟩) dims.length m2) w4 (wo.setCell ⟨g2, k, none⟩ (.int .i64 (x - x0))).drew from HSM.out.put k _)
            first
              | exact ⟨⟨k + 1, by omega, by go_num, HE2.out, HE3.out⟩, by simp [intOf]; omega⟩
              | (go_roundw
                 case rel => exact ⟨k + 1, by omega, by go_num, HE2.out, HE3.out⟩
                 case measure => (simp [intOf] <;> omega))
          · have HNX := Lib.hid (AdjV.offK_skip (v := v) hlt h1)
            clear hrs hdc
            generalize dims[k] = d at hdk hdp h1
            have h1' : decide (1 < d) = false := by simpa using h1
            go_wp2_with fail
            first
              | exact ⟨⟨k + 1, by omega, by go_num, by rw [HNX.out]; exact HF.out, HSM.out⟩, by simp [intOf]; omega⟩
              | (go_roundw
                 case rel => exact ⟨k + 1, by omega, by go_num, by rw [HNX.out]; exact HF.out, HSM.out⟩
                 case measure => (simp [intOf] <;> omega))
        · obtain rfl : k = dims.length := by omega
          have HFO := Lib.hid (show Vw.Fs B w1.heap.size bw w1 v.st A1 k1 v2 dims (AdjV.offs v dims) wo by rw [← AdjV.offK_all]; exact HF.out)
          have HBW := Lib.hid (HB1.out.trans (HF.out.below.mono HB1.out.size))
          have HRW := Lib.hid (Vw.own_same (base' := wc.heap.size) HRL.out (Nat.le_refl _) (fun b h1 h2 => HFW.out b h1))
          have HAL := Lib.hid (All_any DA cdi dims B wo md md2 HS0.out (by have := HPP.out; omega) (Nat.le_trans hB HBW.out.size) (HDI.out.below (HBW.out.mono hB)))
          go_wp2_with fail
          refine HAL.out.mono ?_
          rintro e w5 ⟨va, na, vals, rfl, hna, hvl, hown5, hrows5, hb5⟩
          obtain ⟨AO, co, rfl, _⟩ := Vw.own_any hown5
          have HNA := Lib.hid hna
          have HVL := Lib.hid hvl
          have HO5 := Lib.hid hown5
          have HR5 := Lib.hid hrows5
          have HF5 := Lib.hid (HFO.out.later hb5)
          have HRL5 := Lib.hid (Vw.own_kept HRW.out hb5)
          have HB5 := Lib.hid (HBW.out.trans (hb5.mono HBW.out.size))
          have hna16 : na ≤ 65536 := by have h1 := AdjV.size_fine HS0.out; omega
          have hnn : na = n := by have h1 := HNA.out; have h2 := HNL.out; rw [Vw.readL_length] at h2; have h3 := HPE.out; omega
          have HNN := Lib.hid hnn
          clear hna hvl hown5 hrows5 hb5 hnn
          go_wp2_with fail
          go_loopw [16, 17, 87] (fun _ _ i wr => ∃ (k : Nat), k ≤ na ∧ i = .int .i64 (k : Int) ∧ Below w5.heap.size w5 wr ∧ (∀ p : Nat, p < k → AdjV.w64 (v.st + AdjV.dot (AdjV.idx dims p) (AdjV.offs v dims)) = AdjV.at_ v p)) (fun _ _ i _ => na + 1 - (intOf i).toNat)
          case atStart => exact ⟨0, by omega, rfl, Below.refl _ _, fun p h => by omega⟩
          case round =>
            obtain ⟨k, hk, rfl, hb, hok⟩ := hrel
            obtain ⟨wm, rfl⟩ : ∃ wm : World, wm = wr := ⟨_, rfl⟩
            have HBM := Lib.hid hb
            have HOK := Lib.hid hok
            have HFM := Lib.hid (HF5.out.later hb)
            clear hb hok
            by_cases hlt : k < na
            · have hrow := Vw.own_kept HO5.out HBM.out
              obtain ⟨g5, c5, hg5, _, _⟩ := hrow.form (by omega)
              simp only [Value.slice.injEq, true_and] at hg5
              obtain ⟨rfl, rfl⟩ := hg5
              have hir := Vw.own_kept (HR5.out k (by have := HVL.out; omega)) HBM.out
              obtain ⟨AI, ci, hvi, _⟩ := Vw.own_any hir
              have hck := hrow.cellAt k (by omega)
              rw [List.getElem?_eq_getElem (by have := HVL.out; omega), hvi] at hck
              rw [hvi] at hir
              have hrl := Vw.own_kept HRL5.out HBM.out
              obtain ⟨gl, cl', hgl, _, _⟩ := hrl.form (by have := HNN.out; omega)
              simp only [Value.slice.injEq, true_and] at hgl
              obtain ⟨rfl, rfl⟩ := hgl
              have hlk := hrl.cellAt k (by have := HNN.out; omega)
              rw [ints_at _ k (by have := HNL.out; have := HNN.out; omega), Vw.readL_at] at hlk
              obtain ⟨A2, n2, hv2, ia2, la2, ma2, ga2⟩ := Vw.own_view HFM.out.own2
              rw [AdjV.offs_length] at hv2
              subst hv2
              have hbwl : bw < wm.heap.size := HFM.out.blk.lt
              have hgll := hrl.lt gl rfl
              have e0 : wm.cell? ⟨bw, 0, none⟩ = some (.int .i64 v.st) := HFM.out.blk.cell 0
              have e1 : wm.cell? ⟨bw, 1, none⟩ = some (.slice A1 dims.length k1) := HFM.out.blk.cell 1
              have e2 : wm.cell? ⟨bw, 2, none⟩ = some (.slice A2 dims.length n2) := HFM.out.blk.cell 2
              have HLI := Lib.hid (fun (W : World) (hb : Below wm.heap.size wm W) => LiesW_any v.st (.slice A1 dims.length k1) A2 AI n2 ci (AdjV.offs v dims) (AdjV.idx dims k) wm.heap.size W hb.size (by rw [AdjV.idx_length, AdjV.offs_length]) (by rw [AdjV.offs_length]; exact hd6) (ia2.below hb) ((Vw.IntsAt.of_own hir).2.below hb) (by have := z3; omega))
              rw [AdjV.offs_length, AdjV.idx_length] at HLI
              have i1 : (0 : Int) ≤ (k : Int) := by omega
              have i2 : (k : Int) < (na : Int) := by omega
              have i3 : (k : Int) < (n : Int) := by have := HNN.out; omega
              have HGO := Lib.hid (fun (h : AdjV.w64 (v.st + AdjV.dot (AdjV.idx dims k) (AdjV.offs v dims)) ≠ AdjV.at_ v k) => Vw.go_none H0.out HS0.out HSS.out HN0.out h)
              generalize hlw : AdjV.w64 (v.st + AdjV.dot (AdjV.idx dims k) (AdjV.offs v dims)) = lw at HGO HLI
              generalize hat : AdjV.at_ v (k : Int) = y at hlk HGO
              have HLW := Lib.hid (hlw.trans (Eq.refl lw))
              have HAT := Lib.hid hat
              clear hrow hir hvi hrl ia2 la2 ma2 ga2 hlw hat
              go_wp2_with fail
              refine wp_region_T (fun w' => w'.cell? ⟨bw, 0, none⟩ = some (.int .i64 v.st) ∧ w'.cell? ⟨bw, 1, none⟩ = some (.slice A1 dims.length k1) ∧ w'.cell? ⟨bw, 2, none⟩ = some (.slice A2 dims.length n2)) 2 (fun w' => w'.cell? ⟨gl, k, none⟩ = some (.int .i64 y)) 7 8 rfl (by kernel_rfl) ⟨⟨e0, e1, e2⟩, hlk⟩ (fun hHeld => ?_)
              simp only [List.replicate_succ, List.replicate_zero]
              refine wpT_take 0 92 (v := ?_) hHeld.1 hHeld.2 rfl rfl (by kernel_rfl) (fun _ _ _ h => h) rfl ?_ ?_
              rotate_left
              · (intro w hSw; (try dsimp only at hSw); go_simp; try with_reducible rfl)
              try simp only [Act.put, List.setIfInBounds_toArray, List.set_cons_zero, List.set_cons_succ]
              refine wpT_takeP 1 93 (v := ?_) ⟨fun _ => hHeld.1, fun _ => hHeld.2⟩ rfl rfl (by kernel_rfl) (fun _ _ _ h => h) rfl ?_ ?_
              rotate_left
              · (intro w; go_simp; try with_reducible rfl)
              try simp only [Act.put, List.setIfInBounds_toArray, List.set_cons_zero, List.set_cons_succ]
              refine wpT_takeP 3 95 (v := ?_) ⟨fun _ => hHeld.1, fun _ => hHeld.2⟩ rfl rfl (by kernel_rfl) (fun _ _ _ h => h) rfl ?_ ?_
              rotate_left
              · (intro w; go_simp; try with_reducible rfl)
              try simp only [Act.put, List.setIfInBounds_toArray, List.set_cons_zero, List.set_cons_succ]
              refine wpT_takeP 4 96 (v := ?_) ⟨fun _ => hHeld.1, fun _ => hHeld.2⟩ rfl rfl (by kernel_rfl) (fun _ _ _ h => h) rfl ?_ ?_
              rotate_left
              · (intro w; go_simp; try with_reducible rfl)
              try simp only [Act.put, List.setIfInBounds_toArray, List.set_cons_zero, List.set_cons_succ]
              refine wpT_takeP 5 97 (v := ?_) ⟨fun _ => hHeld.1, fun _ => hHeld.2⟩ rfl rfl (by kernel_rfl) (fun _ _ _ h => h) rfl ?_ ?_
              rotate_left
              · (intro w; go_simp; try with_reducible rfl)
              try simp only [Act.put, List.setIfInBounds_toArray, List.set_cons_zero, List.set_cons_succ]
              refine wpT_takeR 6 98 (v := ?_) ⟨fun _ => hHeld.1, fun _ => hHeld.2⟩ rfl rfl (by kernel_rfl) (fun _ _ _ h => h) rfl ?_ ?_
              rotate_left
              · (intro w hSw; (try dsimp only at hSw); go_simp; try with_reducible rfl)
              try simp only [Act.put, List.setIfInBounds_toArray, List.set_cons_zero, List.set_cons_succ]
              refine wpT_one 2 (by kernel_rfl) (stepT_late rfl rfl (by kernel_rfl) (fun K hK => ?_))
              go_simp
              refine (HLI.out _ (Below.refl _ _).drew).mono ?_
              rintro e w6 ⟨rfl, hb6⟩
              try go_simp
              refine hK.out _ _ ?_ (fun hHeld2 => ?_)
              · exact (hb6.cell (p := ⟨gl, k, none⟩) hgll.2).trans hHeld.2
              clear hK K hHeld hHeld2
              try simp only [List.setIfInBounds_toArray, List.set_cons_zero, List.set_cons_succ]
              refine wpT_tail [_] 7 [] rfl (by kernel_rfl) ?_
              have HB6 := Lib.hid (HBM.out.trans ((Below.drew (Below.refl _ _)).trans hb6 |>.mono HBM.out.size))
              clear hb6 e0 e1 e2 hck
              by_cases he : lw = y
              · have hq6 : (lw != y) = false := by simpa using he
                have HOK2 := Lib.hid (show ∀ p : Nat, p < k + 1 → AdjV.w64 (v.st + AdjV.dot (AdjV.idx dims p) (AdjV.offs v dims)) = AdjV.at_ v p from fun p hp => by
                  by_cases e : p < k
                  · exact HOK.out p e
                  · obtain rfl : p = k := by omega
                    rw [HLW.out, HAT.out]; exact he)
                clear he
                go_wp2_with fail
                first
                  | exact ⟨⟨k + 1, by omega, by go_num, HB6.out, HOK2.out⟩, by simp [intOf]; omega⟩
                  | (go_roundw
                     case rel => exact ⟨k + 1, by omega, by go_num, HB6.out, HOK2.out⟩
                     case measure => (simp [intOf] <;> omega))
              · have hq6 : (lw != y) = true := by simpa using he
                have HT := Lib.hid (AdjV.reform_none H0.out HS0.out HSS.out HN0.out (HGO.out he))
                have HBF := Lib.hid (HB5.out.trans (HB6.out.mono HB5.out.size))
                have hrb := HR.out.below ((HF5.out.later HB6.out).below) (by omega)
                have hz6 : w.heap.size + 1 < w6.heap.size := hrb.lt
                have r0 : w6.cell? ⟨w.heap.size + 1, 0, none⟩ = some (.int .i64 0) := hrb.cell 0
                have r1 : w6.cell? ⟨w.heap.size + 1, 1, none⟩ = some (.slice none 0 0) := hrb.cell 1
                have r2 : w6.cell? ⟨w.heap.size + 1, 2, none⟩ = some (.slice none 0 0) := hrb.cell 2
                have f0 := hrb.frozen 0
                have f1 := hrb.frozen 1
                have f2 := hrb.frozen 2
                clear hrb he
                go_wp2_with fail
                refine bodyPost_ret (v := .tuple #[.agg #[.int .i64 0, .slice none 0 0, .slice none 0 0], .int .i64 9]) (by simp [results, Try.results35, go_sem, r0, r1, r2]) rfl ⟨?_, Vw.three HBF.out (Nat.le_succ _) _ _ _⟩
                rw [HT.out]; exact Vw.out_none _ _ _ _
            · obtain rfl : k = na := by omega
              obtain ⟨ss, hgs⟩ := AdjV.reform_no H0.out HS0.out HSS.out HN0.out (fun p p0 p1 => by
                obtain ⟨q, rfl⟩ : ∃ q : Nat, p = (q : Int) := ⟨p.toNat, by omega⟩
                exact HOK.out q (by have := HNA.out; omega))
              have hrf := AdjV.reform_some H0.out HS0.out HSS.out HN0.out hgs
              rw [← (AdjV.reform_yes H0.out HS0.out HSS.out HN0.out hgs).1] at hrf
              have HFL := Lib.hid hrf
              clear hrf hgs ss
              obtain ⟨A2, n2, hv2, ia2, la2, ma2, ga2⟩ := Vw.own_view HFM.out.own2
              subst hv2
              have HBF := Lib.hid (HB5.out.trans (HBM.out.mono HB5.out.size))
              have hrb := HR.out.below HFM.out.below (by omega)
              have htw := AdjV.reform_made (v := v) (ss := AdjV.offs v dims) HS0.out (AdjV.offs_length v dims)
              have hlow : w1.heap.size ≤ bw := HFM.out.low
              have hbwl : bw < wm.heap.size := HFM.out.blk.lt
              have e0 : wm.cell? ⟨bw, 0, none⟩ = some (.int .i64 v.st) := HFM.out.blk.cell 0
              have e1 : wm.cell? ⟨bw, 1, none⟩ = some (.slice A1 dims.length k1) := HFM.out.blk.cell 1
              have e2 : wm.cell? ⟨bw, 2, none⟩ = some (.slice A2 (AdjV.offs v dims).length n2) := HFM.out.blk.cell 2
              have HVA := Lib.hid (show Vw.ViewAt wm wm.heap.size (.agg #[.int .i64 v.st, .slice A1 dims.length k1, .slice A2 (AdjV.offs v dims).length n2]) ⟨v.st, dims, (AdjV.offs v dims)⟩ from ⟨A1, k1, A2, n2, rfl, HFM.out.i1, ia2, HFM.out.l1, HFM.out.l2, la2, ma2⟩)
              have HMD := Lib.hid (made_any (.agg #[.int .i64 v.st, .slice A1 dims.length k1, .slice A2 (AdjV.offs v dims).length n2]) ⟨v.st, dims, AdjV.offs v dims⟩ wm.heap.size wm (Nat.le_refl _) ⟨A1, k1, A2, n2, rfl, HFM.out.i1, ia2, HFM.out.l1, HFM.out.l2, la2, ma2⟩ htw)
              have HRR := Lib.hid hrb
              have HGA := Lib.hid (And.intro (fun b off e hp => (HFM.out.g1 b off e hp).1) ga2)
              have HMK := Lib.hid (fun (h : AdjV.wrong ⟨v.st, dims, (AdjV.offs v dims)⟩ = 4) => HFL.out.trans (if_pos h))
              have HMK' := Lib.hid (fun (h : AdjV.wrong ⟨v.st, dims, (AdjV.offs v dims)⟩ ≠ 4) => HFL.out.trans (if_neg h))
              clear hrb ia2 la2 ma2 ga2 htw
              generalize (AdjV.offs v dims) = ys at *
              go_wp2_with fail
              refine HMD.out.mono ?_
              rintro e w8 ⟨rfl, hb8⟩
              have hr8 := HRR.out.below hb8 HRR.out.lt
              have r0 : w8.cell? ⟨w.heap.size + 1, 0, none⟩ = some (.int .i64 0) := hr8.cell 0
              have r1 : w8.cell? ⟨w.heap.size + 1, 1, none⟩ = some (.slice none 0 0) := hr8.cell 1
              have r2 : w8.cell? ⟨w.heap.size + 1, 2, none⟩ = some (.slice none 0 0) := hr8.cell 2
              have f0 := hr8.frozen 0
              have f1 := hr8.frozen 1
              have f2 := hr8.frozen 2
              have HBX := Lib.hid (fun x y z => Vw.three (HBF.out.trans (hb8.mono HBF.out.size)) (Nat.le_succ w.heap.size) x y z)
              have HV8 := Lib.hid (HVA.out.below hb8)
              have hlt8 : wm.heap.size ≤ w8.heap.size := hb8.size
              have hlt9 : w.heap.size + 1 < wm.heap.size := HRR.out.lt
              clear hr8 hb8
              by_cases h4 : AdjV.wrong ⟨v.st, dims, ys⟩ = 4
              · have HT := Lib.hid (HMK.out h4)
                rw [show Vw.madeR (.agg #[.int .i64 v.st, .slice A1 dims.length k1, .slice A2 ys.length n2]) ⟨v.st, dims, ys⟩ = .tuple #[.agg #[.int .i64 0, .slice none 0 0, .slice none 0 0], .int .i64 5] from if_pos h4]
                clear h4
                go_wp2_with fail
                refine bodyPost_ret (v := .tuple #[.agg #[.int .i64 0, .slice none 0 0, .slice none 0 0], .int .i64 5]) (by simp [results, Try.results35, go_sem, r0, r1, r2]) rfl ⟨?_, HBX.out _ _ _⟩
                rw [HT.out]; exact Vw.out_none _ _ _ _
              · have HT := Lib.hid (HMK'.out h4)
                rw [show Vw.madeR (.agg #[.int .i64 v.st, .slice A1 dims.length k1, .slice A2 ys.length n2]) ⟨v.st, dims, ys⟩ = .tuple #[.agg #[.int .i64 v.st, .slice A1 dims.length k1, .slice A2 ys.length n2], .int .i64 0] from if_neg h4]
                clear h4
                go_wp2_with fail
                refine bodyPost_ret (v := .tuple #[.agg #[.int .i64 v.st, .slice A1 dims.length k1, .slice A2 ys.length n2], .int .i64 0]) (by simp [results, Try.results35, go_sem, r0, r1, r2]) rfl ⟨?_, HBX.out _ _ _⟩
                rw [HT.out]
                exact Vw.out_mk (Vw.view_set3 HV8.out (cc := w.heap.size + 1) rfl (fun b off e hp => by have := HGA.out.1 b off e hp; omega) (fun b off e hp => by have := HGA.out.2 b off e hp; omega) (by simp; omega) _ _ _) (fun b off e hp => by have := HGA.out.1 b off e hp; omega) (fun b off e hp => by have := HGA.out.2 b off e hp; omega)
end Go.Proofs.Ytkbmnefjnfihbaa
