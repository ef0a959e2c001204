/-
  The walk of the program's Reform; A range over a function whose rounds come in a known order, of whose two values the first alone is asked for. Conditions: where the theorems name them.
-/
import Derived.Test.YtapedmpbkffopaaZ02
import Derived.Test.YtapedmpbkffopaaZ13
import Derived.Test.YtapedmpbkffopaaZ14
import Derived.Outline
section
namespace Go.Proofs.Ytapedmpbkffopaa
set_option linter.unusedVariables false
open Go.RowKit Go.Shelf Adj
attribute [local go_sem ↓] Go.wp_at_zero Go.wp_at_succ
attribute [local go_sem] Oper.semAt_some
theorem wp_of_only {P : Program} {c : Code} {Q : Exit → Act → World → Prop} {a : Act} {w : World} (h : c.wp P (only (Q .normal)) a w) : c.wp P Q a w :=
 wp_mono h fun e a w hq => by cases e <;> first | exact hq | exact hq.elim
namespace Vw
theorem own_slice {w : World} {base size : Nat} {e : TypeId} {v : Value} {n : Nat} {xs : List Value} (h : w.ownsRow base e size v n xs) : ∃ A c, v = .slice A n c := by
 rcases h.2 with ⟨rfl, rfl⟩ | ⟨g, cap, cur, rfl, _⟩
 ·exact ⟨_, _, rfl⟩
 ·exact ⟨_, _, rfl⟩
theorem blk3 (w : World) (o o2 : Obj) (t : TypeId) (cs : Array Value) : Blk (((w.alloc o).alloc o2).alloc (.cells cs t)) (w.heap.size + 1 + 1) t cs := by
 have h := Blk.new ((w.alloc o).alloc o2) t cs
 rw [show ((w.alloc o).alloc o2).heap.size = w.heap.size + 1 + 1 by simp] at h
 exact h
theorem four {w w1 : World} (h : Below w.heap.size w w1) (x y z e : Value) : Below w.heap.size w ((((w1.setCell ⟨w.heap.size + 1, 0, none⟩ x).setCell ⟨w.heap.size + 1, 1, none⟩ y).setCell ⟨w.heap.size + 1, 2, none⟩ z).setCell ⟨w.heap.size + 1 + 1, 0, none⟩ e) :=
 (three h (Nat.le_succ _) x y z).setCell (p := ⟨w.heap.size + 1 + 1, 0, none⟩) (by simp; omega) e
end Vw
set_option maxRecDepth 100000 in
set_option maxHeartbeats 8000000 in
theorem Reform_any (val : Value) (v : AdjV.V) (DA : Option Addr) (cdi : Nat) (dims : List Int) (B : Nat) (w : World) (hB : B ≤ w.heap.size) (h : Vw.ViewAt w B val v) (hdi : Vw.IntsAt w B DA dims)
    (md : dims.length ≤ cdi) (md2 : cdi ≤ 9223372036854775807) :
    Calls Try.prog 60 #[val, .slice DA dims.length cdi] w fun e w' => Vw.ViewOut 0 w w' (AdjV.reform v dims) e ∧ Below w.heap.size w w' := by
 have HW := Lib.hid (fun (W : World) (hb : Below w.heap.size w W) => Wrong_any val v B W (Nat.le_trans hB hb.size) (h.below (hb.mono hB)))
 have HDI := Lib.hid hdi
 have HZ := Lib.hid (fun (W : World) (hb : Below w.heap.size w W) => Size_any DA cdi dims B W (by omega) (hdi.below (hb.mono hB)))
 obtain ⟨A, c, A', c', rfl, hd, hs, c1, c2, c3, c4⟩ := h
 have HD := Lib.hid hd
 have HS := Lib.hid hs
 have HB := Lib.hid (((((Below.refl w.heap.size w).alloc (Nat.le_refl _) (.cells #[.int .i64 v.st, .slice A v.dims.length c, .slice A' v.steps.length c'] 68))).alloc (by simp) (.cells #[.int .i64 0, .slice none 0 0, .slice none 0 0] 68)).alloc (by simp; omega) (.cells #[.int .i64 0] 27))
 clear hd hs hdi
 by_cases h0 : AdjV.wrong v = 0
 rotate_left
 ·have HT := Lib.hid (AdjV.reform_wrong (dims := dims) h0)
  have hq : (AdjV.wrong v != 0) = true := by simpa using h0
  clear h0
  refine (callsIn_wide (n := 6)).1 ?_
  refine callsIn_of_wp_marks Try.func60 rfl trivial ?_ rfl
  refine wpIn_wide.2 ?_
  simp only [Try.ntmps60, List.size_toArray, List.length_cons, List.length_nil, Nat.reduceAdd, Nat.reduceSub, Array.replicate_succ, Array.replicate_zero, List.push_toArray, List.append_toArray, List.nil_append, List.cons_append]
  go_wp2_with fail
  refine (HW.out _ HB.out).mono ?_
  rintro e w1 ⟨rfl, hb1⟩
  obtain ⟨hc, hf⟩ := bcell hb1
  have hz : w.heap.size + 1 + 1 < w1.heap.size := by have := hb1.size; simp at this; omega
  go_wp2_with fail
  refine ⟨.tuple #[.agg #[.int .i64 0, .slice none 0 0, .slice none 0 0], .int .i64 (AdjV.wrong v)], by simp [results, Try.f60, go_sem, hc], ?_, Vw.four (HB.out.trans (hb1.mono HB.out.size)) _ _ _ _⟩
  rw [HT.out]; exact Vw.out_none _ _ _ _
 have H0 := Lib.hid h0
 obtain ⟨z1, z2, z3, z4⟩ := AdjV.wrong_fine h0
 have hn6 : v.dims.length ≤ 6 := (AdjV.size_fine z1).1
 have HLS := Lib.hid z2
 have HZ1 := Lib.hid z1
 have HSV := Lib.hid (fun (W : World) (hb : Below w.heap.size w W) => Size_any A c v.dims B W (by omega) (HD.out.below (hb.mono hB)))
 clear h0 z1 z2 z4
 refine (callsIn_wide (n := 6)).1 ?_
 refine callsIn_of_wp_marks Try.func60 rfl trivial ?_ rfl
 refine wpIn_wide.2 ?_
 simp only [Try.ntmps60, List.size_toArray, List.length_cons, List.length_nil, Nat.reduceAdd, Nat.reduceSub, Array.replicate_succ, Array.replicate_zero, List.push_toArray, List.append_toArray, List.nil_append, List.cons_append]
 go_wp2_with fail
 refine (HW.out _ HB.out).mono ?_
 rintro e w1 ⟨rfl, hb1⟩
 rw [H0.out]
 have hx := (((Blk.new w 68 #[.int .i64 v.st, .slice A v.dims.length c, .slice A' v.steps.length c']).alloc (.cells #[.int .i64 0, .slice none 0 0, .slice none 0 0] 68)).alloc (.cells #[.int .i64 0] 27)).below hb1 (by first | (simp; done) | (simp; omega))
 have hr := ((Vw.blk2 w (.cells #[.int .i64 v.st, .slice A v.dims.length c, .slice A' v.steps.length c'] 68) 68 #[.int .i64 0, .slice none 0 0, .slice none 0 0]).alloc (.cells #[.int .i64 0] 27)).below hb1 (by first | (simp; done) | (simp; omega))
 have hre := (Vw.blk3 w (.cells #[.int .i64 v.st, .slice A v.dims.length c, .slice A' v.steps.length c'] 68) (.cells #[.int .i64 0, .slice none 0 0, .slice none 0 0] 68) 27 #[.int .i64 0]).below hb1 (by simp)
 have HRE := Lib.hid hre
 have ee0 : w1.cell? ⟨w.heap.size + 1 + 1, 0, none⟩ = some (.int .i64 0) := hre.cell 0
 have ef0 := hre.frozen 0
 have HX := Lib.hid hx
 have HR := Lib.hid hr
 have HB1 := Lib.hid (HB.out.trans (hb1.mono HB.out.size))
 have hz : w.heap.size + 1 + 1 < w1.heap.size := by have := hb1.size; simp at this; omega
 have x0 : w1.cell? ⟨w.heap.size, 0, none⟩ = some (.int .i64 v.st) := hx.cell 0
 have x1 : w1.cell? ⟨w.heap.size, 1, none⟩ = some (.slice A v.dims.length c) := hx.cell 1
 have x2 : w1.cell? ⟨w.heap.size, 2, none⟩ = some (.slice A' v.steps.length c') := hx.cell 2
 have r0 : w1.cell? ⟨w.heap.size + 1, 0, none⟩ = some (.int .i64 0) := hr.cell 0
 have r1 : w1.cell? ⟨w.heap.size + 1, 1, none⟩ = some (.slice none 0 0) := hr.cell 1
 have r2 : w1.cell? ⟨w.heap.size + 1, 2, none⟩ = some (.slice none 0 0) := hr.cell 2
 have f0 := hr.frozen 0
 have f1 := hr.frozen 1
 have f2 := hr.frozen 2
 clear hb1 hx hr hre
 go_wp2_with fail
 refine (HZ.out _ HB1.out).mono ?_
 rintro e w2 ⟨rfl, rfl⟩
 by_cases hs0 : (AdjV.size dims).2 = 0
 rotate_left
 ·have HT := Lib.hid (AdjV.reform_size H0.out hs0)
  have hq : ((AdjV.size dims).2 != 0) = true := by simpa using hs0
  simp only [Vw.sizeR]
  clear hs0
  go_wp2_with fail
  refine ⟨.tuple #[.agg #[.int .i64 0, .slice none 0 0, .slice none 0 0], .int .i64 ((AdjV.size dims).2)], by simp [results, Try.f60, go_sem, r0, r1, r2, ee0], ?_, Vw.four HB1.out _ _ _ _⟩
  rw [HT.out]; exact Vw.out_none _ _ _ _
 have HS0 := Lib.hid hs0
 have hd6 : dims.length ≤ 6 := (AdjV.size_fine hs0).1
 have hd16 : dims.length ≤ 65536 := by omega
 simp only [Vw.sizeR, hs0]
 have HMKI := Lib.hid (fun W => run_make_int dims.length hd16 W)
 have HCL := Lib.hid (fun (W : World) (hb : Below w1.heap.size w1 W) => Clone_any DA cdi dims B W (by omega) (HDI.out.below ((HB1.out.trans (hb.mono HB1.out.size)).mono hB)) (Nat.le_trans hB (Nat.le_trans HB1.out.size hb.size)))
 clear hs0
 by_cases hss : (AdjV.size v.dims).1 = (AdjV.size dims).1
 rotate_left
 ·have HT := Lib.hid (AdjV.reform_shape H0.out HS0.out hss)
  have hq1 : ((AdjV.size v.dims).1 != (AdjV.size dims).1) = true := by simpa using hss
  clear hss
  go_wp2_with fail
  refine (HSV.out _ HB1.out).mono ?_
  rintro e w2 ⟨rfl, rfl⟩
  simp only [Vw.sizeR]
  go_wp2_with fail
  refine ⟨.tuple #[.agg #[.int .i64 0, .slice none 0 0, .slice none 0 0], .int .i64 6], by simp [results, Try.f60, go_sem, r0, r1, r2, ee0], ?_, Vw.four HB1.out _ _ _ _⟩
  rw [HT.out]; exact Vw.out_none _ _ _ _
 have hq1 : ((AdjV.size v.dims).1 != (AdjV.size dims).1) = false := by simpa using hss
 have HSS := Lib.hid hss
 clear hss
 go_wp2_with fail
 refine (HSV.out _ HB1.out).mono ?_
 rintro e w2 ⟨rfl, rfl⟩
 simp only [Vw.sizeR]
 clear r0 r1 r2 f0 f1 f2 ee0 ef0
 go_wp2_with fail
 have hmk := HMKI.out
 go_cut [11] from 16 to 49 (fun s11 wx => ∃ (bw : Nat) (A1 : Option Addr) (k1 : Nat) (v2 : Value), s11 = .pointer (some ⟨bw, 0, none⟩) ∧ Vw.Fs 0 w1.heap.size bw w1 v.st A1 k1 v2 dims (List.replicate dims.length 0) wx)
 case first =>
  refine wp_of_only ?_
  refine wp_region_T (fun w' => w'.cell? ⟨w.heap.size, 0, none⟩ = some (.int .i64 v.st)) 9 (fun _ => True) 9 10 rfl (by kernel_rfl) ⟨x0, trivial⟩ (fun hHeld => ?_)
  simp only [List.replicate_succ, List.replicate_zero]
  refine tk (v := ?_) [] 0 41 hHeld ?_ ?_; rotate_left; (intro w h; (try dsimp only at h); go_simp; try with_reducible rfl); try simp only [Act.put, zA, zB, zC]
  refine tk (v := ?_) [] 1 42 hHeld ?_ ?_; rotate_left; (intro w h; (try dsimp only at h); go_simp; try with_reducible rfl); try simp only [Act.put, zA, zB, zC]
  refine tk (v := ?_) [] 2 43 hHeld ?_ ?_; rotate_left; (intro w h; (try dsimp only at h); go_simp; try with_reducible rfl); try simp only [Act.put, zA, zB, zC]
  refine tk (v := ?_) [] 4 45 hHeld ?_ ?_; rotate_left; (intro w h; (try dsimp only at h); go_simp; try with_reducible rfl); try simp only [Act.put, zA, zB, zC]
  refine tk (v := ?_) [] 5 46 hHeld ?_ ?_; rotate_left; (intro w h; (try dsimp only at h); go_simp; try with_reducible rfl); try simp only [Act.put, zA, zB, zC]
  have HA0 := Lib.hid (Vw.Acc.start w1)
  generalize w1.drew = W0 at HA0 hHeld ⊢
  refine wpT_three 3 6 8 (by kernel_rfl) (stepT_early rfl rfl (fun K hK => ?_)) (stepT_early rfl rfl (fun K hK => ?_)) (stepT_early rfl rfl (fun K hK => ?_))
  ·go_simp
   refine (HCL.out _ HA0.out.below).mono ?_
   rintro e W1 ⟨va, rfl, ho, hb⟩
   obtain ⟨G1, m1, rfl, hm1⟩ := Vw.own_any ho
   have HA1 := Lib.hid (HA0.out.stepC ho hb)
   clear ho hb
   try go_simp
   refine hK.out _ _ ?_ (fun hHeld2 => ?_)
   ·exact ⟨(HA1.out.below.cell (p := ⟨w.heap.size, 0, none⟩) (by simp; omega)).trans x0, trivial⟩
   clear hK K hHeld
   have hHeld := hHeld2
   clear hHeld2
   try simp only [zA, zB, zC]
   refine wpT_two 6 8 (by kernel_rfl) (stepT_early rfl rfl (fun K hK => ?_)) (stepT_early rfl rfl (fun K hK => ?_))
   ·go_simp
    have HA2 := Lib.hid (HA1.out.make dims.length hd16)
    refine hK.out _ _ ?_ (fun hHeld2 => ?_)
    ·exact ⟨(HA2.out.below.cell (p := ⟨w.heap.size, 0, none⟩) (by simp; omega)).trans x0, trivial⟩
    clear hK K hHeld
    have hHeld := hHeld2
    clear hHeld2
    try simp only [zA, zB, zC]
    generalize W1.alloc (.cells (ints (List.replicate dims.length 0)).toArray 3) = W2 at HA2 hHeld ⊢
    refine tp (v := ?_) 7 48 ⟨fun _ => hHeld.1, fun _ => hHeld.2⟩ ?_ ?_; rotate_left; (intro w; go_simp; try with_reducible rfl); try simp only [Act.put, zA, zB, zC]
    refine wpT_one 8 (by kernel_rfl) (stepT_early rfl rfl (fun K hK => ?_))
    go_simp
    have HA3 := Lib.hid HA2.out.stepB
    refine hK.out _ _ ?_ (fun hHeld2 => ?_)
    ·exact ⟨(HA3.out.below.cell (p := ⟨w.heap.size, 0, none⟩) (by simp; omega)).trans x0, trivial⟩
    clear hK K hHeld
    have hHeld := hHeld2
    clear hHeld2
    try simp only [zA, zB, zC]
    generalize W2.alloc (.cells #[.int .i64 0, .slice none 0 0, .slice none 0 0] 68) = W3 at HA3 hHeld ⊢
    refine wpT_tail [_] 9 [] rfl (by kernel_rfl) ?_
    have HBK := Lib.hid (HA3.out.fb _ rfl)
    have q0 := HBK.out.2.cell 0
    have q1 := HBK.out.2.cell 1
    have q2 := HBK.out.2.cell 2
    have fq0 := HBK.out.2.frozen 0
    have fq1 := HBK.out.2.frozen 1
    have fq2 := HBK.out.2.frozen 2
    have hblt := HBK.out.2.lt
    have HF := Lib.hid (HA3.out.fs 0 v.st)
    clear hHeld
    go_wp2_with fail
    try unfold Adj.only
    go_wp2_with fail
    go_meet
    exact ⟨_, _, _, _, rfl, HF.out⟩
   ·go_simp
    have HA2 := Lib.hid HA1.out.stepB
    refine hK.out _ _ ?_ (fun hHeld2 => ?_)
    ·exact ⟨(HA2.out.below.cell (p := ⟨w.heap.size, 0, none⟩) (by simp; omega)).trans x0, trivial⟩
    clear hK K hHeld
    have hHeld := hHeld2
    clear hHeld2
    try simp only [zA, zB, zC]
    generalize W1.alloc (.cells #[.int .i64 0, .slice none 0 0, .slice none 0 0] 68) = W2 at HA2 hHeld ⊢
    refine wpT_one 6 (by kernel_rfl) (stepT_early rfl rfl (fun K hK => ?_))
    go_simp
    have HA3 := Lib.hid (HA2.out.make dims.length hd16)
    refine hK.out _ _ ?_ (fun hHeld2 => ?_)
    ·exact ⟨(HA3.out.below.cell (p := ⟨w.heap.size, 0, none⟩) (by simp; omega)).trans x0, trivial⟩
    clear hK K hHeld
    have hHeld := hHeld2
    clear hHeld2
    try simp only [zA, zB, zC]
    generalize W2.alloc (.cells (ints (List.replicate dims.length 0)).toArray 3) = W3 at HA3 hHeld ⊢
    refine tp (v := ?_) 7 48 ⟨fun _ => hHeld.1, fun _ => hHeld.2⟩ ?_ ?_; rotate_left; (intro w; go_simp; try with_reducible rfl); try simp only [Act.put, zA, zB, zC]
    refine wpT_tail [_] 9 [] rfl (by kernel_rfl) ?_
    have HBK := Lib.hid (HA3.out.fb _ rfl)
    have q0 := HBK.out.2.cell 0
    have q1 := HBK.out.2.cell 1
    have q2 := HBK.out.2.cell 2
    have fq0 := HBK.out.2.frozen 0
    have fq1 := HBK.out.2.frozen 1
    have fq2 := HBK.out.2.frozen 2
    have hblt := HBK.out.2.lt
    have HF := Lib.hid (HA3.out.fs 0 v.st)
    clear hHeld
    go_wp2_with fail
    try unfold Adj.only
    go_wp2_with fail
    go_meet
    exact ⟨_, _, _, _, rfl, HF.out⟩
  ·go_simp
   have HA1 := Lib.hid (HA0.out.make dims.length hd16)
   refine hK.out _ _ ?_ (fun hHeld2 => ?_)
   ·exact ⟨(HA1.out.below.cell (p := ⟨w.heap.size, 0, none⟩) (by simp; omega)).trans x0, trivial⟩
   clear hK K hHeld
   have hHeld := hHeld2
   clear hHeld2
   try simp only [zA, zB, zC]
   generalize W0.alloc (.cells (ints (List.replicate dims.length 0)).toArray 3) = W1 at HA1 hHeld ⊢
   refine wpT_two 3 8 (by kernel_rfl) (stepT_early rfl rfl (fun K hK => ?_)) (stepT_early rfl rfl (fun K hK => ?_))
   ·go_simp
    refine (HCL.out _ HA1.out.below).mono ?_
    rintro e W2 ⟨va, rfl, ho, hb⟩
    obtain ⟨G1, m1, rfl, hm1⟩ := Vw.own_any ho
    have HA2 := Lib.hid (HA1.out.stepC ho hb)
    clear ho hb
    try go_simp
    refine hK.out _ _ ?_ (fun hHeld2 => ?_)
    ·exact ⟨(HA2.out.below.cell (p := ⟨w.heap.size, 0, none⟩) (by simp; omega)).trans x0, trivial⟩
    clear hK K hHeld
    have hHeld := hHeld2
    clear hHeld2
    try simp only [zA, zB, zC]
    refine tp (v := ?_) 7 48 ⟨fun _ => hHeld.1, fun _ => hHeld.2⟩ ?_ ?_; rotate_left; (intro w; go_simp; try with_reducible rfl); try simp only [Act.put, zA, zB, zC]
    refine wpT_one 8 (by kernel_rfl) (stepT_early rfl rfl (fun K hK => ?_))
    go_simp
    have HA3 := Lib.hid HA2.out.stepB
    refine hK.out _ _ ?_ (fun hHeld2 => ?_)
    ·exact ⟨(HA3.out.below.cell (p := ⟨w.heap.size, 0, none⟩) (by simp; omega)).trans x0, trivial⟩
    clear hK K hHeld
    have hHeld := hHeld2
    clear hHeld2
    try simp only [zA, zB, zC]
    generalize W2.alloc (.cells #[.int .i64 0, .slice none 0 0, .slice none 0 0] 68) = W3 at HA3 hHeld ⊢
    refine wpT_tail [_] 9 [] rfl (by kernel_rfl) ?_
    have HBK := Lib.hid (HA3.out.fb _ rfl)
    have q0 := HBK.out.2.cell 0
    have q1 := HBK.out.2.cell 1
    have q2 := HBK.out.2.cell 2
    have fq0 := HBK.out.2.frozen 0
    have fq1 := HBK.out.2.frozen 1
    have fq2 := HBK.out.2.frozen 2
    have hblt := HBK.out.2.lt
    have HF := Lib.hid (HA3.out.fs 0 v.st)
    clear hHeld
    go_wp2_with fail
    try unfold Adj.only
    go_wp2_with fail
    go_meet
    exact ⟨_, _, _, _, rfl, HF.out⟩
   ·go_simp
    have HA2 := Lib.hid HA1.out.stepB
    refine hK.out _ _ ?_ (fun hHeld2 => ?_)
    ·exact ⟨(HA2.out.below.cell (p := ⟨w.heap.size, 0, none⟩) (by simp; omega)).trans x0, trivial⟩
    clear hK K hHeld
    have hHeld := hHeld2
    clear hHeld2
    try simp only [zA, zB, zC]
    generalize W1.alloc (.cells #[.int .i64 0, .slice none 0 0, .slice none 0 0] 68) = W2 at HA2 hHeld ⊢
    refine wpT_one 3 (by kernel_rfl) (stepT_early rfl rfl (fun K hK => ?_))
    go_simp
    refine (HCL.out _ HA2.out.below).mono ?_
    rintro e W3 ⟨va, rfl, ho, hb⟩
    obtain ⟨G1, m1, rfl, hm1⟩ := Vw.own_any ho
    have HA3 := Lib.hid (HA2.out.stepC ho hb)
    clear ho hb
    try go_simp
    refine hK.out _ _ ?_ (fun hHeld2 => ?_)
    ·exact ⟨(HA3.out.below.cell (p := ⟨w.heap.size, 0, none⟩) (by simp; omega)).trans x0, trivial⟩
    clear hK K hHeld
    have hHeld := hHeld2
    clear hHeld2
    try simp only [zA, zB, zC]
    refine tp (v := ?_) 7 48 ⟨fun _ => hHeld.1, fun _ => hHeld.2⟩ ?_ ?_; rotate_left; (intro w; go_simp; try with_reducible rfl); try simp only [Act.put, zA, zB, zC]
    refine wpT_tail [_] 9 [] rfl (by kernel_rfl) ?_
    have HBK := Lib.hid (HA3.out.fb _ rfl)
    have q0 := HBK.out.2.cell 0
    have q1 := HBK.out.2.cell 1
    have q2 := HBK.out.2.cell 2
    have fq0 := HBK.out.2.frozen 0
    have fq1 := HBK.out.2.frozen 1
    have fq2 := HBK.out.2.frozen 2
    have hblt := HBK.out.2.lt
    have HF := Lib.hid (HA3.out.fs 0 v.st)
    clear hHeld
    go_wp2_with fail
    try unfold Adj.only
    go_wp2_with fail
    go_meet
    exact ⟨_, _, _, _, rfl, HF.out⟩
  ·go_simp
   have HA1 := Lib.hid HA0.out.stepB
   refine hK.out _ _ ?_ (fun hHeld2 => ?_)
   ·exact ⟨(HA1.out.below.cell (p := ⟨w.heap.size, 0, none⟩) (by simp; omega)).trans x0, trivial⟩
   clear hK K hHeld
   have hHeld := hHeld2
   clear hHeld2
   try simp only [zA, zB, zC]
   generalize W0.alloc (.cells #[.int .i64 0, .slice none 0 0, .slice none 0 0] 68) = W1 at HA1 hHeld ⊢
   refine wpT_two 3 6 (by kernel_rfl) (stepT_early rfl rfl (fun K hK => ?_)) (stepT_early rfl rfl (fun K hK => ?_))
   ·go_simp
    refine (HCL.out _ HA1.out.below).mono ?_
    rintro e W2 ⟨va, rfl, ho, hb⟩
    obtain ⟨G1, m1, rfl, hm1⟩ := Vw.own_any ho
    have HA2 := Lib.hid (HA1.out.stepC ho hb)
    clear ho hb
    try go_simp
    refine hK.out _ _ ?_ (fun hHeld2 => ?_)
    ·exact ⟨(HA2.out.below.cell (p := ⟨w.heap.size, 0, none⟩) (by simp; omega)).trans x0, trivial⟩
    clear hK K hHeld
    have hHeld := hHeld2
    clear hHeld2
    try simp only [zA, zB, zC]
    refine wpT_one 6 (by kernel_rfl) (stepT_early rfl rfl (fun K hK => ?_))
    go_simp
    have HA3 := Lib.hid (HA2.out.make dims.length hd16)
    refine hK.out _ _ ?_ (fun hHeld2 => ?_)
    ·exact ⟨(HA3.out.below.cell (p := ⟨w.heap.size, 0, none⟩) (by simp; omega)).trans x0, trivial⟩
    clear hK K hHeld
    have hHeld := hHeld2
    clear hHeld2
    try simp only [zA, zB, zC]
    generalize W2.alloc (.cells (ints (List.replicate dims.length 0)).toArray 3) = W3 at HA3 hHeld ⊢
    refine tp (v := ?_) 7 48 ⟨fun _ => hHeld.1, fun _ => hHeld.2⟩ ?_ ?_; rotate_left; (intro w; go_simp; try with_reducible rfl); try simp only [Act.put, zA, zB, zC]
    refine wpT_tail [_] 9 [] rfl (by kernel_rfl) ?_
    have HBK := Lib.hid (HA3.out.fb _ rfl)
    have q0 := HBK.out.2.cell 0
    have q1 := HBK.out.2.cell 1
    have q2 := HBK.out.2.cell 2
    have fq0 := HBK.out.2.frozen 0
    have fq1 := HBK.out.2.frozen 1
    have fq2 := HBK.out.2.frozen 2
    have hblt := HBK.out.2.lt
    have HF := Lib.hid (HA3.out.fs 0 v.st)
    clear hHeld
    go_wp2_with fail
    try unfold Adj.only
    go_wp2_with fail
    go_meet
    exact ⟨_, _, _, _, rfl, HF.out⟩
   ·go_simp
    have HA2 := Lib.hid (HA1.out.make dims.length hd16)
    refine hK.out _ _ ?_ (fun hHeld2 => ?_)
    ·exact ⟨(HA2.out.below.cell (p := ⟨w.heap.size, 0, none⟩) (by simp; omega)).trans x0, trivial⟩
    clear hK K hHeld
    have hHeld := hHeld2
    clear hHeld2
    try simp only [zA, zB, zC]
    generalize W1.alloc (.cells (ints (List.replicate dims.length 0)).toArray 3) = W2 at HA2 hHeld ⊢
    refine wpT_one 3 (by kernel_rfl) (stepT_early rfl rfl (fun K hK => ?_))
    go_simp
    refine (HCL.out _ HA2.out.below).mono ?_
    rintro e W3 ⟨va, rfl, ho, hb⟩
    obtain ⟨G1, m1, rfl, hm1⟩ := Vw.own_any ho
    have HA3 := Lib.hid (HA2.out.stepC ho hb)
    clear ho hb
    try go_simp
    refine hK.out _ _ ?_ (fun hHeld2 => ?_)
    ·exact ⟨(HA3.out.below.cell (p := ⟨w.heap.size, 0, none⟩) (by simp; omega)).trans x0, trivial⟩
    clear hK K hHeld
    have hHeld := hHeld2
    clear hHeld2
    try simp only [zA, zB, zC]
    refine tp (v := ?_) 7 48 ⟨fun _ => hHeld.1, fun _ => hHeld.2⟩ ?_ ?_; rotate_left; (intro w; go_simp; try with_reducible rfl); try simp only [Act.put, zA, zB, zC]
    refine wpT_tail [_] 9 [] rfl (by kernel_rfl) ?_
    have HBK := Lib.hid (HA3.out.fb _ rfl)
    have q0 := HBK.out.2.cell 0
    have q1 := HBK.out.2.cell 1
    have q2 := HBK.out.2.cell 2
    have fq0 := HBK.out.2.frozen 0
    have fq1 := HBK.out.2.frozen 1
    have fq2 := HBK.out.2.frozen 2
    have hblt := HBK.out.2.lt
    have HF := Lib.hid (HA3.out.fs 0 v.st)
    clear hHeld
    go_wp2_with fail
    try unfold Adj.only
    go_wp2_with fail
    go_meet
    exact ⟨_, _, _, _, rfl, HF.out⟩
 case rest =>
  obtain ⟨bw, A1, k1, v2, rfl, hfs⟩ := hcut
  have HF0 := Lib.hid hfs
  clear hfs hmk x0
  by_cases hn0 : (AdjV.size dims).1 = 0
  ·have HT := Lib.hid (AdjV.reform_empty H0.out HS0.out HSS.out hn0)
   have hq2 : ((AdjV.size dims).1 == 0) = true := by simpa using hn0
   clear hn0
   obtain ⟨A2, n2, hv2, ia2, la2, ma2, ga2⟩ := Vw.own_view HF0.out.own2
   subst hv2
   have hrb := HR.out.below HF0.out.below (by omega)
   have hre := HRE.out.below HF0.out.below (by omega)
   have HI2 := Lib.hid (And.intro ia2 (And.intro la2 (And.intro ma2 ga2)))
   have hlow : w1.heap.size ≤ bw := HF0.out.low
   have hbwl : bw < wc.heap.size := HF0.out.blk.lt
   have e0 : wc.cell? ⟨bw, 0, none⟩ = some (.int .i64 v.st) := HF0.out.blk.cell 0
   have e1 : wc.cell? ⟨bw, 1, none⟩ = some (.slice A1 dims.length k1) := HF0.out.blk.cell 1
   have e2 : wc.cell? ⟨bw, 2, none⟩ = some (.slice A2 (List.replicate dims.length (0 : Int)).length n2) := HF0.out.blk.cell 2
   have r0 : wc.cell? ⟨w.heap.size + 1, 0, none⟩ = some (.int .i64 0) := hrb.cell 0
   have r1 : wc.cell? ⟨w.heap.size + 1, 1, none⟩ = some (.slice none 0 0) := hrb.cell 1
   have r2 : wc.cell? ⟨w.heap.size + 1, 2, none⟩ = some (.slice none 0 0) := hrb.cell 2
   have ee0 : wc.cell? ⟨w.heap.size + 1 + 1, 0, none⟩ = some (.int .i64 0) := hre.cell 0
   have f0 := hrb.frozen 0
   have f1 := hrb.frozen 1
   have f2 := hrb.frozen 2
   have ef0 := hre.frozen 0
   clear hrb hre ia2 la2 ma2 ga2
   go_wp2_with fail
   refine ⟨.tuple #[.agg #[.int .i64 v.st, .slice A1 dims.length k1, .slice A2 (List.replicate dims.length (0 : Int)).length n2], .int .i64 0], by simp [results, Try.f60, go_sem, r0, r1, r2, ee0], ?_, Vw.four (HB1.out.trans (HF0.out.below.mono HB1.out.size)) _ _ _ _⟩
   rw [HT.out]
   refine Vw.out_mk ⟨A1, k1, A2, n2, rfl, ?_, ?_, HF0.out.l1, HF0.out.l2, HI2.out.2.1, HI2.out.2.2.1⟩ ?_ ?_
   ·exact ((HF0.out.i1.set3 (fun b off e hp => by have := (HF0.out.g1 b off e hp).1; omega) _ _ _).set (fun b off e hp => by have := (HF0.out.g1 b off e hp).1; omega) _ _).up (by simp)
   ·exact ((HI2.out.1.set3 (fun b off e hp => by have := HI2.out.2.2.2 b off e hp; omega) _ _ _).set (fun b off e hp => by have := HI2.out.2.2.2 b off e hp; omega) _ _).up (by simp)
   ·exact fun b off e hp => by have := (HF0.out.g1 b off e hp).1; omega
   ·exact fun b off e hp => by have := HI2.out.2.2.2 b off e hp; omega
  ·have hq2 : ((AdjV.size dims).1 == 0) = false := by simpa using hn0
   obtain ⟨f1', f2', f3', f4', f5'⟩ := AdjV.reform_fine H0.out HS0.out HSS.out hn0
   have HPE := Lib.hid f1'
   have HPP := Lib.hid f2'
   have HN0 := Lib.hid hn0
   have HPV := Lib.hid f4'
   have HPD := Lib.hid f5'
   have HBC := Lib.hid (HB1.out.trans (HF0.out.below.mono HB1.out.size))
   have hxc := HX.out.below HF0.out.below (by omega)
   have x0 : wc.cell? ⟨w.heap.size, 0, none⟩ = some (.int .i64 v.st) := hxc.cell 0
   have x1 : wc.cell? ⟨w.heap.size, 1, none⟩ = some (.slice A v.dims.length c) := hxc.cell 1
   have x2 : wc.cell? ⟨w.heap.size, 2, none⟩ = some (.slice A' v.steps.length c') := hxc.cell 2
   have HBL := Lib.hid (blocks_any (.agg #[.int .i64 v.st, .slice A v.dims.length c, .slice A' v.steps.length c']) v B wc (Nat.le_trans hB HBC.out.size) ⟨A, c, A', c', rfl, HD.out.below (HBC.out.mono hB), HS.out.below (HBC.out.mono hB), c1, c2, c3, c4⟩ H0.out (by omega))
   clear hxc f1' f2' f3' f4' f5' hn0
   go_wp2_with fail
   refine HBL.out.mono ?_
   rintro e w3 ⟨o, rfl, ho3, hb3⟩
   obtain ⟨AB, cb, rfl⟩ := Vw.own_slice ho3
   have HO3 := Lib.hid ho3
   have HB3 := Lib.hid hb3
   clear ho3 hb3
   go_wp2_with fail
   refine (callsIn_wide.1 (back_in Fence.wide 5 trivial rfl _ _ _ _)).mono ?_
   rintro e w4 ⟨rfl, rfl⟩
   go_wp2_with fail
   have hszc : wc.heap.size ≤ w3.heap.size := HB3.out.size
   obtain ⟨W0, hW0⟩ : ∃ W0, (w3.alloc (.cells #[.slice AB (AdjV.blocks v).length cb] 86)).alloc (.cells #[.slice DA dims.length cdi] 23) = W0 := ⟨_, rfl⟩
   have hsz : W0.heap.size = w3.heap.size + 1 + 1 := by rw [← hW0]; simp
   have hb30 : Below w3.heap.size w3 W0 := by rw [← hW0]; exact ((Below.refl _ _).alloc (Nat.le_refl _) _).alloc (by simp) _
   have hbx : Blk W0 (w3.heap.size + 1) 23 #[.slice DA dims.length cdi] := by rw [← hW0]; exact (by simpa using Blk.new (w3.alloc (.cells #[.slice AB (AdjV.blocks v).length cb] 86)) 23 #[.slice DA dims.length cdi])
   have hbl : Blk W0 w3.heap.size 86 #[.slice AB (AdjV.blocks v).length cb] := by rw [← hW0]; exact (Blk.new w3 _ _).alloc _
   have hbc : Below w.heap.size w W0 := (HBC.out.trans (HB3.out.mono HBC.out.size)).trans (hb30.mono (Nat.le_trans HBC.out.size hszc))
   have hlow := HF0.out.low
   have hbwc := HF0.out.blk.lt
   have HLY := Lib.hid (show Vw.Lays W0.heap.size wc.heap.size w1.heap.size bw w3.heap.size A1 v2 AB dims from
    ⟨hbwc, fun b e => (HF0.out.own2.lt b e).2, fun b off e hp => by
     obtain ⟨b2, o2, e2, hlt2, _⟩ := HF0.out.i1 hp
     rw [e] at e2
     simp only [Option.some.injEq, Addr.mk.injEq] at e2
     omega, fun b off e => HO3.out.lt b (by rw [e]; rfl), ⟨hszc, by omega⟩, by omega⟩)
   have HI0 := Lib.hid (show Vw.RfI W0.heap.size 0 wc.heap.size w1.heap.size bw w3.heap.size w1 v A1 k1 v2 AB cb dims [] W0 from
    ⟨Nat.zero_le _, rfl, [], AdjV.blocks v, rfl, Nat.le_refl _, (HF0.out.i1.below (HB3.out.trans (hb30.mono hszc))).up (by omega), hbl, (HO3.out.kept (row := none) ⟨hb30.os, hb30.tape, hb30.output, hb30.size, fun k hk _ => hb30.block k hk⟩ (by simp [Value.ownBlock]; cases AB <;> simp)), by
     simpa using (HF0.out.later HB3.out).later hb30⟩)
   rw [hW0]
   obtain ⟨b, hb, hstop⟩ := back_ord Fence.wide 5 trivial rfl (by omega) (w3.heap.size + 1) DA cdi B dims (by omega) W0 (by omega) (Nat.le_trans hB hbc.size) (hbx.cell 0) (HDI.out.below (hbc.mono hB))
   have HBC0 := Lib.hid hbc
   clear hW0 hbx hbl hb30 hbc x0 x1 x2
   refine (wpIn_wide (n := 6)).1 ?_
   refine wpIn_rangeFunc_ord2 13 14 (fun x : Vw.Spot dims => .int .i64 (x.1 : Int)) (fun x => .int .i64 (dims[x.1]'x.2)) rfl (by omega) (gf := 79) (lb := #[.pointer (some ⟨w3.heap.size + 1, 0, none⟩)]) rfl trivial (enters_of Try.func79 (by kernel_rfl) rfl) hstop
    (fun h1 h2 => h1.trans h2) (fun W y o o' hl hg _ _ => Vw.Keeps.book (N := W0.heap.size) (by omega) (by rcases hb with rfl | hb <;> omega) W y o o' hl hg) (Below.refl _ _)
    (Vw.RfI W0.heap.size 0 wc.heap.size w1.heap.size bw w3.heap.size w1 v A1 k1 v2 AB cb dims) (Vw.RfX W0.heap.size w v dims) (Vw.RfI.own HLY.out) (fun c => Vw.RfX.own (by omega)) HI0.out ?assign ?body ?done ?stop
   case assign =>
    intro y x W K hK
    simp only [List.setIfInBounds_toArray, List.set_cons_zero, List.set_cons_succ] at hK ⊢
    gi_wp2
    exact hK
   case body =>
    rintro y pre ⟨q, hq⟩ W hI hlt hR
    dsimp only at hR ⊢
    simp only [List.setIfInBounds_toArray, List.set_cons_zero, List.set_cons_succ]
    obtain ⟨ss, st, hrun, hM⟩ := hI.run
    have hdp := HPD.out _ (List.getElem_mem hq)
    have hTK := Vw.rev_at hq hR hlt
    have hORD := Vw.order_next (hq := hq) hI.order hR
    have HI := Lib.hid hI
    have HM := Lib.hid hM
    have HRUN := Lib.hid hrun
    have HTK := Lib.hid hTK
    have HORD := Lib.hid hORD
    have hRq := Lib.hid hR
    clear hI hM hrun hTK hORD hR
    have hRF := AdjV.round_fine H0.out (by have := HPE.out; have := HPP.out; omega) HPE.out HPD.out hlt hdp HRUN.out HTK.out
    have HRF := Lib.hid hRF
    clear hRF
    generalize dims[q] = d at hdp HTK HRF ⊢
    by_cases hd : d = 1
    ·have HE := Lib.hid (AdjV.round_skip HRUN.out hd)
     have hdq : (d == 1) = true := by simpa using hd
     clear hd
     gi_wp2_with fail
     exact ⟨KeepsFrom.refl _ _, Vw.Keeps.refl _ _ _, Vw.RfI.next hlt HORD.out (by rw [HTK.out]; exact HE.out) (by rw [← Vw.steps_zero hlt]; exact HM.out)⟩
    ·have hdq : (d == 1) = false := by simpa using hd
     obtain ⟨n, s, r, rfl⟩ := HRF.out.2.2 hd
     have hsm := HRF.out.1 (n, s) (by simp)
     dsimp only at hsm
     obtain ⟨m, hm⟩ : ∃ m, r.length = m := ⟨_, rfl⟩
     obtain ⟨gB, co, hu, hgl1, hgl2⟩ := HM.out.row.form (by simp)
     simp only [Value.slice.injEq, true_and] at hu
     obtain ⟨rfl, rfl⟩ := hu
     have hrow := HM.out.row
     rw [List.reverse_cons, List.length_cons, hm] at hrow
     have hlc := Vw.bcells_last r n s
     rw [hm] at hlc
     have hg0 := (hrow.cellAt (m * 2) (by omega)).trans hlc.1
     have hg1 := (hrow.cellAt (m * 2 + 1) (by omega)).trans hlc.2
     have hf0 := hrow.frozenAt (m * 2)
     have hf1 := hrow.frozenAt (m * 2 + 1)
     have hlv : W.cell? ⟨w3.heap.size, 0, none⟩ = some (.slice (some ⟨gB, 0, none⟩) (m + 1) cb) := by
      have h := HM.out.lvar.cell 0
      rw [List.length_cons, hm] at h
      exact h
     have hlf := HM.out.lvar.frozen 0
     have HMM := Lib.hid hm
     have HDN := Lib.hid hd
     have m1 : (0 : Int) ≤ (m : Int) := by omega
     have m2 : (m : Int) < (m : Int) + 1 := by omega
     have m3 : (m : Int) + 1 ≤ 9223372036854775807 := by
      have h := HM.out.row.2
      rcases h with ⟨h, _⟩ | ⟨g', cap', cur, h, _, _, hnc, hcm, _⟩
      ·cases h
      ·simp only [List.length_cons, hm] at hnc
       unfold maxLen at hcm
       omega
     have hd0 : d ≠ 0 := by omega
     have hd1 : d ≠ 0 := hd0
     have hr1 : 0 ≤ n % d := Int.emod_nonneg _ hd0
     have hr2 : n % d < d := Int.emod_lt_of_pos _ (by omega)
     have hr3 : n % d ≤ n := by
      have e1 := Int.emod_add_mul_ediv n d
      have e2 := Int.mul_nonneg (show 0 ≤ d by omega) (Int.ediv_nonneg (show 0 ≤ n by omega) (show 0 ≤ d by omega))
      omega
     have hrm : n.tmod d = n % d := Int.tmod_eq_emod_of_nonneg (by omega)
     have hrw : IntKind.i64.wrap (n % d) = n % d := IntWalk.i64_in _ (by omega)
     clear hrow hlc hm hd
     by_cases hmd : n % d = 0
     rotate_left
     ·have HE := Lib.hid (AdjV.round_cut HRUN.out HDN.out hmd)
      have hmq : ((n % d) != 0) = true := by simpa using hmd
      have hrr := HR.out.below HM.out.fs.below (by omega)
      have hre := HRE.out.below HM.out.fs.below (by omega)
      have HRR := Lib.hid hrr
      have HRE2 := Lib.hid hre
      have HBW := Lib.hid (HB1.out.trans (HM.out.fs.below.mono HB1.out.size))
      have k0 : W.cell? ⟨w.heap.size + 1, 0, none⟩ = some (.int .i64 0) := hrr.cell 0
      have k1' : W.cell? ⟨w.heap.size + 1, 1, none⟩ = some (.slice none 0 0) := hrr.cell 1
      have k2 : W.cell? ⟨w.heap.size + 1, 2, none⟩ = some (.slice none 0 0) := hrr.cell 2
      have k3 : W.cell? ⟨w.heap.size + 1 + 1, 0, none⟩ = some (.int .i64 0) := hre.cell 0
      have f0 := hrr.frozen 0
      have f1 := hrr.frozen 1
      have f2 := hrr.frozen 2
      have f3 := hre.frozen 0
      clear hrr hre hmd
      gi_wp2_with fail
      exact Vw.stopped (AdjV.cut_go (by rw [HTK.out]; exact HE.out)) HM.out.size HRR.out HRE2.out HBW.out
     ·have hmq : ((n % d) != 0) = false := by simpa using hmd
      have HMD := Lib.hid hmd
      have hsd := AdjV.step_small HRF.out.1 hdp hmd
      have hq1 : 0 ≤ n / d := Int.ediv_nonneg (by omega) (by omega)
      have hq2 : n / d ≤ n := Int.ediv_le_self _ (by omega)
      have hqm : n.tdiv d = n / d := Int.tdiv_eq_ediv_of_nonneg (by omega)
      have hqw : IntKind.i64.wrap (n / d) = n / d := IntWalk.i64_in _ (by omega)
      have hsw : IntKind.i64.wrap (s * d) = s * d := IntWalk.i64_in _ (by omega)
      obtain ⟨g2, c2', hv2, _, _⟩ := HM.out.fs.own2.form (by simp; omega)
      have hln : (List.replicate (dims.length - pre.length) (0 : Int) ++ ss.reverse).length = dims.length := by simp [HRF.out.2.1]; omega
      rw [hln] at hv2
      subst hv2
      have ho2 := HM.out.fs.own2
      rw [hln] at ho2
      have fq := ho2.frozenAt q
      have dq := ho2.cellAt q (by omega)
      rw [ints_at _ q (by omega)] at dq
      generalize (List.replicate (dims.length - pre.length) (0 : Int) ++ ss.reverse)[q]'(by omega) = zq at dq
      have b2 : W.cell? ⟨bw, 2, none⟩ = some (.slice (some ⟨g2, 0, none⟩) dims.length c2') := HM.out.fs.blk.cell 2
      have HLN := Lib.hid hln
      have i1 : (0 : Int) ≤ (q : Int) := by omega
      have i2 : (q : Int) < (dims.length : Int) := by omega
      clear hmd hln ho2
      gi_wp2_with fail
      refine wpIn_region_still_tail2 7 (by kernel_rfl) (by kernel_rfl) (by kernel_rfl) ?_
      simp only [List.take_succ_cons, List.take_zero, List.drop_succ_cons, List.drop_zero]
      repeat still_step
      try refine wpStill_nil ?_
      change wpList _ _ _ _ _ W.drew
      go_wp2_with fail
      rename_i Kq hKq
      refine hKq _ _ ?_
      clear hKq
      have HM1 := Lib.hid (HM.out.store HLY.out HLN.out q s).drew
      rw [Vw.steps_put HRF.out.2.1 hlt hRq.out s] at HM1
      have hg2lo := (HM.out.fs.own2.lt g2 rfl).1
      have hg2hi := HLY.out.v2_ g2 rfl
      have hgB := HLY.out.ab_ _ _ rfl
      have hBw1 : B ≤ w1.heap.size := Nat.le_trans hB HB1.out.size
      have hbW : w3.heap.size < W.heap.size := HM.out.lvar.lt
      have hg2b : g2 ≠ gB := by omega
      have HK1 := Lib.hid ((Vw.keeps_set (Bs := w3.heap.size + 1) (b := b) (NL := 0) (W := W) (g := g2) (j := q) (x := .int .i64 s) (by omega) (by rcases hb with rfl | hb <;> omega)).drew)
      have HF1 := Lib.hid ((Vw.from_set (NL := W0.heap.size) W ⟨g2, q, none⟩ (.int .i64 s)).trans (Vw.from_drew _))
      have G0 : (W.setCell ⟨g2, q, none⟩ (.int .i64 s)).drew.cell? ⟨gB, m * 2, none⟩ = some (.int .i64 n) := (World.cell?_of_block (Below.heap_setCell W ⟨g2, q, none⟩ _ gB (by simp; omega))).trans hg0
      have G1 : (W.setCell ⟨g2, q, none⟩ (.int .i64 s)).drew.cell? ⟨gB, m * 2 + 1, none⟩ = some (.int .i64 s) := (World.cell?_of_block (Below.heap_setCell W ⟨g2, q, none⟩ _ gB (by simp; omega))).trans hg1
      have G2 : (W.setCell ⟨g2, q, none⟩ (.int .i64 s)).drew.frozen? ⟨gB, m * 2, none⟩ = false := (World.frozen?_of_block (Below.heap_setCell W ⟨g2, q, none⟩ _ gB (by simp; omega))).trans hf0
      have G3 : (W.setCell ⟨g2, q, none⟩ (.int .i64 s)).drew.frozen? ⟨gB, m * 2 + 1, none⟩ = false := (World.frozen?_of_block (Below.heap_setCell W ⟨g2, q, none⟩ _ gB (by simp; omega))).trans hf1
      have G4 : (W.setCell ⟨g2, q, none⟩ (.int .i64 s)).drew.cell? ⟨w3.heap.size, 0, none⟩ = some (.slice (some ⟨gB, 0, none⟩) (m + 1) cb) := (World.cell?_of_block (Below.heap_setCell W ⟨g2, q, none⟩ _ w3.heap.size (by simp; omega))).trans hlv
      have G5 : (W.setCell ⟨g2, q, none⟩ (.int .i64 s)).drew.frozen? ⟨w3.heap.size, 0, none⟩ = false := (World.frozen?_of_block (Below.heap_setCell W ⟨g2, q, none⟩ _ w3.heap.size (by simp; omega))).trans hlf
      have G6 : w3.heap.size < (W.setCell ⟨g2, q, none⟩ (.int .i64 s)).drew.heap.size := by simpa [World.drew] using hbW
      generalize (W.setCell ⟨g2, q, none⟩ (.int .i64 s)).drew = W1 at HM1 HK1 HF1 G0 G1 G2 G3 G4 G5 G6 ⊢
      clear hg0 hg1 hf0 hf1 hlv hlf dq fq b2
      gi_wp2_with fail
      refine wpIn_region_still_tail2 14 (by kernel_rfl) (by kernel_rfl) (by kernel_rfl) ?_
      simp only [List.take_succ_cons, List.take_zero, List.drop_succ_cons, List.drop_zero]
      repeat still_step
      try refine wpStill_nil ?_
      change wpList _ _ _ _ _ W1.drew
      go_wp2_with fail
      rename_i Kq hKq
      refine hKq _ _ ?_
      clear hKq
      have HM2 := Lib.hid (HM1.out.top HLY.out HMM.out (n' := n / d) (s' := s * d)).drew
      have HK2 := Lib.hid (HK1.out.trans ((Vw.keeps_set (Bs := w3.heap.size + 1) (b := b) (NL := 0) (W := W1) (g := gB) (j := m * 2) (x := .int .i64 (n / d)) (by omega) (by rcases hb with rfl | hb <;> omega)).trans
       (Vw.keeps_set (Bs := w3.heap.size + 1) (b := b) (NL := 0) (g := gB) (j := m * 2 + 1) (x := .int .i64 (s * d)) (by omega) (by rcases hb with rfl | hb <;> omega)))).drew
      have HF2 := Lib.hid (HF1.out.trans (((Vw.from_set (NL := W0.heap.size) W1 ⟨gB, m * 2, none⟩ (.int .i64 (n / d))).trans (Vw.from_set (NL := W0.heap.size) _ ⟨gB, m * 2 + 1, none⟩ (.int .i64 (s * d)))).trans (Vw.from_drew _)))
      clear G0 G1 G2 G3 G4 G5 G6 hrm hrw hqm hqw hsw
      generalize ((W1.setCell ⟨gB, m * 2, none⟩ (.int .i64 (n / d))).setCell ⟨gB, m * 2 + 1, none⟩ (.int .i64 (s * d))).drew = W2 at HM2 HK2 HF2 ⊢
      have hrow := HM2.out.row
      rw [List.reverse_cons, List.length_cons, HMM.out] at hrow
      have hlc := Vw.bcells_last r (n / d) (s * d)
      rw [HMM.out] at hlc
      have g0 := (hrow.cellAt (m * 2) (by omega)).trans hlc.1
      have g4 : W2.cell? ⟨w3.heap.size, 0, none⟩ = some (.slice (some ⟨gB, 0, none⟩) (m + 1) cb) := by
       have h := HM2.out.lvar.cell 0
       rw [List.length_cons, HMM.out] at h
       exact h
      have g5 := HM2.out.lvar.frozen 0
      have g6 : w3.heap.size < W2.heap.size := HM2.out.lvar.lt
      have hcb : m + 1 ≤ cb := by
       rcases hrow.2 with ⟨h, _⟩ | ⟨g', cap', cur, h, _, _, hnc, _⟩
       ·cases h
       ·simp only [Value.slice.injEq] at h
        obtain ⟨_, _, rfl⟩ := h
        exact hnc
      clear hrow hlc
      by_cases h1 : n / d = 1
      ·have HE := Lib.hid (AdjV.round_last HRUN.out HDN.out HMD.out h1)
       have h1q : ((n / d) == 1) = true := by simpa using h1
       clear h1
       gi_wp2_with fail
       have HM3 := HM2.out.pop HLY.out
       rw [HMM.out] at HM3
       exact ⟨HF2.out.trans (Vw.from_set _ _ _), HK2.out.trans (Vw.keeps_set (NL := 0) (by omega) (by rcases hb with rfl | hb <;> omega)), Vw.RfI.next hlt HORD.out (by rw [HTK.out]; exact HE.out) HM3⟩
      ·have HE := Lib.hid (AdjV.round_more HRUN.out HDN.out HMD.out h1)
       have h1q : ((n / d) == 1) = false := by simpa using h1
       clear h1
       gi_wp2_with fail
       exact ⟨HF2.out, HK2.out, Vw.RfI.next hlt HORD.out (by rw [HTK.out]; exact HE.out) HM2.out⟩
   case done =>
    rintro D ys W hD hys hI hK
    have hyl : ys.length = dims.length := by have := congrArg List.length hys; rwa [List.length_map, Vw.upto_length] at this
    obtain ⟨ss, st, hrun, hM⟩ := hI.run
    rw [hyl, Nat.sub_self, List.replicate_zero, List.nil_append] at hM
    rw [hyl, List.take_of_length_le (by rw [List.length_reverse]; exact Nat.le_refl _)] at hrun
    have hgo : AdjV.go dims.reverse (AdjV.blocks v) = some ss := by rw [← AdjV.grun_go, hrun]; rfl
    have hsl : ss.reverse.length = dims.length := by
     rw [← (AdjV.reform_yes H0.out HS0.out HSS.out HN0.out hgo).1, AdjV.offs_length]
    have HFL := Lib.hid (AdjV.reform_some H0.out HS0.out HSS.out HN0.out hgo)
    have htw := AdjV.reform_made (v := v) (ss := ss.reverse) HS0.out hsl
    have HM := Lib.hid hM
    obtain ⟨A2, n2, hv2, ia2, la2, ma2, ga2⟩ := Vw.own_view hM.fs.own2
    subst hv2
    have HI2 := Lib.hid (And.intro ia2 (And.intro la2 (And.intro ma2 ga2)))
    have HGH := Lib.hid (fun b off (e : A2 = some ⟨b, off, none⟩) => HLY.out.v2_ b (by rw [e]; rfl))
    have HDF := Lib.hid hK
    have hDW : D < W.heap.size := (Array.getElem?_eq_some_iff.1 hK).1
    have e0 : W.cell? ⟨bw, 0, none⟩ = some (.int .i64 v.st) := hM.fs.blk.cell 0
    have e1 : W.cell? ⟨bw, 1, none⟩ = some (.slice A1 dims.length k1) := hM.fs.blk.cell 1
    have e2 : W.cell? ⟨bw, 2, none⟩ = some (.slice A2 ss.reverse.length n2) := hM.fs.blk.cell 2
    have HMD := Lib.hid (done_any (.agg #[.int .i64 v.st, .slice A1 dims.length k1, .slice A2 ss.reverse.length n2]) ⟨v.st, dims, ss.reverse⟩ W.heap.size W (Nat.le_refl _) ⟨A1, k1, A2, n2, rfl, hM.fs.i1, ia2, hM.fs.l1, hM.fs.l2, la2, ma2⟩)
    have hrb := HR.out.below hM.fs.below (by omega)
    have hre := HRE.out.below hM.fs.below (by omega)
    have HRR := Lib.hid hrb
    have HRE2 := Lib.hid hre
    have HBF := Lib.hid (HB1.out.trans (hM.fs.below.mono HB1.out.size))
    clear hM ia2 la2 ma2 ga2 hK hrb hre hgo hrun hsl hI hys
    generalize ss.reverse = zs at *
    go_wp2_with fail
    refine HMD.out.mono ?_
    rintro e w8 ⟨rfl, hb8⟩
    have hr8 := HRR.out.below hb8 HRR.out.lt
    have he8 := HRE2.out.below hb8 HRE2.out.lt
    have r0 : w8.cell? ⟨w.heap.size + 1, 0, none⟩ = some (.int .i64 0) := hr8.cell 0
    have r1 : w8.cell? ⟨w.heap.size + 1, 1, none⟩ = some (.slice none 0 0) := hr8.cell 1
    have r2 : w8.cell? ⟨w.heap.size + 1, 2, none⟩ = some (.slice none 0 0) := hr8.cell 2
    have ee0 : w8.cell? ⟨w.heap.size + 1 + 1, 0, none⟩ = some (.int .i64 0) := he8.cell 0
    have f0 := hr8.frozen 0
    have f1 := hr8.frozen 1
    have f2 := hr8.frozen 2
    have ef0 := he8.frozen 0
    have HR8 := Lib.hid hr8
    have HE8 := Lib.hid he8
    have HB8 := Lib.hid hb8
    have HD8 := Lib.hid ((hb8.block D hDW).trans HDF.out)
    have hlt8 : W.heap.size ≤ w8.heap.size := hb8.size
    clear hr8 he8 hb8
    by_cases h4 : AdjV.wrong ⟨v.st, dims, zs⟩ = 4
    ·have HT := Lib.hid (HFL.out.trans (if_pos h4))
     rw [show Vw.madeR (.agg #[.int .i64 v.st, .slice A1 dims.length k1, .slice A2 zs.length n2]) ⟨v.st, dims, zs⟩ = .tuple #[.agg #[.int .i64 0, .slice none 0 0, .slice none 0 0], .int .i64 5] from if_pos h4]
     clear h4
     go_wp2_with fail
     refine ⟨by simp, .inl ⟨_, _, rfl, run_takeDeferred (Vw.deferred_still HD8.out (by omega)), ?_⟩⟩
     generalize hWF : World.putObj _ D (.deferred none) = WF
     have HLA : Vw.Last w w8 D _ _ _ _ WF := ⟨hWF⟩
     obtain ⟨c1, c2⟩ := HLA.cells HR8.out HE8.out (by omega)
     have t0 : WF.cell? ⟨w.heap.size + 1, 0, none⟩ = some (.int .i64 0) := c1.cell 0
     have t1 : WF.cell? ⟨w.heap.size + 1, 1, none⟩ = some (.slice none 0 0) := c1.cell 1
     have t2 : WF.cell? ⟨w.heap.size + 1, 2, none⟩ = some (.slice none 0 0) := c1.cell 2
     have t3 : WF.cell? ⟨w.heap.size + 1 + 1, 0, none⟩ = some (.int .i64 5) := c2.cell 0
     refine ⟨.tuple #[.agg #[.int .i64 0, .slice none 0 0, .slice none 0 0], .int .i64 5], by simp [results, Try.f60, go_sem, t0, t1, t2, t3], ?_, HLA.below (HBF.out.trans (HB8.out.mono HBF.out.size)) (by omega) (by omega)⟩
     rw [HT.out]; exact Vw.out_none _ _ _ _
    ·have HT := Lib.hid (HFL.out.trans (if_neg h4))
     rw [show Vw.madeR (.agg #[.int .i64 v.st, .slice A1 dims.length k1, .slice A2 zs.length n2]) ⟨v.st, dims, zs⟩ = .tuple #[.agg #[.int .i64 v.st, .slice A1 dims.length k1, .slice A2 zs.length n2], .int .i64 0] from if_neg h4]
     clear h4
     go_wp2_with fail
     refine ⟨by simp, .inl ⟨_, _, rfl, run_takeDeferred (Vw.deferred_still HD8.out (by omega)), ?_⟩⟩
     generalize hWF : World.putObj _ D (.deferred none) = WF
     have HLA : Vw.Last w w8 D _ _ _ _ WF := ⟨hWF⟩
     obtain ⟨c1, c2⟩ := HLA.cells HR8.out HE8.out (by omega)
     have t0 : WF.cell? ⟨w.heap.size + 1, 0, none⟩ = some (.int .i64 v.st) := c1.cell 0
     have t1 : WF.cell? ⟨w.heap.size + 1, 1, none⟩ = some (.slice A1 dims.length k1) := c1.cell 1
     have t2 : WF.cell? ⟨w.heap.size + 1, 2, none⟩ = some (.slice A2 zs.length n2) := c1.cell 2
     have t3 : WF.cell? ⟨w.heap.size + 1 + 1, 0, none⟩ = some (.int .i64 0) := c2.cell 0
     refine ⟨.tuple #[.agg #[.int .i64 v.st, .slice A1 dims.length k1, .slice A2 zs.length n2], .int .i64 0], by simp [results, Try.f60, go_sem, t0, t1, t2, t3], ?_, HLA.below (HBF.out.trans (HB8.out.mono HBF.out.size)) (by omega) (by omega)⟩
     rw [HT.out]
     refine Vw.out_mk ⟨A1, k1, A2, n2, rfl, ?_, ?_, HM.out.fs.l1, HM.out.fs.l2, HI2.out.2.1, HI2.out.2.2.1⟩ ?_ ?_
     ·refine (HM.out.i1.below (HB8.out.mono HM.out.size)).same (by rw [HLA.size]; have := HM.out.size; omega) (fun b off e hp => HLA.same b ?_ ?_ ?_)
      all_goals (have h1 := (HM.out.fs.g1 b off e hp).1; have h2 := HLY.out.a1_ b off e hp; omega)
     ·refine (HI2.out.1.below HB8.out).same (by rw [HLA.size]; exact hlt8) (fun b off e hp => HLA.same b ?_ ?_ ?_)
      all_goals (have h1 := HI2.out.2.2.2 b off e hp; have h2 := HGH.out b off e; omega)
     ·exact fun b off e hp => by have := (HM.out.fs.g1 b off e hp).1; omega
     ·exact fun b off e hp => by have := HI2.out.2.2.2 b off e hp; omega
   case stop =>
    rintro D c pre W hD _ hX hK
    have hr := hX.ret
    subst hr
    have HT := Lib.hid (AdjV.reform_none H0.out HS0.out HSS.out HN0.out hX.no)
    have hDW : D < W.heap.size := (Array.getElem?_eq_some_iff.1 hK).1
    refine wpIn_ret ?_
    refine ⟨by simp, .inl ⟨_, _, rfl, run_takeDeferred hK, ?_⟩⟩
    have hbp : Below D W (W.putObj D (.deferred none)) := (Below.refl D W).grown (grownBy_putObj' W D (.deferred none)) (Nat.le_of_lt hDW) (fun k e => by cases e; exact Nat.le_refl _)
    have c1 := hX.view.below hbp (by omega)
    have c2 := hX.err.below hbp (by omega)
    have HBX := Lib.hid (hX.below.trans (hbp.mono (by omega)))
    generalize W.putObj D (.deferred none) = WF at c1 c2 HBX ⊢
    have t0 : WF.cell? ⟨w.heap.size + 1, 0, none⟩ = some (.int .i64 0) := c1.cell 0
    have t1 : WF.cell? ⟨w.heap.size + 1, 1, none⟩ = some (.slice none 0 0) := c1.cell 1
    have t2 : WF.cell? ⟨w.heap.size + 1, 2, none⟩ = some (.slice none 0 0) := c1.cell 2
    have t3 : WF.cell? ⟨w.heap.size + 1 + 1, 0, none⟩ = some (.int .i64 9) := c2.cell 0
    refine ⟨.tuple #[.agg #[.int .i64 0, .slice none 0 0, .slice none 0 0], .int .i64 9], by simp [results, Try.f60, go_sem, t0, t1, t2, t3], ?_, HBX.out⟩
    rw [HT.out]; exact Vw.out_none _ _ _ _
end Go.Proofs.Ytapedmpbkffopaa
end
section
namespace Adj
open Go Go.RowKit
set_option linter.unusedVariables false
variable {F : Fence} {n : Nat} {P : Program}
theorem wpIn_rangeFunc_ord1 {α : Type} {g : Operand} {p1 p2 : Tmp} {assign body : Code} {Q : Exit → Act → World → Prop} {a : Act} {w : World} (d1 : Nat) (e1 e2 : α → Value)
    (hro : F.round = none) (h1 : 1 ≤ n) {gf : Nat} {lb : Array Value} (hg : a.eval g = .func (.func gf) #[] lb) (hFg : F.fn gf) (eg : ∀ args w, (callFunc gf args).run P w = .ok (.enter gf args) w)
    {Kp : World → World → Prop} {R : List α → α → Prop} {S Sp : List α → Prop} {N : Nat} {w0 : World} (hseq : SeqOrd F (n - 1) P gf lb (fun x => #[e1 x, e2 x]) Kp R S Sp N w0)
    (hKt : ∀ {A B C : World}, Kp A B → Kp B C → Kp A C) (hKb : ∀ (W : World) (l : Nat) (o o' : Obj), w.heap.size ≤ l → W.heap[l]? = some o → o.isCells = false → o.isWalk = false → Kp W (W.putObj l o')) (hb0 : Below w0.heap.size w0 w)
    (I : List α → World → Prop) (Ix : Code → List α → World → Prop) (hI : OwnFrom w.heap.size I) (hIx : ∀ c, OwnFrom w.heap.size (Ix c)) (h0 : I [] w)
    (hassign : ∀ (l : Nat) (x : α) (W : World) (K : Act → World → Prop), K { tmps := ((a.tmps.setIfInBounds p1 (e1 x)).setIfInBounds p2 (e2 x)).setIfInBounds d1 (e1 x), defers := [] } W →
     assign.wpIn (F.inRound l) (n - 1 - 1) P (Exit.then K (fun _ _ _ => False)) { tmps := (a.tmps.setIfInBounds p1 (e1 x)).setIfInBounds p2 (e2 x), defers := [] } W)
    (hbody : ∀ (l : Nat) (pre : List α) (x : α) (W : World), I pre W → pre.length < N → R pre x →
     body.wpIn (F.inRound l) (n - 1 - 1) P (ownPostG w.heap.size Kp I Ix (pre ++ [x]) W) { tmps := ((a.tmps.setIfInBounds p1 (e1 x)).setIfInBounds p2 (e2 x)).setIfInBounds d1 (e1 x), defers := [] } W)
    (hdone : ∀ (D : Nat) (xs : List α) (W : World), w.heap.size ≤ D → S xs → I xs W → W.heap[D]? = some (.deferred (some [])) → Q .normal { a with defers := { target := .collected D, args := #[] } :: a.defers } W)
    (hstop : ∀ (D : Nat) (c : Code) (pre : List α) (W : World), w.heap.size ≤ D → Sp pre → Ix c pre W → W.heap[D]? = some (.deferred (some [])) → c.wpIn F n P Q { a with defers := { target := .collected D, args := #[] } :: a.defers } W) :
    (Code.rangeFunc g #[p1, p2] assign body).wpIn F n P Q a w :=
 wpIn_rangeFunc_ord (encs := fun x => #[e1 x, e2 x]) hro h1 hg hFg eg hseq hKt hKb hb0 (fun _ => rfl) I Ix hI hIx h0
  (fun x => { tmps := ((a.tmps.setIfInBounds p1 (e1 x)).setIfInBounds p2 (e2 x)).setIfInBounds d1 (e1 x), defers := [] })
  (fun l x W K hK => by simpa using hassign l x W K hK) hbody hdone hstop
end Adj
end
