/-
  The walk of the program's Spread; The walk of the reference's Spread. Conditions: where the theorems name them.
-/
import Derived.Test.YtapedmpbkffopaaZ02
import Derived.Test.YtapedmpbkffopaaZ08
import Derived.Deep.DeepCutAuto
section
namespace Go.Proofs.Ytapedmpbkffopaa
set_option linter.unusedVariables false
open Go.RowKit Adj
attribute [local go_sem ↓] Go.wp_at_zero Go.wp_at_succ
set_option maxRecDepth 100000 in
set_option maxHeartbeats 8000000 in
theorem Spread_any (val : Value) (v : AdjV.V) (DA P : Option Addr) (cdi cp : Nat) (dims p : List Int) (B : Nat) (w : World) (hB : B ≤ w.heap.size) (h : Vw.ViewAt w B val v) (hdi : Vw.IntsAt w B DA dims) (hp : Vw.IntsAt w B P p)
    (md : dims.length ≤ cdi) (md2 : cdi ≤ 9223372036854775807) (mp : p.length ≤ cp) (mp2 : cp ≤ 9223372036854775807) :
    Calls Try.prog 58 #[val, .slice DA dims.length cdi, .slice P p.length cp] w fun e w' => Vw.ViewOut 0 w w' (AdjV.spread v dims p) e ∧ Below w.heap.size w w' := by
 have HW := Lib.hid (fun (W : World) (hb : Below w.heap.size w W) => Wrong_any val v B W (Nat.le_trans hB hb.size) (h.below (hb.mono hB)))
 have HDI := Lib.hid hdi
 have HP := Lib.hid hp
 have HZ := Lib.hid (fun (W : World) (hb : Below w.heap.size w W) => Size_any DA cdi dims B W (by omega) (hdi.below (hb.mono hB)))
 obtain ⟨A, c, A', c', rfl, hd, hs, c1, c2, c3, c4⟩ := h
 have HD := Lib.hid hd
 have HS := Lib.hid hs
 have HB := Lib.hid ((((Below.refl w.heap.size w).alloc (Nat.le_refl _) (.cells #[.int .i64 v.st, .slice A v.dims.length c, .slice A' v.steps.length c'] 68))).alloc (by simp) (.cells #[.int .i64 0, .slice none 0 0, .slice none 0 0] 68))
 clear hd hs hp hdi
 by_cases h0 : AdjV.wrong v = 0
 rotate_left
 ·have HT := Lib.hid (AdjV.spread_wrong (dims := dims) (l := p) h0)
  have hq : (AdjV.wrong v != 0) = true := by simpa using h0
  clear h0
  go_enter Try.func58, Try.ntmps58
  go_wp2_with fail
  refine (HW.out _ HB.out).mono ?_
  rintro e w1 ⟨rfl, hb1⟩
  obtain ⟨hc, hf⟩ := bcell hb1
  have hz : w.heap.size + 1 < w1.heap.size := by have := hb1.size; simp at this; omega
  go_wp2_with fail
  refine bodyPost_ret (v := .tuple #[.agg #[.int .i64 0, .slice none 0 0, .slice none 0 0], .int .i64 (AdjV.wrong v)]) (by simp [results, Try.results58, go_sem, hc]) rfl ⟨?_, Vw.three (HB.out.trans (hb1.mono HB.out.size)) (Nat.le_succ _) _ _ _⟩
  rw [HT.out]; exact Vw.out_none _ _ _ _
 have H0 := Lib.hid h0
 obtain ⟨z1, z2, z3, z4⟩ := AdjV.wrong_fine h0
 have hn6 : v.dims.length ≤ 6 := (AdjV.size_fine z1).1
 have HLS := Lib.hid z2
 clear h0 z1 z2 z4
 go_enter Try.func58, Try.ntmps58
 go_wp2_with fail
 refine (HW.out _ HB.out).mono ?_
 rintro e w1 ⟨rfl, hb1⟩
 rw [H0.out]
 have hx := ((Blk.new w 68 #[.int .i64 v.st, .slice A v.dims.length c, .slice A' v.steps.length c']).alloc (.cells #[.int .i64 0, .slice none 0 0, .slice none 0 0] 68)).below hb1 (by simp; omega)
 have hr := (Vw.blk2 w (.cells #[.int .i64 v.st, .slice A v.dims.length c, .slice A' v.steps.length c'] 68) 68 #[.int .i64 0, .slice none 0 0, .slice none 0 0]).below hb1 (by simp)
 have HX := Lib.hid hx
 have HR := Lib.hid hr
 have HB1 := Lib.hid (HB.out.trans (hb1.mono HB.out.size))
 have hz : w.heap.size + 1 < w1.heap.size := by have := hb1.size; simp at this; omega
 have x0 : w1.cell? ⟨w.heap.size, 0, none⟩ = some (.int .i64 v.st) := hx.cell 0
 have x1 : w1.cell? ⟨w.heap.size, 1, none⟩ = some (.slice A v.dims.length c) := hx.cell 1
 have x2 : w1.cell? ⟨w.heap.size, 2, none⟩ = some (.slice A' v.steps.length c') := hx.cell 2
 have r0 : w1.cell? ⟨w.heap.size + 1, 0, none⟩ = some (.int .i64 0) := hr.cell 0
 have r1 : w1.cell? ⟨w.heap.size + 1, 1, none⟩ = some (.slice none 0 0) := hr.cell 1
 have r2 : w1.cell? ⟨w.heap.size + 1, 2, none⟩ = some (.slice none 0 0) := hr.cell 2
 have f0 := hr.frozen 0
 have f1 := hr.frozen 1
 have f2 := hr.frozen 2
 clear hb1 hx hr
 go_wp2_with fail
 refine (HZ.out _ HB1.out).mono ?_
 rintro e w2 ⟨rfl, rfl⟩
 by_cases hs0 : (AdjV.size dims).2 = 0
 rotate_left
 ·have HT := Lib.hid (AdjV.spread_size (l := p) H0.out hs0)
  have hq : ((AdjV.size dims).2 != 0) = true := by simpa using hs0
  simp only [Vw.sizeR]
  clear hs0
  go_wp2_with fail
  refine bodyPost_ret (v := .tuple #[.agg #[.int .i64 0, .slice none 0 0, .slice none 0 0], .int .i64 ((AdjV.size dims).2)]) (by simp [results, Try.results58, go_sem, r0, r1, r2]) rfl ⟨?_, Vw.three HB1.out (Nat.le_succ _) _ _ _⟩
  rw [HT.out]; exact Vw.out_none _ _ _ _
 have HS0 := Lib.hid hs0
 have hd6 : dims.length ≤ 6 := (AdjV.size_fine hs0).1
 have hd16 : dims.length ≤ 65536 := by omega
 simp only [Vw.sizeR, hs0]
 have HMKI := Lib.hid (fun W => run_make_int dims.length hd16 W)
 have HRC := Lib.hid (rising_any P cp p dims.length B w1 (by omega) (by omega) (HP.out.below (HB1.out.mono hB)))
 have HCL := Lib.hid (fun (W : World) (hb : Below w1.heap.size w1 W) => Clone_any DA cdi dims B W (by omega) (HDI.out.below ((HB1.out.trans (hb.mono HB1.out.size)).mono hB)) (by have := hb.size; omega))
 clear hs0
 by_cases hl : p.length = v.dims.length
 rotate_left
 ·have HT := Lib.hid (AdjV.spread_shape H0.out HS0.out (.inl hl))
  have hq1 : ((p.length : Int) != (v.dims.length : Int)) = true := by simp; omega
  clear hl
  go_wp2_with fail
  refine bodyPost_ret (v := .tuple #[.agg #[.int .i64 0, .slice none 0 0, .slice none 0 0], .int .i64 6]) (by simp [results, Try.results58, go_sem, r0, r1, r2]) rfl ⟨?_, Vw.three HB1.out (Nat.le_succ _) _ _ _⟩
  rw [HT.out]; exact Vw.out_none _ _ _ _
 have hq1 : ((p.length : Int) != (v.dims.length : Int)) = false := by simp; omega
 have HL := Lib.hid hl
 clear hl
 by_cases hri : AdjV.riseB dims.length p = true
 rotate_left
 ·have HT := Lib.hid (AdjV.spread_shape H0.out HS0.out (.inr (by simpa using hri)))
  have HRI := Lib.hid (show AdjV.riseB dims.length p = false by simpa using hri)
  clear hri
  go_wp2_with fail
  refine HRC.out.mono ?_
  rintro e w2 ⟨rfl, rfl⟩
  rw [HRI.out]
  go_wp2_with fail
  refine bodyPost_ret (v := .tuple #[.agg #[.int .i64 0, .slice none 0 0, .slice none 0 0], .int .i64 6]) (by simp [results, Try.results58, go_sem, r0, r1, r2]) rfl ⟨?_, Vw.three HB1.out (Nat.le_succ _) _ _ _⟩
  rw [HT.out]; exact Vw.out_none _ _ _ _
 have HRI := Lib.hid hri
 clear hri
 go_wp2_with fail
 refine HRC.out.mono ?_
 rintro e w2 ⟨rfl, rfl⟩
 rw [HRI.out]
 clear r0 r1 r2 f0 f1 f2
 go_wp2_with fail
 have hmk := HMKI.out
 go_cut [11] (fun s11 wx => ∃ (bw : Nat) (A1 : Option Addr) (k1 : Nat) (v2 : Value), s11 = .pointer (some ⟨bw, 0, none⟩) ∧ Vw.Fs 0 w1.heap.size bw w1 v.st A1 k1 v2 dims (List.replicate dims.length 0) wx)
 case first =>
  refine wp_region_T (fun w' => w'.cell? ⟨w.heap.size, 0, none⟩ = some (.int .i64 v.st)) 9 (fun _ => True) 9 10 rfl (by kernel_rfl) ⟨x0, trivial⟩ (fun hHeld => ?_)
  simp only [List.replicate_succ, List.replicate_zero]
  refine tk (v := ?_) [] 0 43 hHeld ?_ ?_; rotate_left; (intro w h; (try dsimp only at h); go_simp; try with_reducible rfl); try simp only [Act.put, zA, zB, zC]
  refine tk (v := ?_) [] 1 44 hHeld ?_ ?_; rotate_left; (intro w h; (try dsimp only at h); go_simp; try with_reducible rfl); try simp only [Act.put, zA, zB, zC]
  refine tk (v := ?_) [] 2 45 hHeld ?_ ?_; rotate_left; (intro w h; (try dsimp only at h); go_simp; try with_reducible rfl); try simp only [Act.put, zA, zB, zC]
  refine tk (v := ?_) [] 4 47 hHeld ?_ ?_; rotate_left; (intro w h; (try dsimp only at h); go_simp; try with_reducible rfl); try simp only [Act.put, zA, zB, zC]
  refine tk (v := ?_) [] 5 48 hHeld ?_ ?_; rotate_left; (intro w h; (try dsimp only at h); go_simp; try with_reducible rfl); try simp only [Act.put, zA, zB, zC]
  have HA0 := Lib.hid (Vw.Acc.start w1)
  generalize w1.drew = W0 at HA0 hHeld ⊢
  refine wpT_three 3 6 8 (by kernel_rfl) (stepT_early rfl rfl (fun K hK => ?_)) (stepT_early rfl rfl (fun K hK => ?_)) (stepT_early rfl rfl (fun K hK => ?_))
  ·go_simp
   refine (HCL.out _ HA0.out.below).mono ?_
   rintro e W1 ⟨va, rfl, ho, hb⟩
   obtain ⟨G1, m1, rfl, hm1⟩ := Vw.own_any ho
   have HA1 := Lib.hid (HA0.out.stepC ho hb)
   clear ho hb
   try go_simp
   refine hK.out _ _ ?_ (fun hHeld2 => ?_)
   ·exact ⟨(HA1.out.below.cell (p := ⟨w.heap.size, 0, none⟩) (by simp; omega)).trans x0, trivial⟩
   clear hK K hHeld
   have hHeld := hHeld2
   clear hHeld2
   try simp only [zA, zB, zC]
   refine wpT_two 6 8 (by kernel_rfl) (stepT_early rfl rfl (fun K hK => ?_)) (stepT_early rfl rfl (fun K hK => ?_))
   ·go_simp
    have HA2 := Lib.hid (HA1.out.make dims.length hd16)
    refine hK.out _ _ ?_ (fun hHeld2 => ?_)
    ·exact ⟨(HA2.out.below.cell (p := ⟨w.heap.size, 0, none⟩) (by simp; omega)).trans x0, trivial⟩
    clear hK K hHeld
    have hHeld := hHeld2
    clear hHeld2
    try simp only [zA, zB, zC]
    generalize W1.alloc (.cells (ints (List.replicate dims.length 0)).toArray 3) = W2 at HA2 hHeld ⊢
    refine tp (v := ?_) 7 50 ⟨fun _ => hHeld.1, fun _ => hHeld.2⟩ ?_ ?_; rotate_left; (intro w; go_simp; try with_reducible rfl); try simp only [Act.put, zA, zB, zC]
    refine wpT_one 8 (by kernel_rfl) (stepT_early rfl rfl (fun K hK => ?_))
    go_simp
    have HA3 := Lib.hid HA2.out.stepB
    refine hK.out _ _ ?_ (fun hHeld2 => ?_)
    ·exact ⟨(HA3.out.below.cell (p := ⟨w.heap.size, 0, none⟩) (by simp; omega)).trans x0, trivial⟩
    clear hK K hHeld
    have hHeld := hHeld2
    clear hHeld2
    try simp only [zA, zB, zC]
    generalize W2.alloc (.cells #[.int .i64 0, .slice none 0 0, .slice none 0 0] 68) = W3 at HA3 hHeld ⊢
    refine wpT_tail [_] 9 [] rfl (by kernel_rfl) ?_
    have HBK := Lib.hid (HA3.out.fb _ rfl)
    have q0 := HBK.out.2.cell 0
    have q1 := HBK.out.2.cell 1
    have q2 := HBK.out.2.cell 2
    have fq0 := HBK.out.2.frozen 0
    have fq1 := HBK.out.2.frozen 1
    have fq2 := HBK.out.2.frozen 2
    have hblt := HBK.out.2.lt
    have HF := Lib.hid (HA3.out.fs 0 v.st)
    clear hHeld
    go_wp2_with fail
    go_meet
    exact ⟨_, _, _, _, rfl, HF.out⟩
   ·go_simp
    have HA2 := Lib.hid HA1.out.stepB
    refine hK.out _ _ ?_ (fun hHeld2 => ?_)
    ·exact ⟨(HA2.out.below.cell (p := ⟨w.heap.size, 0, none⟩) (by simp; omega)).trans x0, trivial⟩
    clear hK K hHeld
    have hHeld := hHeld2
    clear hHeld2
    try simp only [zA, zB, zC]
    generalize W1.alloc (.cells #[.int .i64 0, .slice none 0 0, .slice none 0 0] 68) = W2 at HA2 hHeld ⊢
    refine wpT_one 6 (by kernel_rfl) (stepT_early rfl rfl (fun K hK => ?_))
    go_simp
    have HA3 := Lib.hid (HA2.out.make dims.length hd16)
    refine hK.out _ _ ?_ (fun hHeld2 => ?_)
    ·exact ⟨(HA3.out.below.cell (p := ⟨w.heap.size, 0, none⟩) (by simp; omega)).trans x0, trivial⟩
    clear hK K hHeld
    have hHeld := hHeld2
    clear hHeld2
    try simp only [zA, zB, zC]
    generalize W2.alloc (.cells (ints (List.replicate dims.length 0)).toArray 3) = W3 at HA3 hHeld ⊢
    refine tp (v := ?_) 7 50 ⟨fun _ => hHeld.1, fun _ => hHeld.2⟩ ?_ ?_; rotate_left; (intro w; go_simp; try with_reducible rfl); try simp only [Act.put, zA, zB, zC]
    refine wpT_tail [_] 9 [] rfl (by kernel_rfl) ?_
    have HBK := Lib.hid (HA3.out.fb _ rfl)
    have q0 := HBK.out.2.cell 0
    have q1 := HBK.out.2.cell 1
    have q2 := HBK.out.2.cell 2
    have fq0 := HBK.out.2.frozen 0
    have fq1 := HBK.out.2.frozen 1
    have fq2 := HBK.out.2.frozen 2
    have hblt := HBK.out.2.lt
    have HF := Lib.hid (HA3.out.fs 0 v.st)
    clear hHeld
    go_wp2_with fail
    go_meet
    exact ⟨_, _, _, _, rfl, HF.out⟩
  ·go_simp
   have HA1 := Lib.hid (HA0.out.make dims.length hd16)
   refine hK.out _ _ ?_ (fun hHeld2 => ?_)
   ·exact ⟨(HA1.out.below.cell (p := ⟨w.heap.size, 0, none⟩) (by simp; omega)).trans x0, trivial⟩
   clear hK K hHeld
   have hHeld := hHeld2
   clear hHeld2
   try simp only [zA, zB, zC]
   generalize W0.alloc (.cells (ints (List.replicate dims.length 0)).toArray 3) = W1 at HA1 hHeld ⊢
   refine wpT_two 3 8 (by kernel_rfl) (stepT_early rfl rfl (fun K hK => ?_)) (stepT_early rfl rfl (fun K hK => ?_))
   ·go_simp
    refine (HCL.out _ HA1.out.below).mono ?_
    rintro e W2 ⟨va, rfl, ho, hb⟩
    obtain ⟨G1, m1, rfl, hm1⟩ := Vw.own_any ho
    have HA2 := Lib.hid (HA1.out.stepC ho hb)
    clear ho hb
    try go_simp
    refine hK.out _ _ ?_ (fun hHeld2 => ?_)
    ·exact ⟨(HA2.out.below.cell (p := ⟨w.heap.size, 0, none⟩) (by simp; omega)).trans x0, trivial⟩
    clear hK K hHeld
    have hHeld := hHeld2
    clear hHeld2
    try simp only [zA, zB, zC]
    refine tp (v := ?_) 7 50 ⟨fun _ => hHeld.1, fun _ => hHeld.2⟩ ?_ ?_; rotate_left; (intro w; go_simp; try with_reducible rfl); try simp only [Act.put, zA, zB, zC]
    refine wpT_one 8 (by kernel_rfl) (stepT_early rfl rfl (fun K hK => ?_))
    go_simp
    have HA3 := Lib.hid HA2.out.stepB
    refine hK.out _ _ ?_ (fun hHeld2 => ?_)
    ·exact ⟨(HA3.out.below.cell (p := ⟨w.heap.size, 0, none⟩) (by simp; omega)).trans x0, trivial⟩
    clear hK K hHeld
    have hHeld := hHeld2
    clear hHeld2
    try simp only [zA, zB, zC]
    generalize W2.alloc (.cells #[.int .i64 0, .slice none 0 0, .slice none 0 0] 68) = W3 at HA3 hHeld ⊢
    refine wpT_tail [_] 9 [] rfl (by kernel_rfl) ?_
    have HBK := Lib.hid (HA3.out.fb _ rfl)
    have q0 := HBK.out.2.cell 0
    have q1 := HBK.out.2.cell 1
    have q2 := HBK.out.2.cell 2
    have fq0 := HBK.out.2.frozen 0
    have fq1 := HBK.out.2.frozen 1
    have fq2 := HBK.out.2.frozen 2
    have hblt := HBK.out.2.lt
    have HF := Lib.hid (HA3.out.fs 0 v.st)
    clear hHeld
    go_wp2_with fail
    go_meet
    exact ⟨_, _, _, _, rfl, HF.out⟩
   ·go_simp
    have HA2 := Lib.hid HA1.out.stepB
    refine hK.out _ _ ?_ (fun hHeld2 => ?_)
    ·exact ⟨(HA2.out.below.cell (p := ⟨w.heap.size, 0, none⟩) (by simp; omega)).trans x0, trivial⟩
    clear hK K hHeld
    have hHeld := hHeld2
    clear hHeld2
    try simp only [zA, zB, zC]
    generalize W1.alloc (.cells #[.int .i64 0, .slice none 0 0, .slice none 0 0] 68) = W2 at HA2 hHeld ⊢
    refine wpT_one 3 (by kernel_rfl) (stepT_early rfl rfl (fun K hK => ?_))
    go_simp
    refine (HCL.out _ HA2.out.below).mono ?_
    rintro e W3 ⟨va, rfl, ho, hb⟩
    obtain ⟨G1, m1, rfl, hm1⟩ := Vw.own_any ho
    have HA3 := Lib.hid (HA2.out.stepC ho hb)
    clear ho hb
    try go_simp
    refine hK.out _ _ ?_ (fun hHeld2 => ?_)
    ·exact ⟨(HA3.out.below.cell (p := ⟨w.heap.size, 0, none⟩) (by simp; omega)).trans x0, trivial⟩
    clear hK K hHeld
    have hHeld := hHeld2
    clear hHeld2
    try simp only [zA, zB, zC]
    refine tp (v := ?_) 7 50 ⟨fun _ => hHeld.1, fun _ => hHeld.2⟩ ?_ ?_; rotate_left; (intro w; go_simp; try with_reducible rfl); try simp only [Act.put, zA, zB, zC]
    refine wpT_tail [_] 9 [] rfl (by kernel_rfl) ?_
    have HBK := Lib.hid (HA3.out.fb _ rfl)
    have q0 := HBK.out.2.cell 0
    have q1 := HBK.out.2.cell 1
    have q2 := HBK.out.2.cell 2
    have fq0 := HBK.out.2.frozen 0
    have fq1 := HBK.out.2.frozen 1
    have fq2 := HBK.out.2.frozen 2
    have hblt := HBK.out.2.lt
    have HF := Lib.hid (HA3.out.fs 0 v.st)
    clear hHeld
    go_wp2_with fail
    go_meet
    exact ⟨_, _, _, _, rfl, HF.out⟩
  ·go_simp
   have HA1 := Lib.hid HA0.out.stepB
   refine hK.out _ _ ?_ (fun hHeld2 => ?_)
   ·exact ⟨(HA1.out.below.cell (p := ⟨w.heap.size, 0, none⟩) (by simp; omega)).trans x0, trivial⟩
   clear hK K hHeld
   have hHeld := hHeld2
   clear hHeld2
   try simp only [zA, zB, zC]
   generalize W0.alloc (.cells #[.int .i64 0, .slice none 0 0, .slice none 0 0] 68) = W1 at HA1 hHeld ⊢
   refine wpT_two 3 6 (by kernel_rfl) (stepT_early rfl rfl (fun K hK => ?_)) (stepT_early rfl rfl (fun K hK => ?_))
   ·go_simp
    refine (HCL.out _ HA1.out.below).mono ?_
    rintro e W2 ⟨va, rfl, ho, hb⟩
    obtain ⟨G1, m1, rfl, hm1⟩ := Vw.own_any ho
    have HA2 := Lib.hid (HA1.out.stepC ho hb)
    clear ho hb
    try go_simp
    refine hK.out _ _ ?_ (fun hHeld2 => ?_)
    ·exact ⟨(HA2.out.below.cell (p := ⟨w.heap.size, 0, none⟩) (by simp; omega)).trans x0, trivial⟩
    clear hK K hHeld
    have hHeld := hHeld2
    clear hHeld2
    try simp only [zA, zB, zC]
    refine wpT_one 6 (by kernel_rfl) (stepT_early rfl rfl (fun K hK => ?_))
    go_simp
    have HA3 := Lib.hid (HA2.out.make dims.length hd16)
    refine hK.out _ _ ?_ (fun hHeld2 => ?_)
    ·exact ⟨(HA3.out.below.cell (p := ⟨w.heap.size, 0, none⟩) (by simp; omega)).trans x0, trivial⟩
    clear hK K hHeld
    have hHeld := hHeld2
    clear hHeld2
    try simp only [zA, zB, zC]
    generalize W2.alloc (.cells (ints (List.replicate dims.length 0)).toArray 3) = W3 at HA3 hHeld ⊢
    refine tp (v := ?_) 7 50 ⟨fun _ => hHeld.1, fun _ => hHeld.2⟩ ?_ ?_; rotate_left; (intro w; go_simp; try with_reducible rfl); try simp only [Act.put, zA, zB, zC]
    refine wpT_tail [_] 9 [] rfl (by kernel_rfl) ?_
    have HBK := Lib.hid (HA3.out.fb _ rfl)
    have q0 := HBK.out.2.cell 0
    have q1 := HBK.out.2.cell 1
    have q2 := HBK.out.2.cell 2
    have fq0 := HBK.out.2.frozen 0
    have fq1 := HBK.out.2.frozen 1
    have fq2 := HBK.out.2.frozen 2
    have hblt := HBK.out.2.lt
    have HF := Lib.hid (HA3.out.fs 0 v.st)
    clear hHeld
    go_wp2_with fail
    go_meet
    exact ⟨_, _, _, _, rfl, HF.out⟩
   ·go_simp
    have HA2 := Lib.hid (HA1.out.make dims.length hd16)
    refine hK.out _ _ ?_ (fun hHeld2 => ?_)
    ·exact ⟨(HA2.out.below.cell (p := ⟨w.heap.size, 0, none⟩) (by simp; omega)).trans x0, trivial⟩
    clear hK K hHeld
    have hHeld := hHeld2
    clear hHeld2
    try simp only [zA, zB, zC]
    generalize W1.alloc (.cells (ints (List.replicate dims.length 0)).toArray 3) = W2 at HA2 hHeld ⊢
    refine wpT_one 3 (by kernel_rfl) (stepT_early rfl rfl (fun K hK => ?_))
    go_simp
    refine (HCL.out _ HA2.out.below).mono ?_
    rintro e W3 ⟨va, rfl, ho, hb⟩
    obtain ⟨G1, m1, rfl, hm1⟩ := Vw.own_any ho
    have HA3 := Lib.hid (HA2.out.stepC ho hb)
    clear ho hb
    try go_simp
    refine hK.out _ _ ?_ (fun hHeld2 => ?_)
    ·exact ⟨(HA3.out.below.cell (p := ⟨w.heap.size, 0, none⟩) (by simp; omega)).trans x0, trivial⟩
    clear hK K hHeld
    have hHeld := hHeld2
    clear hHeld2
    try simp only [zA, zB, zC]
    refine tp (v := ?_) 7 50 ⟨fun _ => hHeld.1, fun _ => hHeld.2⟩ ?_ ?_; rotate_left; (intro w; go_simp; try with_reducible rfl); try simp only [Act.put, zA, zB, zC]
    refine wpT_tail [_] 9 [] rfl (by kernel_rfl) ?_
    have HBK := Lib.hid (HA3.out.fb _ rfl)
    have q0 := HBK.out.2.cell 0
    have q1 := HBK.out.2.cell 1
    have q2 := HBK.out.2.cell 2
    have fq0 := HBK.out.2.frozen 0
    have fq1 := HBK.out.2.frozen 1
    have fq2 := HBK.out.2.frozen 2
    have hblt := HBK.out.2.lt
    have HF := Lib.hid (HA3.out.fs 0 v.st)
    clear hHeld
    go_wp2_with fail
    go_meet
    exact ⟨_, _, _, _, rfl, HF.out⟩
 case rest =>
  obtain ⟨bw, A1, k1, v2, rfl, hfs⟩ := hcut
  have HF0 := Lib.hid hfs
  clear hfs HRC hmk x0
  go_wp2_with fail
  go_loopw [12, 13, 53] (fun _ _ i wr => ∃ (k : Nat), k ≤ p.length ∧ i = .int .i64 (k : Int) ∧ (∀ j (hj : j < p.length), j < k → dims.getD (p[j]).toNat 0 = v.dims.getD j 0) ∧
      Vw.Fs 0 w1.heap.size bw w1 v.st A1 k1 v2 dims (AdjV.spSteps v dims p k) wr) (fun _ _ i _ => p.length + 1 - (intOf i).toNat)
  case atStart => exact ⟨0, by omega, rfl, fun j _ h => by omega, HF0.out⟩
  case round =>
   obtain ⟨k, hk, rfl, hok, hfs⟩ := hrel
   obtain ⟨wo, rfl⟩ : ∃ wo : World, wo = wr := ⟨_, rfl⟩
   have HBO := Lib.hid hfs.below
   have HBF := Lib.hid (HB1.out.trans (HBO.out.mono HB1.out.size))
   have HOK := Lib.hid hok
   have hsz : bw < wo.heap.size := hfs.blk.lt
   have hlow : w1.heap.size ≤ bw := hfs.low
   have hrb := HR.out.below HBO.out (by omega)
   by_cases hlt : k < p.length
   ·have hkd : k < v.dims.length := by have := HL.out; omega
    have hks : k < v.steps.length := by have := HLS.out; omega
    obtain ⟨pb, poff, rfl, hpb, hpc⟩ := HP.out (by omega)
    have hpk := (HBF.out.cell (p := ⟨pb, poff + k, none⟩) (by simp; omega)).trans (hpc k hlt)
    have hri2 := AdjV.riseB_true HRI.out
    have hx0 := AdjV.rise_pos hri2 k hlt
    have hxn := (hri2 k hlt).2
    obtain ⟨q, hq⟩ : ∃ q : Nat, p[k] = (q : Int) := ⟨p[k].toNat, by omega⟩
    have HQ := Lib.hid hq
    have hqd : q < dims.length := by omega
    have HNX := Lib.hid (AdjV.spSteps_next (dims := dims) hlt hks hq)
    have HBAD := Lib.hid (AdjV.spOK_bad hlt hkd hq hqd)
    rw [hq] at hpk
    obtain ⟨b, off, rfl, hb, hc⟩ := HD.out (by omega)
    obtain ⟨b', off', rfl, hb', hc'⟩ := HS.out (by omega)
    obtain ⟨db, doff, rfl, hdb, hdc⟩ := HDI.out (by omega)
    have hd1 := (HBF.out.cell (p := ⟨b, off + k, none⟩) (by simp; omega)).trans (hc k hkd)
    have hs1 := (HBF.out.cell (p := ⟨b', off' + k, none⟩) (by simp; omega)).trans (hc' k hks)
    have hn1 := (HBF.out.cell (p := ⟨db, doff + q, none⟩) (by simp; omega)).trans (hdc q hqd)
    have y1 := (HBO.out.cell (p := ⟨w.heap.size, 1, none⟩) (by simp; omega)).trans x1
    have y2 := (HBO.out.cell (p := ⟨w.heap.size, 2, none⟩) (by simp; omega)).trans x2
    have hln := AdjV.spSteps_length v dims p k
    obtain ⟨g2, m2, hv2, _, _⟩ := hfs.own2.form (by omega)
    subst hv2
    have HF := Lib.hid hfs
    have HLN := Lib.hid hln
    have HNOW := Lib.hid (fun (h : dims[q] = v.dims[k]) => show ∀ j (hj : j < p.length), j < k + 1 → dims.getD (p[j]).toNat 0 = v.dims.getD j 0 from fun j hj h2 => by
     by_cases e : j < k
     ·exact HOK.out j hj e
     ·obtain rfl : j = k := by omega
      rw [HQ.out, Int.toNat_natCast, AdjV.getD_at dims q hqd, AdjV.getD_at v.dims j hkd]
      exact h)
    clear hc hc' hdc hpc hri2 hx0 hxn hq hok hfs hln
    generalize v.dims[k] = d at hd1 HBAD HNOW
    generalize v.steps[k] = s at hs1 HNX
    generalize dims[q] = dn at hn1 HBAD HNOW
    have i1 : (0 : Int) ≤ (k : Int) := by omega
    have i2 : (k : Int) < (p.length : Int) := by omega
    have i3 : (0 : Int) ≤ (q : Int) := by omega
    have i4 : (q : Int) < (dims.length : Int) := by omega
    have i5 : (k : Int) < (v.dims.length : Int) := by omega
    have i6 : (k : Int) < (v.steps.length : Int) := by omega
    by_cases hne : dn = d
    ·have HE := Lib.hid (HNOW.out hne)
     have gq : (dn != d) = false := by simpa using hne
     clear hne hrb
     go_wp2_with fail
     go_quiet (fail)
     go_wp2_with fail
     have HG := Lib.hid (HF.out.drewN nq)
     have b2 : (wo.drewN nq).cell? ⟨bw, 2, none⟩ = some (.slice (some ⟨g2, 0, none⟩) dims.length m2) := by rw [← HLN.out]; exact HG.out.blk.cell 2
     have fq := HG.out.own2.frozenAt q
     have dq := HG.out.own2.cellAt q (by rw [HLN.out]; omega)
     rw [ints_at _ q (by rw [HLN.out]; omega)] at dq
     generalize (AdjV.spSteps v dims p k)[q]'(by rw [HLN.out]; omega) = zq at dq
     have t1 : (wo.drewN nq).cell? ⟨w.heap.size, 2, none⟩ = some (.slice (some ⟨b', off', none⟩) v.steps.length c') := y2
     have t2 : (wo.drewN nq).cell? ⟨b', off' + k, none⟩ = some (.int .i64 s) := hs1
     generalize wo.drewN nq = W2 at HG b2 fq dq t1 t2 ⊢
     clear hd1 hs1 hn1 y1 y2 hpk HF
     refine wp_region_T (fun w' => w'.cell? ⟨bw, 2, none⟩ = some (.slice (some ⟨g2, 0, none⟩) dims.length m2) ∧ w'.cell? ⟨w.heap.size, 2, none⟩ = some (.slice (some ⟨b', off', none⟩) v.steps.length c') ∧ w'.cell? ⟨b', off' + k, none⟩ = some (.int .i64 s)) 8 (fun _ => True) 8 10 rfl (by kernel_rfl) ⟨⟨b2, t1, t2⟩, trivial⟩ (fun hHeld => ?_)
     simp only [List.replicate_succ, List.replicate_zero]
     refine tk (v := ?_) [] 0 69 hHeld ?_ ?_; rotate_left; (intro w h; (try dsimp only at h); go_simp; try with_reducible rfl); try simp only [Act.put, zA, zB, zC]
     refine tk (v := ?_) [] 1 70 hHeld ?_ ?_; rotate_left; (intro w h; (try dsimp only at h); go_simp; try with_reducible rfl); try simp only [Act.put, zA, zB, zC]
     refine tk (v := ?_) [] 2 71 hHeld ?_ ?_; rotate_left; (intro w h; (try dsimp only at h); go_simp; try with_reducible rfl); try simp only [Act.put, zA, zB, zC]
     refine tk (v := ?_) [] 3 72 hHeld ?_ ?_; rotate_left; (intro w h; (try dsimp only at h); go_simp; try with_reducible rfl); try simp only [Act.put, zA, zB, zC]
     refine tk (v := ?_) [] 4 73 hHeld ?_ ?_; rotate_left; (intro w h; (try dsimp only at h); go_simp; try with_reducible rfl); try simp only [Act.put, zA, zB, zC]
     refine tk (v := ?_) [] 5 74 hHeld ?_ ?_; rotate_left; (intro w h; (try dsimp only at h); go_simp; try with_reducible rfl); try simp only [Act.put, zA, zB, zC]
     refine tk (v := ?_) [] 6 75 hHeld ?_ ?_; rotate_left; (intro w h; (try dsimp only at h); go_simp; try with_reducible rfl); try simp only [Act.put, zA, zB, zC]
     refine tk (v := ?_) [] 7 76 hHeld ?_ ?_; rotate_left; (intro w h; (try dsimp only at h); go_simp; try with_reducible rfl); try simp only [Act.put, zA, zB, zC]
     refine wpT_tail [_, _] 8 [9] rfl (by kernel_rfl) ?_
     have HE2 := Lib.hid (HG.out.store2 q s).drew
     clear hHeld b2 t1 t2
     go_wp2_with fail
     have HE3 := Lib.hid (show Vw.Fs 0 w1.heap.size bw w1 v.st A1 k1 (.slice (some ⟨g2, 0, none⟩) (AdjV.spSteps v dims p k).length m2) dims (AdjV.spSteps v dims p (k + 1)) (W2.setCell ⟨g2, q, none⟩ (.int .i64 s)).drew by
      have h := HE2.out
      rw [HNX.out]
      rw [List.length_set] at h
      exact h)
     first
      | exact ⟨⟨k + 1, by omega, by go_num, HE.out, HE3.out⟩, by simp [intOf]; omega⟩
      | (go_roundw
         case rel => exact ⟨k + 1, by omega, by go_num, HE.out, HE3.out⟩
         case measure => simp [intOf]; omega)
    ·have HT := Lib.hid (AdjV.spread_bad H0.out HS0.out HL.out HRI.out (HBAD.out hne))
     have gq : (dn != d) = true := by simpa using hne
     have r0 : wo.cell? ⟨w.heap.size + 1, 0, none⟩ = some (.int .i64 0) := hrb.cell 0
     have r1 : wo.cell? ⟨w.heap.size + 1, 1, none⟩ = some (.slice none 0 0) := hrb.cell 1
     have r2 : wo.cell? ⟨w.heap.size + 1, 2, none⟩ = some (.slice none 0 0) := hrb.cell 2
     have f0 := hrb.frozen 0
     have f1 := hrb.frozen 1
     have f2 := hrb.frozen 2
     clear hne hrb
     go_wp2_with fail
     go_quiet (fail)
     go_wp2_with fail
     refine bodyPost_ret (v := .tuple #[.agg #[.int .i64 0, .slice none 0 0, .slice none 0 0], .int .i64 6]) (by simp [results, Try.results58, go_sem, r0, r1, r2]) rfl ⟨?_, Vw.three (below_drewN HBF.out nq) (Nat.le_succ _) _ _ _⟩
     rw [HT.out]; exact Vw.out_none _ _ _ _
   ·obtain rfl : k = p.length := by omega
    have HT := Lib.hid (AdjV.spread_ok H0.out HS0.out HL.out HRI.out (AdjV.spOK_of (fun j hj => HOK.out j hj hj)))
    obtain ⟨A2, n2, hv2, ia2, la2, ma2, ga2⟩ := Vw.own_view hfs.own2
    subst hv2
    have HF := Lib.hid hfs
    have HI2 := Lib.hid (And.intro ia2 (And.intro la2 (And.intro ma2 ga2)))
    have e0 : wo.cell? ⟨bw, 0, none⟩ = some (.int .i64 v.st) := hfs.blk.cell 0
    have e1 : wo.cell? ⟨bw, 1, none⟩ = some (.slice A1 dims.length k1) := hfs.blk.cell 1
    have e2 : wo.cell? ⟨bw, 2, none⟩ = some (.slice A2 (AdjV.spSteps v dims p p.length).length n2) := hfs.blk.cell 2
    have r0 : wo.cell? ⟨w.heap.size + 1, 0, none⟩ = some (.int .i64 0) := hrb.cell 0
    have r1 : wo.cell? ⟨w.heap.size + 1, 1, none⟩ = some (.slice none 0 0) := hrb.cell 1
    have r2 : wo.cell? ⟨w.heap.size + 1, 2, none⟩ = some (.slice none 0 0) := hrb.cell 2
    have f0 := hrb.frozen 0
    have f1 := hrb.frozen 1
    have f2 := hrb.frozen 2
    clear hrb hfs ia2 la2 ma2 ga2 hok
    go_wp2_with fail
    refine bodyPost_ret (v := .tuple #[.agg #[.int .i64 v.st, .slice A1 dims.length k1, .slice A2 (AdjV.spSteps v dims p p.length).length n2], .int .i64 0]) (by simp [results, Try.results58, go_sem, r0, r1, r2]) rfl ⟨?_, Vw.three HBF.out (Nat.le_succ _) _ _ _⟩
    rw [HT.out]
    refine Vw.out_mk ⟨A1, k1, A2, n2, rfl, ?_, ?_, HF.out.l1, HF.out.l2, HI2.out.2.1, HI2.out.2.2.1⟩ ?_ ?_
    ·exact (HF.out.i1.set3 (fun b off e hp => by have := (HF.out.g1 b off e hp).1; omega) _ _ _).up (by simp)
    ·exact (HI2.out.1.set3 (fun b off e hp => by have := HI2.out.2.2.2 b off e hp; omega) _ _ _).up (by simp)
    ·exact fun b off e hp => by have := (HF.out.g1 b off e hp).1; omega
    ·exact fun b off e hp => by have := HI2.out.2.2.2 b off e hp; omega
end Go.Proofs.Ytapedmpbkffopaa
end
section
namespace Go.Proofs.Ytapedmpbkffopaa
set_option linter.unusedVariables false
open Go.RowKit Adj
attribute [local go_sem ↓] Go.wp_at_zero Go.wp_at_succ
set_option maxRecDepth 100000 in
set_option maxHeartbeats 8000000 in
theorem refSpread_any (val : Value) (v : AdjV.V) (DA P : Option Addr) (cdi cp : Nat) (dims p : List Int) (B : Nat) (w : World) (hB : B ≤ w.heap.size) (h : Vw.ViewAt w B val v) (hdi : Vw.IntsAt w B DA dims) (hp : Vw.IntsAt w B P p)
    (md : dims.length ≤ cdi) (md2 : cdi ≤ 9223372036854775807) (mp : p.length ≤ cp) (mp2 : cp ≤ 9223372036854775807) :
    Calls Try.prog 46 #[val, .slice DA dims.length cdi, .slice P p.length cp] w fun e w' => Vw.ViewOut B w w' (AdjV.spread v dims p) e ∧ Below w.heap.size w w' := by
 have HW := Lib.hid (fun (W : World) (hb : Below w.heap.size w W) => refWrong_any val v B W (Nat.le_trans hB hb.size) (h.below (hb.mono hB)))
 have HDI := Lib.hid hdi
 have HP := Lib.hid hp
 have HZ := Lib.hid (fun (W : World) (hb : Below w.heap.size w W) => refSize_any DA cdi dims B W (by omega) (hdi.below (hb.mono hB)))
 obtain ⟨A, c, A', c', rfl, hd, hs, c1, c2, c3, c4⟩ := h
 have HD := Lib.hid hd
 have HS := Lib.hid hs
 have HB := Lib.hid ((((Below.refl w.heap.size w).alloc (Nat.le_refl _) (.cells #[.int .i64 v.st, .slice A v.dims.length c, .slice A' v.steps.length c'] 68))).alloc (by simp) (.cells #[.int .i64 0, .slice none 0 0, .slice none 0 0] 68))
 clear hd hs hp hdi
 by_cases h0 : AdjV.wrong v = 0
 rotate_left
 ·have HT := Lib.hid (AdjV.spread_wrong (dims := dims) (l := p) h0)
  have hq : (AdjV.wrong v != 0) = true := by simpa using h0
  clear h0
  go_enter Try.func46, Try.ntmps46
  go_wp2_with fail
  refine (HW.out _ HB.out).mono ?_
  rintro e w1 ⟨rfl, hb1⟩
  obtain ⟨hc, hf⟩ := bcell hb1
  have hz : w.heap.size + 1 < w1.heap.size := by have := hb1.size; simp at this; omega
  go_wp2_with fail
  refine bodyPost_ret (v := .tuple #[.agg #[.int .i64 0, .slice none 0 0, .slice none 0 0], .int .i64 (AdjV.wrong v)]) (by simp [results, Try.results46, go_sem, hc]) rfl ⟨?_, Vw.three (HB.out.trans (hb1.mono HB.out.size)) (Nat.le_succ _) _ _ _⟩
  rw [HT.out]; exact Vw.out_none _ _ _ _
 have H0 := Lib.hid h0
 obtain ⟨z1, z2, z3, z4⟩ := AdjV.wrong_fine h0
 have hn6 : v.dims.length ≤ 6 := (AdjV.size_fine z1).1
 have HLS := Lib.hid z2
 clear h0 z1 z2 z4
 go_enter Try.func46, Try.ntmps46
 go_wp2_with fail
 refine (HW.out _ HB.out).mono ?_
 rintro e w1 ⟨rfl, hb1⟩
 rw [H0.out]
 have hx := ((Blk.new w 68 #[.int .i64 v.st, .slice A v.dims.length c, .slice A' v.steps.length c']).alloc (.cells #[.int .i64 0, .slice none 0 0, .slice none 0 0] 68)).below hb1 (by simp; omega)
 have hr := (Vw.blk2 w (.cells #[.int .i64 v.st, .slice A v.dims.length c, .slice A' v.steps.length c'] 68) 68 #[.int .i64 0, .slice none 0 0, .slice none 0 0]).below hb1 (by simp)
 have HX := Lib.hid hx
 have HR := Lib.hid hr
 have HB1 := Lib.hid (HB.out.trans (hb1.mono HB.out.size))
 have hz : w.heap.size + 1 < w1.heap.size := by have := hb1.size; simp at this; omega
 have x0 : w1.cell? ⟨w.heap.size, 0, none⟩ = some (.int .i64 v.st) := hx.cell 0
 have x1 : w1.cell? ⟨w.heap.size, 1, none⟩ = some (.slice A v.dims.length c) := hx.cell 1
 have x2 : w1.cell? ⟨w.heap.size, 2, none⟩ = some (.slice A' v.steps.length c') := hx.cell 2
 have r0 : w1.cell? ⟨w.heap.size + 1, 0, none⟩ = some (.int .i64 0) := hr.cell 0
 have r1 : w1.cell? ⟨w.heap.size + 1, 1, none⟩ = some (.slice none 0 0) := hr.cell 1
 have r2 : w1.cell? ⟨w.heap.size + 1, 2, none⟩ = some (.slice none 0 0) := hr.cell 2
 have f0 := hr.frozen 0
 have f1 := hr.frozen 1
 have f2 := hr.frozen 2
 clear hb1 hx hr
 go_wp2_with fail
 refine (HZ.out _ HB1.out).mono ?_
 rintro e w2 ⟨rfl, rfl⟩
 by_cases hs0 : (AdjV.size dims).2 = 0
 rotate_left
 ·have HT := Lib.hid (AdjV.spread_size (l := p) H0.out hs0)
  have hq : ((AdjV.size dims).2 != 0) = true := by simpa using hs0
  simp only [Vw.sizeR]
  clear hs0
  go_wp2_with fail
  refine bodyPost_ret (v := .tuple #[.agg #[.int .i64 0, .slice none 0 0, .slice none 0 0], .int .i64 ((AdjV.size dims).2)]) (by simp [results, Try.results46, go_sem, r0, r1, r2]) rfl ⟨?_, Vw.three HB1.out (Nat.le_succ _) _ _ _⟩
  rw [HT.out]; exact Vw.out_none _ _ _ _
 have HS0 := Lib.hid hs0
 have hd6 : dims.length ≤ 6 := (AdjV.size_fine hs0).1
 have hd16 : dims.length ≤ 65536 := by omega
 simp only [Vw.sizeR, hs0]
 have HMKI := Lib.hid (fun W => run_make_int dims.length hd16 W)
 have HRC := Lib.hid (Rising_any P cp p dims.length B w1 (by omega) (by omega) (HP.out.below (HB1.out.mono hB)))
 clear hs0
 by_cases hl : p.length = v.dims.length
 rotate_left
 ·have HT := Lib.hid (AdjV.spread_shape H0.out HS0.out (.inl hl))
  have hq1 : ((p.length : Int) != (v.dims.length : Int)) = true := by simp; omega
  clear hl
  go_wp2_with fail
  refine bodyPost_ret (v := .tuple #[.agg #[.int .i64 0, .slice none 0 0, .slice none 0 0], .int .i64 6]) (by simp [results, Try.results46, go_sem, r0, r1, r2]) rfl ⟨?_, Vw.three HB1.out (Nat.le_succ _) _ _ _⟩
  rw [HT.out]; exact Vw.out_none _ _ _ _
 have hq1 : ((p.length : Int) != (v.dims.length : Int)) = false := by simp; omega
 have HL := Lib.hid hl
 clear hl
 by_cases hri : AdjV.riseB dims.length p = true
 rotate_left
 ·have HT := Lib.hid (AdjV.spread_shape H0.out HS0.out (.inr (by simpa using hri)))
  have HRI := Lib.hid (show AdjV.riseB dims.length p = false by simpa using hri)
  clear hri
  go_wp2_with fail
  refine HRC.out.mono ?_
  rintro e w2 ⟨rfl, rfl⟩
  rw [HRI.out]
  go_wp2_with fail
  refine bodyPost_ret (v := .tuple #[.agg #[.int .i64 0, .slice none 0 0, .slice none 0 0], .int .i64 6]) (by simp [results, Try.results46, go_sem, r0, r1, r2]) rfl ⟨?_, Vw.three HB1.out (Nat.le_succ _) _ _ _⟩
  rw [HT.out]; exact Vw.out_none _ _ _ _
 have HRI := Lib.hid hri
 clear hri
 go_wp2_with fail
 refine HRC.out.mono ?_
 rintro e w2 ⟨rfl, rfl⟩
 rw [HRI.out]
 clear r0 r1 r2 f0 f1 f2
 go_wp2_with fail
 have hmk := HMKI.out
 go_cut [11] (fun s11 wx => ∃ (bw : Nat) (A1 : Option Addr) (k1 : Nat) (v2 : Value), s11 = .pointer (some ⟨bw, 0, none⟩) ∧ Vw.Fs B w1.heap.size bw w1 v.st A1 k1 v2 dims (List.replicate dims.length 0) wx)
 case first =>
  refine wp_region_T (fun w' => w'.cell? ⟨w.heap.size, 0, none⟩ = some (.int .i64 v.st)) 8 (fun _ => True) 8 9 rfl (by kernel_rfl) ⟨x0, trivial⟩ (fun hHeld => ?_)
  simp only [List.replicate_succ, List.replicate_zero]
  refine tk (v := ?_) [] 0 43 hHeld ?_ ?_; rotate_left; (intro w h; (try dsimp only at h); go_simp; try with_reducible rfl); try simp only [Act.put, zA, zB, zC]
  refine tk (v := ?_) [] 1 44 hHeld ?_ ?_; rotate_left; (intro w h; (try dsimp only at h); go_simp; try with_reducible rfl); try simp only [Act.put, zA, zB, zC]
  refine tk (v := ?_) [] 2 45 hHeld ?_ ?_; rotate_left; (intro w h; (try dsimp only at h); go_simp; try with_reducible rfl); try simp only [Act.put, zA, zB, zC]
  refine tk (v := ?_) [] 3 46 hHeld ?_ ?_; rotate_left; (intro w h; (try dsimp only at h); go_simp; try with_reducible rfl); try simp only [Act.put, zA, zB, zC]
  refine tk (v := ?_) [] 4 47 hHeld ?_ ?_; rotate_left; (intro w h; (try dsimp only at h); go_simp; try with_reducible rfl); try simp only [Act.put, zA, zB, zC]
  have HA0 := Lib.hid (Vw.Acc.start w1)
  have HDW := Lib.hid (HDI.out.below (HB1.out.mono hB))
  generalize w1.drew = W0 at HA0 hHeld ⊢
  refine wpT_two 5 7 (by kernel_rfl) (stepT_early rfl rfl (fun K hK => ?_)) (stepT_early rfl rfl (fun K hK => ?_))
  ·go_simp
   have HA1 := Lib.hid (HA0.out.make dims.length hd16)
   refine hK.out _ _ ?_ (fun hHeld2 => ?_)
   ·exact ⟨(HA1.out.below.cell (p := ⟨w.heap.size, 0, none⟩) (by simp; omega)).trans x0, trivial⟩
   clear hK K hHeld
   have hHeld := hHeld2
   clear hHeld2
   try simp only [zA, zB, zC]
   generalize W0.alloc (.cells (ints (List.replicate dims.length 0)).toArray 3) = W1 at HA1 hHeld ⊢
   refine tp (v := ?_) 6 49 ⟨fun _ => hHeld.1, fun _ => hHeld.2⟩ ?_ ?_; rotate_left; (intro w; go_simp; try with_reducible rfl); try simp only [Act.put, zA, zB, zC]
   refine wpT_one 7 (by kernel_rfl) (stepT_early rfl rfl (fun K hK => ?_))
   go_simp
   have HA3 := Lib.hid HA1.out.stepB
   refine hK.out _ _ ?_ (fun hHeld2 => ?_)
   ·exact ⟨(HA3.out.below.cell (p := ⟨w.heap.size, 0, none⟩) (by simp; omega)).trans x0, trivial⟩
   clear hK K hHeld
   have hHeld := hHeld2
   clear hHeld2
   try simp only [zA, zB, zC]
   generalize W1.alloc (.cells #[.int .i64 0, .slice none 0 0, .slice none 0 0] 68) = W3 at HA3 hHeld ⊢
   refine wpT_tail [_] 8 [] rfl (by kernel_rfl) ?_
   have HBK := Lib.hid (HA3.out.fb _ rfl)
   have q0 := HBK.out.2.cell 0
   have q1 := HBK.out.2.cell 1
   have q2 := HBK.out.2.cell 2
   have fq0 := HBK.out.2.frozen 0
   have fq1 := HBK.out.2.frozen 1
   have fq2 := HBK.out.2.frozen 2
   have hblt := HBK.out.2.lt
   have HF := Lib.hid (HA3.out.fs' v.st HDW.out (by omega) md md2)
   clear hHeld
   go_wp2_with fail
   go_meet
   exact ⟨_, _, _, _, rfl, HF.out⟩
  ·go_simp
   have HA1 := Lib.hid HA0.out.stepB
   refine hK.out _ _ ?_ (fun hHeld2 => ?_)
   ·exact ⟨(HA1.out.below.cell (p := ⟨w.heap.size, 0, none⟩) (by simp; omega)).trans x0, trivial⟩
   clear hK K hHeld
   have hHeld := hHeld2
   clear hHeld2
   try simp only [zA, zB, zC]
   generalize W0.alloc (.cells #[.int .i64 0, .slice none 0 0, .slice none 0 0] 68) = W1 at HA1 hHeld ⊢
   refine wpT_one 5 (by kernel_rfl) (stepT_early rfl rfl (fun K hK => ?_))
   go_simp
   have HA3 := Lib.hid (HA1.out.make dims.length hd16)
   refine hK.out _ _ ?_ (fun hHeld2 => ?_)
   ·exact ⟨(HA3.out.below.cell (p := ⟨w.heap.size, 0, none⟩) (by simp; omega)).trans x0, trivial⟩
   clear hK K hHeld
   have hHeld := hHeld2
   clear hHeld2
   try simp only [zA, zB, zC]
   generalize W1.alloc (.cells (ints (List.replicate dims.length 0)).toArray 3) = W3 at HA3 hHeld ⊢
   refine tp (v := ?_) 6 49 ⟨fun _ => hHeld.1, fun _ => hHeld.2⟩ ?_ ?_; rotate_left; (intro w; go_simp; try with_reducible rfl); try simp only [Act.put, zA, zB, zC]
   refine wpT_tail [_] 8 [] rfl (by kernel_rfl) ?_
   have HBK := Lib.hid (HA3.out.fb _ rfl)
   have q0 := HBK.out.2.cell 0
   have q1 := HBK.out.2.cell 1
   have q2 := HBK.out.2.cell 2
   have fq0 := HBK.out.2.frozen 0
   have fq1 := HBK.out.2.frozen 1
   have fq2 := HBK.out.2.frozen 2
   have hblt := HBK.out.2.lt
   have HF := Lib.hid (HA3.out.fs' v.st HDW.out (by omega) md md2)
   clear hHeld
   go_wp2_with fail
   go_meet
   exact ⟨_, _, _, _, rfl, HF.out⟩
 case rest =>
  obtain ⟨bw, A1, k1, v2, rfl, hfs⟩ := hcut
  have HF0 := Lib.hid hfs
  clear hfs HRC hmk x0
  go_wp2_with fail
  go_loopw [12, 13, 52] (fun _ _ i wr => ∃ (k : Nat), k ≤ p.length ∧ i = .int .i64 (k : Int) ∧ (∀ j (hj : j < p.length), j < k → dims.getD (p[j]).toNat 0 = v.dims.getD j 0) ∧
      Vw.Fs B w1.heap.size bw w1 v.st A1 k1 v2 dims (AdjV.spSteps v dims p k) wr) (fun _ _ i _ => p.length + 1 - (intOf i).toNat)
  case atStart => exact ⟨0, by omega, rfl, fun j _ h => by omega, HF0.out⟩
  case round =>
   obtain ⟨k, hk, rfl, hok, hfs⟩ := hrel
   obtain ⟨wo, rfl⟩ : ∃ wo : World, wo = wr := ⟨_, rfl⟩
   have HBO := Lib.hid hfs.below
   have HBF := Lib.hid (HB1.out.trans (HBO.out.mono HB1.out.size))
   have HOK := Lib.hid hok
   have hsz : bw < wo.heap.size := hfs.blk.lt
   have hlow : w1.heap.size ≤ bw := hfs.low
   have hrb := HR.out.below HBO.out (by omega)
   by_cases hlt : k < p.length
   ·have hkd : k < v.dims.length := by have := HL.out; omega
    have hks : k < v.steps.length := by have := HLS.out; omega
    obtain ⟨pb, poff, rfl, hpb, hpc⟩ := HP.out (by omega)
    have hpk := (HBF.out.cell (p := ⟨pb, poff + k, none⟩) (by simp; omega)).trans (hpc k hlt)
    have hri2 := AdjV.riseB_true HRI.out
    have hx0 := AdjV.rise_pos hri2 k hlt
    have hxn := (hri2 k hlt).2
    obtain ⟨q, hq⟩ : ∃ q : Nat, p[k] = (q : Int) := ⟨p[k].toNat, by omega⟩
    have HQ := Lib.hid hq
    have hqd : q < dims.length := by omega
    have HNX := Lib.hid (AdjV.spSteps_next (dims := dims) hlt hks hq)
    have HBAD := Lib.hid (AdjV.spOK_bad hlt hkd hq hqd)
    rw [hq] at hpk
    obtain ⟨b, off, rfl, hb, hc⟩ := HD.out (by omega)
    obtain ⟨b', off', rfl, hb', hc'⟩ := HS.out (by omega)
    obtain ⟨db, doff, rfl, hdb, hdc⟩ := HDI.out (by omega)
    have hd1 := (HBF.out.cell (p := ⟨b, off + k, none⟩) (by simp; omega)).trans (hc k hkd)
    have hs1 := (HBF.out.cell (p := ⟨b', off' + k, none⟩) (by simp; omega)).trans (hc' k hks)
    have hn1 := (HBF.out.cell (p := ⟨db, doff + q, none⟩) (by simp; omega)).trans (hdc q hqd)
    have y1 := (HBO.out.cell (p := ⟨w.heap.size, 1, none⟩) (by simp; omega)).trans x1
    have y2 := (HBO.out.cell (p := ⟨w.heap.size, 2, none⟩) (by simp; omega)).trans x2
    have hln := AdjV.spSteps_length v dims p k
    obtain ⟨g2, m2, hv2, _, _⟩ := hfs.own2.form (by omega)
    subst hv2
    have HF := Lib.hid hfs
    have HLN := Lib.hid hln
    have HNOW := Lib.hid (fun (h : dims[q] = v.dims[k]) => show ∀ j (hj : j < p.length), j < k + 1 → dims.getD (p[j]).toNat 0 = v.dims.getD j 0 from fun j hj h2 => by
     by_cases e : j < k
     ·exact HOK.out j hj e
     ·obtain rfl : j = k := by omega
      rw [HQ.out, Int.toNat_natCast, AdjV.getD_at dims q hqd, AdjV.getD_at v.dims j hkd]
      exact h)
    clear hc hc' hdc hpc hri2 hx0 hxn hq hok hfs hln
    generalize v.dims[k] = d at hd1 HBAD HNOW
    generalize v.steps[k] = s at hs1 HNX
    generalize dims[q] = dn at hn1 HBAD HNOW
    have i1 : (0 : Int) ≤ (k : Int) := by omega
    have i2 : (k : Int) < (p.length : Int) := by omega
    have i3 : (0 : Int) ≤ (q : Int) := by omega
    have i4 : (q : Int) < (dims.length : Int) := by omega
    have i5 : (k : Int) < (v.dims.length : Int) := by omega
    have i6 : (k : Int) < (v.steps.length : Int) := by omega
    by_cases hne : dn = d
    ·have HE := Lib.hid (HNOW.out hne)
     have gq : (dn != d) = false := by simpa using hne
     clear hne hrb
     go_wp2_with fail
     go_quiet (fail)
     go_wp2_with fail
     have HG := Lib.hid (HF.out.drewN nq)
     have b2 : (wo.drewN nq).cell? ⟨bw, 2, none⟩ = some (.slice (some ⟨g2, 0, none⟩) dims.length m2) := by rw [← HLN.out]; exact HG.out.blk.cell 2
     have fq := HG.out.own2.frozenAt q
     have dq := HG.out.own2.cellAt q (by rw [HLN.out]; omega)
     rw [ints_at _ q (by rw [HLN.out]; omega)] at dq
     generalize (AdjV.spSteps v dims p k)[q]'(by rw [HLN.out]; omega) = zq at dq
     have t1 : (wo.drewN nq).cell? ⟨w.heap.size, 2, none⟩ = some (.slice (some ⟨b', off', none⟩) v.steps.length c') := y2
     have t2 : (wo.drewN nq).cell? ⟨b', off' + k, none⟩ = some (.int .i64 s) := hs1
     generalize wo.drewN nq = W2 at HG b2 fq dq t1 t2 ⊢
     clear hd1 hs1 hn1 y1 y2 hpk HF
     refine wp_region_T (fun w' => w'.cell? ⟨bw, 2, none⟩ = some (.slice (some ⟨g2, 0, none⟩) dims.length m2) ∧ w'.cell? ⟨w.heap.size, 2, none⟩ = some (.slice (some ⟨b', off', none⟩) v.steps.length c') ∧ w'.cell? ⟨b', off' + k, none⟩ = some (.int .i64 s)) 8 (fun _ => True) 8 10 rfl (by kernel_rfl) ⟨⟨b2, t1, t2⟩, trivial⟩ (fun hHeld => ?_)
     simp only [List.replicate_succ, List.replicate_zero]
     refine tk (v := ?_) [] 0 68 hHeld ?_ ?_; rotate_left; (intro w h; (try dsimp only at h); go_simp; try with_reducible rfl); try simp only [Act.put, zA, zB, zC]
     refine tk (v := ?_) [] 1 69 hHeld ?_ ?_; rotate_left; (intro w h; (try dsimp only at h); go_simp; try with_reducible rfl); try simp only [Act.put, zA, zB, zC]
     refine tk (v := ?_) [] 2 70 hHeld ?_ ?_; rotate_left; (intro w h; (try dsimp only at h); go_simp; try with_reducible rfl); try simp only [Act.put, zA, zB, zC]
     refine tk (v := ?_) [] 3 71 hHeld ?_ ?_; rotate_left; (intro w h; (try dsimp only at h); go_simp; try with_reducible rfl); try simp only [Act.put, zA, zB, zC]
     refine tk (v := ?_) [] 4 72 hHeld ?_ ?_; rotate_left; (intro w h; (try dsimp only at h); go_simp; try with_reducible rfl); try simp only [Act.put, zA, zB, zC]
     refine tk (v := ?_) [] 5 73 hHeld ?_ ?_; rotate_left; (intro w h; (try dsimp only at h); go_simp; try with_reducible rfl); try simp only [Act.put, zA, zB, zC]
     refine tk (v := ?_) [] 6 74 hHeld ?_ ?_; rotate_left; (intro w h; (try dsimp only at h); go_simp; try with_reducible rfl); try simp only [Act.put, zA, zB, zC]
     refine tk (v := ?_) [] 7 75 hHeld ?_ ?_; rotate_left; (intro w h; (try dsimp only at h); go_simp; try with_reducible rfl); try simp only [Act.put, zA, zB, zC]
     refine wpT_tail [_, _] 8 [9] rfl (by kernel_rfl) ?_
     have HE2 := Lib.hid (HG.out.store2 q s).drew
     clear hHeld b2 t1 t2
     go_wp2_with fail
     have HE3 := Lib.hid (show Vw.Fs B w1.heap.size bw w1 v.st A1 k1 (.slice (some ⟨g2, 0, none⟩) (AdjV.spSteps v dims p k).length m2) dims (AdjV.spSteps v dims p (k + 1)) (W2.setCell ⟨g2, q, none⟩ (.int .i64 s)).drew by
      have h := HE2.out
      rw [HNX.out]
      rw [List.length_set] at h
      exact h)
     first
      | exact ⟨⟨k + 1, by omega, by go_num, HE.out, HE3.out⟩, by simp [intOf]; omega⟩
      | (go_roundw
         case rel => exact ⟨k + 1, by omega, by go_num, HE.out, HE3.out⟩
         case measure => simp [intOf]; omega)
    ·have HT := Lib.hid (AdjV.spread_bad H0.out HS0.out HL.out HRI.out (HBAD.out hne))
     have gq : (dn != d) = true := by simpa using hne
     have r0 : wo.cell? ⟨w.heap.size + 1, 0, none⟩ = some (.int .i64 0) := hrb.cell 0
     have r1 : wo.cell? ⟨w.heap.size + 1, 1, none⟩ = some (.slice none 0 0) := hrb.cell 1
     have r2 : wo.cell? ⟨w.heap.size + 1, 2, none⟩ = some (.slice none 0 0) := hrb.cell 2
     have f0 := hrb.frozen 0
     have f1 := hrb.frozen 1
     have f2 := hrb.frozen 2
     clear hne hrb
     go_wp2_with fail
     go_quiet (fail)
     go_wp2_with fail
     refine bodyPost_ret (v := .tuple #[.agg #[.int .i64 0, .slice none 0 0, .slice none 0 0], .int .i64 6]) (by simp [results, Try.results46, go_sem, r0, r1, r2]) rfl ⟨?_, Vw.three (below_drewN HBF.out nq) (Nat.le_succ _) _ _ _⟩
     rw [HT.out]; exact Vw.out_none _ _ _ _
   ·obtain rfl : k = p.length := by omega
    have HT := Lib.hid (AdjV.spread_ok H0.out HS0.out HL.out HRI.out (AdjV.spOK_of (fun j hj => HOK.out j hj hj)))
    obtain ⟨A2, n2, hv2, ia2, la2, ma2, ga2⟩ := Vw.own_view hfs.own2
    subst hv2
    have HF := Lib.hid hfs
    have HI2 := Lib.hid (And.intro ia2 (And.intro la2 (And.intro ma2 ga2)))
    have e0 : wo.cell? ⟨bw, 0, none⟩ = some (.int .i64 v.st) := hfs.blk.cell 0
    have e1 : wo.cell? ⟨bw, 1, none⟩ = some (.slice A1 dims.length k1) := hfs.blk.cell 1
    have e2 : wo.cell? ⟨bw, 2, none⟩ = some (.slice A2 (AdjV.spSteps v dims p p.length).length n2) := hfs.blk.cell 2
    have r0 : wo.cell? ⟨w.heap.size + 1, 0, none⟩ = some (.int .i64 0) := hrb.cell 0
    have r1 : wo.cell? ⟨w.heap.size + 1, 1, none⟩ = some (.slice none 0 0) := hrb.cell 1
    have r2 : wo.cell? ⟨w.heap.size + 1, 2, none⟩ = some (.slice none 0 0) := hrb.cell 2
    have f0 := hrb.frozen 0
    have f1 := hrb.frozen 1
    have f2 := hrb.frozen 2
    clear hrb hfs ia2 la2 ma2 ga2 hok
    go_wp2_with fail
    refine bodyPost_ret (v := .tuple #[.agg #[.int .i64 v.st, .slice A1 dims.length k1, .slice A2 (AdjV.spSteps v dims p p.length).length n2], .int .i64 0]) (by simp [results, Try.results46, go_sem, r0, r1, r2]) rfl ⟨?_, Vw.three HBF.out (Nat.le_succ _) _ _ _⟩
    rw [HT.out]
    refine Vw.out_mk ⟨A1, k1, A2, n2, rfl, ?_, ?_, HF.out.l1, HF.out.l2, HI2.out.2.1, HI2.out.2.2.1⟩ ?_ ?_
    ·exact (HF.out.i1.set3 (fun b off e hp => by have := (HF.out.g1 b off e hp).1; omega) _ _ _).up (by simp)
    ·exact (HI2.out.1.set3 (fun b off e hp => by have := HI2.out.2.2.2 b off e hp; omega) _ _ _).up (by simp)
    ·exact fun b off e hp => by have := (HF.out.g1 b off e hp).1; omega
    ·exact fun b off e hp => by have := HI2.out.2.2.2 b off e hp; omega
end Go.Proofs.Ytapedmpbkffopaa
end
