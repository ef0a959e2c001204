/-
  The walk of the program's Turn; Flip, in plain Lean. Conditions: where the theorems name them.
-/
import Derived.Test.YtapedmpbkffopaaZ02
import Derived.Test.YtapedmpbkffopaaZ03
section
namespace Go.Proofs.Ytapedmpbkffopaa
set_option linter.unusedVariables false
open Go.RowKit Adj
attribute [local go_sem ↓] Go.wp_at_zero Go.wp_at_succ
namespace Vw
def bools (l : List Bool) : List Value := l.map .bool
theorem bools_set (l : List Bool) (j : Nat) (x : Bool) : (bools l).toArray.setIfInBounds j (.bool x) = (bools (l.set j x)).toArray := by
 unfold bools; simp [List.map_set]
theorem bools_at (l : List Bool) (j : Nat) (h : j < l.length) : (bools l).toArray[j]? = some (.bool l[j]) := by unfold bools; simp [h]
def seen (n : Nat) (p : List Int) : List Bool := (List.range n).map fun k : Nat => decide ((k : Int) ∈ p)
theorem seen_length (n : Nat) (p : List Int) : (seen n p).length = n := by simp [seen]
theorem seen_at (n : Nat) (p : List Int) (k : Nat) (h : k < n) : (seen n p)[k]'(by rw [seen_length]; exact h) = decide ((k : Int) ∈ p) := by simp [seen]
theorem seen_nil (n : Nat) : seen n [] = List.replicate n false := by
 apply List.ext_getElem
 ·simp [seen]
 ·intro i h1 h2; simp [seen]
theorem seen_set (n : Nat) (p : List Int) (k : Nat) (h : k < n) : (seen n p).set k true = seen n (p ++ [(k : Int)]) := by
 apply List.ext_getElem
 ·simp [seen]
 ·intro i h1 h2
  rw [List.getElem_set]
  simp only [seen, List.getElem_map, List.getElem_range, List.mem_append, List.mem_singleton]
  by_cases e : k = i
  ·subst e; simp
  ·have : ¬ (i : Int) = (k : Int) := by omega
   simp [e, this]
theorem blkn (W : World) (n : Nat) (h : W.heap.size = n) (t : TypeId) (cs : Array Value) : Blk (W.alloc (.cells cs t)) n t cs := by subst h; exact Blk.new W t cs
theorem Two.far {N bw : Nat} {W0 W : World} {st : Int} {u1 u2 v1 v2 : Value} {xs ys : List Int} (h : Two N bw W0 st u1 u2 v1 v2 xs ys W) (c o : Nat) (h1 : N ≤ c) (h2 : c < bw) (x : Value) : Two N bw W0 st u1 u2 v1 v2 xs ys (W.setCell ⟨c, o, none⟩ x) :=
 ⟨h.blk.far (p := ⟨c, o, none⟩) (by simp; omega) x, h.own1.kept (grownBy_set W c o x) (.inr (own_ne h.own1 (by omega))), h.own2.kept (grownBy_set W c o x) (.inr (own_ne h.own2 (by omega))), h.apart, h.below.setCell (p := ⟨c, o, none⟩) h1 x, h.low⟩
theorem Two.start2 (W1 : World) (o : Obj) (st : Int) : Two W1.heap.size (W1.heap.size + 1) W1 st (.slice none 0 0) (.slice none 0 0) (.slice none 0 0) (.slice none 0 0) [] [] ((W1.alloc o).alloc (.cells #[.int .i64 st, .slice none 0 0, .slice none 0 0] 68)) :=
 ⟨blk2 W1 o _ _, World.ownsRow_nil _ _ _ _, World.ownsRow_nil _ _ _ _, fun b h => by simp [Value.ownBlock] at h, ((Below.refl _ _).alloc (Nat.le_refl _) _).alloc (by simp) _, Nat.le_succ _⟩
theorem nodup_snoc {p : List Int} {x : Int} (h : p.Nodup) (hx : x ∉ p) : (p ++ [x]).Nodup := by
 rw [List.nodup_append]
 refine ⟨h, by simp, fun a ha b hb e => ?_⟩
 rw [List.mem_singleton.1 hb] at e
 exact hx (e ▸ ha)
end Vw
theorem Try.infoOf4 : (Try.prog.info? 4).map (fun i => (i.zero, i.size, i.bytes)) = some (some (.bool false), 1, 1) := by kernel_rfl
theorem made_false (c : Nat) : madeCells (Value.bool false).cells c = (Vw.bools (List.replicate c false)).toArray := by
 apply Array.ext
 ·simp [size_madeCells, Vw.bools]
 ·intro i h1 h2
  simp [madeCells, Vw.bools, Value.cells, Nat.mod_one]
theorem run_make_bool (c : Nat) (h : c ≤ 65536) (w : World) :
    (Instr.makeSlice 85 (.int .i64 (c : Int)) (.int .i64 (c : Int))).run Try.prog w = .ok (.slice (some ⟨w.heap.size, 0, none⟩) c c) (w.alloc (.cells (Vw.bools (List.replicate c false)).toArray 4)) := by
 rw [← made_false]
 obtain ⟨i0, hi, hz0, hz1, hz2⟩ := info_parts Try.infoOf4
 have hb : (i0.bytes : Int) * (c : Int) ≤ 281474976710656 := by rw [hz2]; omega
 have hr := run_make (P := Try.prog) w 85 4 i0 _ Try.underlying85 hi hz0 .i64 .i64 c c (by omega) (by omega) hb (by omega)
 simp only [Int.toNat_natCast, hz1, Nat.mul_one] at hr
 exact hr
set_option maxRecDepth 100000 in
set_option maxHeartbeats 8000000 in
theorem Turn_any (val : Value) (v : AdjV.V) (P : Option Addr) (cp : Nat) (p : List Int) (B : Nat) (w : World) (hB : B ≤ w.heap.size) (h : Vw.ViewAt w B val v) (hp : Vw.IntsAt w B P p) (hp1 : p.length ≤ cp) (hp2 : cp ≤ 9223372036854775807) :
    Calls Try.prog 59 #[val, .slice P p.length cp] w fun e w' => Vw.ViewOut 0 w w' (AdjV.turn v p) e ∧ Below w.heap.size w w' := by
 have HW := Lib.hid (fun (W : World) (hb : Below w.heap.size w W) => Wrong_any val v B W (Nat.le_trans hB hb.size) (h.below (hb.mono hB)))
 have HP := Lib.hid hp
 obtain ⟨A, c, A', c', rfl, hd, hs, c1, c2, c3, c4⟩ := h
 have HD := Lib.hid hd
 have HS := Lib.hid hs
 have HB := Lib.hid ((((Below.refl w.heap.size w).alloc (Nat.le_refl _) (.cells #[.int .i64 v.st, .slice A v.dims.length c, .slice A' v.steps.length c'] 68))).alloc (by simp) (.cells #[.int .i64 0, .slice none 0 0, .slice none 0 0] 68))
 clear hd hs hp
 by_cases h0 : AdjV.wrong v = 0
 ·have H0 := Lib.hid h0
  obtain ⟨z1, z2, z3, z4⟩ := AdjV.wrong_fine h0
  have hn6 : v.dims.length ≤ 6 := (AdjV.size_fine z1).1
  have HLS := Lib.hid z2
  have hmk := fun W => run_make_bool v.dims.length (by omega) W
  clear h0 z1 z2 z4
  go_enter Try.func59, Try.ntmps59
  go_wp2_with fail
  refine (HW.out _ HB.out).mono ?_
  rintro e w1 ⟨rfl, hb1⟩
  rw [H0.out]
  have hx := ((Blk.new w 68 #[.int .i64 v.st, .slice A v.dims.length c, .slice A' v.steps.length c']).alloc (.cells #[.int .i64 0, .slice none 0 0, .slice none 0 0] 68)).below hb1 (by simp; omega)
  have hr := (Vw.blk2 w (.cells #[.int .i64 v.st, .slice A v.dims.length c, .slice A' v.steps.length c'] 68) 68 #[.int .i64 0, .slice none 0 0, .slice none 0 0]).below hb1 (by simp)
  have HX := Lib.hid hx
  have HR := Lib.hid hr
  have HB1 := Lib.hid (HB.out.trans (hb1.mono HB.out.size))
  have hz : w.heap.size + 1 < w1.heap.size := by have := hb1.size; simp at this; omega
  have x1 : w1.cell? ⟨w.heap.size, 1, none⟩ = some (.slice A v.dims.length c) := hx.cell 1
  have x2 : w1.cell? ⟨w.heap.size, 2, none⟩ = some (.slice A' v.steps.length c') := hx.cell 2
  have x0 : ∀ o, (w1.alloc o).cell? ⟨w.heap.size, 0, none⟩ = some (.int .i64 v.st) := fun o => (HX.out.alloc o).cell 0
  obtain ⟨i0, hi, hz0, hz1, hz2⟩ := info_parts Try.infoOf3
  clear hb1 hx hr
  go_wp2_with fail
  go_loopw [10, 26] (fun _ i wr => ∃ (k : Nat) (v1 v2 : Value), k ≤ p.length ∧ i = .int .i64 (k : Int) ∧ (∀ x ∈ p.take k, 0 ≤ x ∧ x < (v.dims.length : Int)) ∧ (p.take k).Nodup ∧ Vw.Two w1.heap.size (w1.heap.size + 1) w1 v.st v1 v2 v1 v2 ((p.take k).map (AdjV.pick v.dims)) ((p.take k).map (AdjV.pick v.steps)) wr ∧
      Blk wr w1.heap.size 4 (Vw.bools (Vw.seen v.dims.length (p.take k))).toArray) (fun _ i _ => p.length + 1 - (intOf i).toNat)
  case atStart =>
   refine ⟨0, _, _, by omega, rfl, by simp, by simp, Vw.Two.start2 w1 _ v.st, ?_⟩
   rw [List.take_zero, Vw.seen_nil]
   exact (Blk.new w1 _ _).alloc _
  case round =>
   obtain ⟨k, v1, v2, hk, rfl, hrng, hnd, htwo, hseen⟩ := hrel
   obtain ⟨wo, rfl⟩ : ∃ wo : World, wo = wr := ⟨_, rfl⟩
   have HT := Lib.hid htwo
   have HBO := Lib.hid htwo.below
   have HSN := Lib.hid hseen
   have HRNG := Lib.hid hrng
   have HND := Lib.hid hnd
   have hsz : w1.heap.size + 1 < wo.heap.size := htwo.blk.lt
   have hrb := HR.out.below HBO.out (by omega)
   have r0 : wo.cell? ⟨w.heap.size + 1, 0, none⟩ = some (.int .i64 0) := hrb.cell 0
   have r1 : wo.cell? ⟨w.heap.size + 1, 1, none⟩ = some (.slice none 0 0) := hrb.cell 1
   have r2 : wo.cell? ⟨w.heap.size + 1, 2, none⟩ = some (.slice none 0 0) := hrb.cell 2
   have f0 := hrb.frozen 0
   have f1 := hrb.frozen 1
   have f2 := hrb.frozen 2
   have HBF := Lib.hid (fun x y z => Vw.three (HB1.out.trans (HBO.out.mono HB1.out.size)) (Nat.le_succ w.heap.size) x y z)
   clear hrb hrng hnd hseen
   by_cases hlt : k < p.length
   ·obtain ⟨pb, poff, rfl, hpb, hpc⟩ := HP.out (by omega)
    have hpk := (HBO.out.cell (p := ⟨pb, poff + k, none⟩) (by simp; omega)).trans ((HB1.out.cell (p := ⟨pb, poff + k, none⟩) (by simp; omega)).trans (hpc k hlt))
    have HM1 := Lib.hid (AdjV.map_take_next (AdjV.pick v.dims) p k hlt)
    have HM2 := Lib.hid (AdjV.map_take_next (AdjV.pick v.steps) p k hlt)
    have HTK := Lib.hid (AdjV.take_next p k hlt)
    have HOUT := Lib.hid (AdjV.permOK_out (n := v.dims.length) hlt)
    have HTWI := Lib.hid (AdjV.permOK_twice (n := v.dims.length) hlt)
    have hlk : ((p.take k).map (AdjV.pick v.dims)).length = k := by simp; omega
    have hlk2 : ((p.take k).map (AdjV.pick v.steps)).length = k := by simp; omega
    have i1 : (0 : Int) ≤ (k : Int) := by omega
    have i2 : (k : Int) < (p.length : Int) := by omega
    clear hpc
    generalize p[k] = x at hpk HM1 HM2 HTK HOUT HTWI
    by_cases hx0 : x < 0
    ·have HTB := Lib.hid (AdjV.turn_bad H0.out (HOUT.out (.inl hx0)))
     clear htwo hlk hlk2
     go_wp2_with fail
     refine bodyPost_ret (v := .tuple #[.agg #[.int .i64 0, .slice none 0 0, .slice none 0 0], .int .i64 6]) (by simp [results, Try.results59, go_sem, r0, r1, r2]) rfl ⟨?_, HBF.out _ _ _⟩
     rw [HTB.out]; exact Vw.out_none _ _ _ _
    by_cases hxn : (v.dims.length : Int) ≤ x
    ·have HTB := Lib.hid (AdjV.turn_bad H0.out (HOUT.out (.inr hxn)))
     clear htwo hlk hlk2
     go_wp2_with fail
     refine bodyPost_ret (v := .tuple #[.agg #[.int .i64 0, .slice none 0 0, .slice none 0 0], .int .i64 6]) (by simp [results, Try.results59, go_sem, r0, r1, r2]) rfl ⟨?_, HBF.out _ _ _⟩
     rw [HTB.out]; exact Vw.out_none _ _ _ _
    obtain ⟨q, rfl⟩ : ∃ q : Nat, x = (q : Int) := ⟨x.toNat, by omega⟩
    have hq2 : q < v.dims.length := by omega
    have hq3 : q < v.steps.length := by have := HLS.out; omega
    have i3 : (0 : Int) ≤ (q : Int) := by omega
    have i4 : (q : Int) < (v.dims.length : Int) := by omega
    have i5 : (q : Int) < (v.steps.length : Int) := by omega
    have hsq : wo.cell? ⟨w1.heap.size, q, none⟩ = some (.bool (decide ((q : Int) ∈ p.take k))) := by
     rw [HSN.out.cell q, Vw.bools_at _ q (by rw [Vw.seen_length]; exact hq2), Vw.seen_at _ _ _ hq2]
    have fsq := HSN.out.frozen q
    by_cases hin : (q : Int) ∈ p.take k
    ·have HTB := Lib.hid (AdjV.turn_bad H0.out (HTWI.out hin))
     rw [decide_eq_true hin] at hsq
     clear htwo hlk hlk2 hin hx0 hxn
     go_wp2_with fail
     refine bodyPost_ret (v := .tuple #[.agg #[.int .i64 0, .slice none 0 0, .slice none 0 0], .int .i64 6]) (by simp [results, Try.results59, go_sem, r0, r1, r2]) rfl ⟨?_, HBF.out _ _ _⟩
     rw [HTB.out]; exact Vw.out_none _ _ _ _
    ·rw [decide_eq_false hin] at hsq
     have HIN := Lib.hid hin
     clear hin hx0 hxn
     obtain ⟨A1, n1, rfl, hn1⟩ := Vw.own_any htwo.own1
     obtain ⟨A2, n2, rfl, hn2⟩ := Vw.own_any htwo.own2
     obtain ⟨b, off, rfl, hb, hc⟩ := HD.out (by omega)
     obtain ⟨b', off', rfl, hb', hc'⟩ := HS.out (by omega)
     have hcq := hc q hq2
     have hcq' := hc' q hq3
     have HPK := Lib.hid (AdjV.pick_nat v.dims q hq2)
     have HPK' := Lib.hid (AdjV.pick_nat v.steps q hq3)
     clear hc hc'
     generalize v.dims[q] = d at hcq HPK
     generalize v.steps[q] = s at hcq' HPK'
     rw [HPK.out] at HM1
     rw [HPK'.out] at HM2
     have HNX := Lib.hid (show (∀ x ∈ p.take (k + 1), 0 ≤ x ∧ x < (v.dims.length : Int)) ∧ (p.take (k + 1)).Nodup by
      rw [HTK.out]
      refine ⟨fun x hx => ?_, Vw.nodup_snoc HND.out HIN.out⟩
      rcases List.mem_append.1 hx with h | h
      ·exact HRNG.out x h
      ·rw [List.mem_singleton.1 h]; exact ⟨i3, i4⟩)
     have HSE := Lib.hid ((Vw.bools_set (Vw.seen v.dims.length (p.take k)) q true).trans (by rw [Vw.seen_set _ _ _ hq2, ← HTK.out]))
     clear htwo
     generalize (p.take k).map (AdjV.pick v.dims) = xs at hlk HM1 HT
     generalize (p.take k).map (AdjV.pick v.steps) = ys at hlk2 HM2 HT
     have HL1 := Lib.hid hlk
     have HL2 := Lib.hid hlk2
     have hk6 : k ≤ p.length := by omega
     clear hlk hlk2
     go_wp2_with fail
     have HT1 := Lib.hid (HT.out.far w1.heap.size q (Nat.le_refl _) (by omega) (.bool true))
     have HSN1 := Lib.hid (show Blk (wo.setCell ⟨w1.heap.size, q, none⟩ (.bool true)) w1.heap.size 4 (Vw.bools (Vw.seen v.dims.length (p.take (k + 1)))).toArray by rw [← HSE.out]; exact HSN.out.set_ q _)
     generalize hW2 : wo.setCell ⟨w1.heap.size, q, none⟩ (.bool true) = W2 at HT1 HSN1 ⊢
     clear hW2 HT HSN HBO hsq fsq hsz r0 r1 r2 f0 f1 f2 HBF hpk
     have HBO := Lib.hid HT1.out.below
     have hsz : w1.heap.size + 1 < W2.heap.size := HT1.out.blk.lt
     have e1 : W2.cell? ⟨w1.heap.size + 1, 1, none⟩ = some (.slice A1 k n1) := by rw [← HL1.out]; exact HT1.out.blk.cell 1
     have e2 : W2.cell? ⟨w1.heap.size + 1, 2, none⟩ = some (.slice A2 k n2) := by rw [← HL2.out]; exact HT1.out.blk.cell 2
     have e3 : W2.cell? ⟨w.heap.size, 1, none⟩ = some (.slice (some ⟨b, off, none⟩) v.dims.length c) := (HBO.out.cell (p := ⟨w.heap.size, 1, none⟩) (by simp; omega)).trans x1
     have e4 : W2.cell? ⟨w.heap.size, 2, none⟩ = some (.slice (some ⟨b', off', none⟩) v.steps.length c') := (HBO.out.cell (p := ⟨w.heap.size, 2, none⟩) (by simp; omega)).trans x2
     have e5 : W2.cell? ⟨b, off + q, none⟩ = some (.int .i64 d) := (HBO.out.cell (p := ⟨b, off + q, none⟩) (by simp; omega)).trans ((HB1.out.cell (p := ⟨b, off + q, none⟩) (by simp; omega)).trans hcq)
     have e6 : W2.cell? ⟨b', off' + q, none⟩ = some (.int .i64 s) := (HBO.out.cell (p := ⟨b', off' + q, none⟩) (by simp; omega)).trans ((HB1.out.cell (p := ⟨b', off' + q, none⟩) (by simp; omega)).trans hcq')
     have hkl : k < 9 := by have := AdjV.nodup_le HND.out (fun x hx => AdjV.rangeZ_mem.2 (HRNG.out x hx)); rw [AdjV.rangeZ_length, List.length_take] at this; omega
     have HT2 := Lib.hid HT1.out.drew
     have HSN2 := Lib.hid HSN1.out.drew
     clear hcq hcq' x0 x1 x2
     refine wp_region_T (fun w' => w'.cell? ⟨w1.heap.size + 1, 1, none⟩ = some (.slice A1 k n1) ∧ w'.cell? ⟨w1.heap.size + 1, 2, none⟩ = some (.slice A2 k n2)) 19 (fun w' => w'.cell? ⟨w.heap.size, 1, none⟩ = some (.slice (some ⟨b, off, none⟩) v.dims.length c) ∧ w'.cell? ⟨w.heap.size, 2, none⟩ = some (.slice (some ⟨b', off', none⟩) v.steps.length c') ∧ w'.cell? ⟨b, off + q, none⟩ = some (.int .i64 d) ∧ w'.cell? ⟨b', off' + q, none⟩ = some (.int .i64 s)) 21 22 rfl (by kernel_rfl) ⟨⟨e1, e2⟩, ⟨e3, e4, e5, e6⟩⟩ (fun hHeld => ?_)
     simp only [List.replicate_succ, List.replicate_zero]
     refine tp (v := ?_) 0 48 ⟨fun _ => hHeld.1, fun _ => hHeld.2⟩ ?_ ?_; rotate_left; (intro w; go_simp; try with_reducible rfl); try simp only [Act.put, zA, zB, zC]
     refine tk (v := ?_) [] 1 49 hHeld ?_ ?_; rotate_left; (intro w h; (try dsimp only at h); go_simp; try with_reducible rfl); try simp only [Act.put, zA, zB, zC]
     refine tp (v := ?_) 2 50 ⟨fun _ => hHeld.1, fun _ => hHeld.2⟩ ?_ ?_; rotate_left; (intro w; go_simp; try with_reducible rfl); try simp only [Act.put, zA, zB, zC]
     refine wpT_takeR 3 51 (v := ?_) ⟨fun _ => hHeld.1, fun _ => hHeld.2⟩ rfl rfl (by kernel_rfl) (fun _ _ _ h => h) rfl ?_ ?_
     rotate_left
     ·(intro w hSw; (try dsimp only at hSw); go_simp; try with_reducible rfl)
     try simp only [Act.put, zA, zB, zC]
     refine tp (v := ?_) 4 52 ⟨fun _ => hHeld.1, fun _ => hHeld.2⟩ ?_ ?_; rotate_left; (intro w; go_simp; try with_reducible rfl); try simp only [Act.put, zA, zB, zC]
     refine tp (v := ?_) 5 53 ⟨fun _ => hHeld.1, fun _ => hHeld.2⟩ ?_ ?_; rotate_left; (intro w; go_simp; try with_reducible rfl); try simp only [Act.put, zA, zB, zC]
     refine wpT_takeR 6 54 (v := ?_) ⟨fun _ => hHeld.1, fun _ => hHeld.2⟩ rfl rfl (by kernel_rfl) (fun _ _ _ h => h) rfl ?_ ?_
     rotate_left
     ·(intro w hSw; (try dsimp only at hSw); go_simp; try with_reducible rfl)
     try simp only [Act.put, zA, zB, zC]
     refine tp (v := ?_) 9 57 ⟨fun _ => hHeld.1, fun _ => hHeld.2⟩ ?_ ?_; rotate_left; (intro w; go_simp; try with_reducible rfl); try simp only [Act.put, zA, zB, zC]
     refine tk (v := ?_) [] 10 58 hHeld ?_ ?_; rotate_left; (intro w h; (try dsimp only at h); go_simp; try with_reducible rfl); try simp only [Act.put, zA, zB, zC]
     refine tp (v := ?_) 11 59 ⟨fun _ => hHeld.1, fun _ => hHeld.2⟩ ?_ ?_; rotate_left; (intro w; go_simp; try with_reducible rfl); try simp only [Act.put, zA, zB, zC]
     refine wpT_takeR 12 60 (v := ?_) ⟨fun _ => hHeld.1, fun _ => hHeld.2⟩ rfl rfl (by kernel_rfl) (fun _ _ _ h => h) rfl ?_ ?_
     rotate_left
     ·(intro w hSw; (try dsimp only at hSw); go_simp; try with_reducible rfl)
     try simp only [Act.put, zA, zB, zC]
     refine tp (v := ?_) 13 61 ⟨fun _ => hHeld.1, fun _ => hHeld.2⟩ ?_ ?_; rotate_left; (intro w; go_simp; try with_reducible rfl); try simp only [Act.put, zA, zB, zC]
     refine tp (v := ?_) 14 62 ⟨fun _ => hHeld.1, fun _ => hHeld.2⟩ ?_ ?_; rotate_left; (intro w; go_simp; try with_reducible rfl); try simp only [Act.put, zA, zB, zC]
     refine wpT_takeR 15 63 (v := ?_) ⟨fun _ => hHeld.1, fun _ => hHeld.2⟩ rfl rfl (by kernel_rfl) (fun _ _ _ h => h) rfl ?_ ?_
     rotate_left
     ·(intro w hSw; (try dsimp only at hSw); go_simp; try with_reducible rfl)
     try simp only [Act.put, zA, zB, zC]
     refine wpT_two 7 16 (by kernel_rfl) (stepT_early rfl rfl (fun K hK => ?_)) (stepT_early rfl rfl (fun K hK => ?_))
     ·go_simp
      refine hK.out _ _ ?_ (fun hHeld => ?_)
      ·exact ⟨⟨by go_keep, by go_keep⟩, by go_keep, by go_keep, by go_keep, by go_keep⟩
      have HN1_3 := Lib.hid (Vw.blkn W2.drew (W2.heap.size) (by simp) 3 #[.int .i64 d])
      have HT3 := Lib.hid (HT2.out.alloc (.cells #[.int .i64 d] 3))
      have HSN3 := Lib.hid (HSN2.out.alloc (.cells #[.int .i64 d] 3))
      clear hK K
      try simp only [zA, zB, zC]
      refine wpT_two 8 16 (by kernel_rfl) (stepT_early rfl rfl (fun K hK => ?_)) (stepT_early rfl rfl (fun K hK => ?_))
      ·refine wp_append_lies _ _ _ _ (by rfl) (w1.heap.size + 1 + 1) 3 i0 _ 1 8 Try.underlying23 hi hz0 hz1 hz2 rfl (by omega) (.slice A1 k n1) k (ints xs) (by rfl) (by have h := HT3.out.own1; rw [HL1.out] at h; exact h) ⟨W2.heap.size, 0, none⟩ 1 1 [.int .i64 d] (by rfl) (by rfl) (World.news_of_block (cs := #[.int .i64 d]) (t := 3) (fr := (0, 0)) HN1_3.out) (Adj.one_one _ _) (by omega) (by unfold maxLen; omega) (by omega) (by first | omega | (simp <;> omega)) (W2.heap.size + 1) (by first | rfl | simp) ?_
       intro gg1 capg1 w3_4 hown1 hgrow hat hltg
       refine hK.out _ _ ?_ (fun hHeld => ?_)
       ·exact ⟨⟨(hgrow.cell_far _ (by simp <;> omega) (Ne.symm (Vw.own_ne (v := .slice A1 k n1) (by have h := HT3.out.own1; rw [HL1.out] at h; exact h) (by simp <;> omega)))).trans (by go_keep), (hgrow.cell_far _ (by simp <;> omega) (Ne.symm (Vw.own_ne (v := .slice A1 k n1) (by have h := HT3.out.own1; rw [HL1.out] at h; exact h) (by simp <;> omega)))).trans (by go_keep)⟩, (hgrow.cell_far _ (by simp <;> omega) (Ne.symm (Vw.own_ne (v := .slice A1 k n1) (by have h := HT3.out.own1; rw [HL1.out] at h; exact h) (by simp <;> omega)))).trans (by go_keep), (hgrow.cell_far _ (by simp <;> omega) (Ne.symm (Vw.own_ne (v := .slice A1 k n1) (by have h := HT3.out.own1; rw [HL1.out] at h; exact h) (by simp <;> omega)))).trans (by go_keep), (hgrow.cell_far _ (by simp <;> omega) (Ne.symm (Vw.own_ne (v := .slice A1 k n1) (by have h := HT3.out.own1; rw [HL1.out] at h; exact h) (by simp <;> omega)))).trans (by go_keep), (hgrow.cell_far _ (by simp <;> omega) (Ne.symm (Vw.own_ne (v := .slice A1 k n1) (by have h := HT3.out.own1; rw [HL1.out] at h; exact h) (by simp <;> omega)))).trans (by go_keep)⟩
       have hgr4 := hgrow
       have hap4 := hown1
       rw [← HL1.out] at hgr4 hap4 hat
       have HT4 := Lib.hid (HT3.out.app1 hap4 hgr4 hat (by simp))
       have hs4 : w1.heap.size + 1 < w3_4.heap.size := HT4.out.blk.lt
       have HSN4 := Lib.hid (HSN3.out.grown hgr4 (Ne.symm (Vw.own_ne HT3.out.own1 (by omega))))
       clear hK K hown1 hgrow hat hltg
       try simp only [zA, zB, zC]
       refine tp (v := ?_) 18 66 ⟨fun _ => hHeld.1, fun _ => hHeld.2⟩ ?_ ?_; rotate_left; (intro w; go_simp; try with_reducible rfl); try simp only [Act.put, zA, zB, zC]
       refine wpT_one 16 (by kernel_rfl) (stepT_early rfl rfl (fun K hK => ?_))
       go_simp
       refine hK.out _ _ ?_ (fun hHeld => ?_)
       ·exact ⟨⟨by go_keep, by go_keep⟩, by go_keep, by go_keep, by go_keep, by go_keep⟩
       have HN2_5 := Lib.hid (Vw.blkn w3_4 (w3_4.heap.size) (by simp) 3 #[.int .i64 s])
       have HT5 := Lib.hid (HT4.out.alloc (.cells #[.int .i64 s] 3))
       have HSN5 := Lib.hid (HSN4.out.alloc (.cells #[.int .i64 s] 3))
       have HN1_5 := Lib.hid (HN1_3.out.alloc (.cells #[.int .i64 s] 3))
       clear hK K
       try simp only [zA, zB, zC]
       refine wpT_one 17 (by kernel_rfl) (stepT_early rfl rfl (fun K hK => ?_))
       refine wp_append_lies _ _ _ _ (by rfl) (w1.heap.size + 1 + 1) 3 i0 _ 1 8 Try.underlying23 hi hz0 hz1 hz2 rfl (by omega) (.slice A2 k n2) k (ints ys) (by rfl) (by have h := HT5.out.own2; rw [HL2.out] at h; exact h) ⟨w3_4.heap.size, 0, none⟩ 1 1 [.int .i64 s] (by rfl) (by rfl) (World.news_of_block (cs := #[.int .i64 s]) (t := 3) (fr := (0, 0)) HN2_5.out) (Adj.one_one _ _) (by omega) (by unfold maxLen; omega) (by omega) (by first | omega | (simp <;> omega)) (w3_4.heap.size + 1) (by first | rfl | simp) ?_
       intro gg2 capg2 w3_6 hown1 hgrow hat hltg
       refine hK.out _ _ ?_ (fun hHeld => ?_)
       ·exact ⟨⟨(hgrow.cell_far _ (by simp <;> omega) (Ne.symm (Vw.own_ne (v := .slice A2 k n2) (by have h := HT5.out.own2; rw [HL2.out] at h; exact h) (by simp <;> omega)))).trans (by go_keep), (hgrow.cell_far _ (by simp <;> omega) (Ne.symm (Vw.own_ne (v := .slice A2 k n2) (by have h := HT5.out.own2; rw [HL2.out] at h; exact h) (by simp <;> omega)))).trans (by go_keep)⟩, (hgrow.cell_far _ (by simp <;> omega) (Ne.symm (Vw.own_ne (v := .slice A2 k n2) (by have h := HT5.out.own2; rw [HL2.out] at h; exact h) (by simp <;> omega)))).trans (by go_keep), (hgrow.cell_far _ (by simp <;> omega) (Ne.symm (Vw.own_ne (v := .slice A2 k n2) (by have h := HT5.out.own2; rw [HL2.out] at h; exact h) (by simp <;> omega)))).trans (by go_keep), (hgrow.cell_far _ (by simp <;> omega) (Ne.symm (Vw.own_ne (v := .slice A2 k n2) (by have h := HT5.out.own2; rw [HL2.out] at h; exact h) (by simp <;> omega)))).trans (by go_keep), (hgrow.cell_far _ (by simp <;> omega) (Ne.symm (Vw.own_ne (v := .slice A2 k n2) (by have h := HT5.out.own2; rw [HL2.out] at h; exact h) (by simp <;> omega)))).trans (by go_keep)⟩
       have hgr6 := hgrow
       have hap6 := hown1
       rw [← HL2.out] at hgr6 hap6 hat
       have HT6 := Lib.hid (HT5.out.app2 hap6 hgr6 hat (by simp))
       have hs6 : w1.heap.size + 1 < w3_6.heap.size := HT6.out.blk.lt
       have HSN6 := Lib.hid (HSN5.out.grown hgr6 (Ne.symm (Vw.own_ne HT5.out.own2 (by omega))))
       clear hK K hown1 hgrow hat hltg
       try simp only [zA, zB, zC]
       have hlt3 : w1.heap.size + 1 < w3_6.heap.size := HT6.out.blk.lt
       have c1f : w3_6.cell? ⟨w1.heap.size + 1, 1, none⟩ = some (.slice A1 xs.length n1) := HT6.out.blk.cell 1
       have d1f := HT6.out.blk.frozen 1
       have HTG := Lib.hid (HT6.out.set1 (.slice (some ⟨gg1, 0, none⟩) (xs.length + 1) capg1))
       have HSG := Lib.hid (HSN6.out.far (p := ⟨w1.heap.size + 1, 1, none⟩) (by simp) (.slice (some ⟨gg1, 0, none⟩) (xs.length + 1) capg1))
       rw [HL1.out] at HTG HSG
       refine wpT_one 19 (by kernel_rfl) (stepT_late rfl rfl (by kernel_rfl) (fun K hK => ?_))
       go_simp
       refine hK.out _ _ ?_ (fun hHeld => ?_)
       ·exact ⟨(World.cell?_of_block (Below.heap_setCell _ _ _ _ (by simp <;> omega))).trans hHeld.2.1, (World.cell?_of_block (Below.heap_setCell _ _ _ _ (by simp <;> omega))).trans hHeld.2.2.1, (World.cell?_of_block (Below.heap_setCell _ _ _ _ (by simp <;> omega))).trans hHeld.2.2.2.1, (World.cell?_of_block (Below.heap_setCell _ _ _ _ (by simp <;> omega))).trans hHeld.2.2.2.2⟩
       clear hK K
       try simp only [zA, zB, zC]
       refine tp (v := ?_) 20 67 (Till.late (by kernel_rfl) hHeld) ?_ ?_; rotate_left; (intro w; go_simp; try with_reducible rfl); try simp only [Act.put, zA, zB, zC]
       clear c1f d1f
       generalize hW4 : w3_6.setCell ⟨w1.heap.size + 1, 1, none⟩ (.slice (some ⟨gg1, 0, none⟩) (k + 1) capg1) = W4 at HTG HSG hHeld ⊢
       have c2f : W4.cell? ⟨w1.heap.size + 1, 2, none⟩ = some (.slice A2 ys.length n2) := HTG.out.blk.cell 2
       have d2f := HTG.out.blk.frozen 2
       have HTF := Lib.hid (HTG.out.set2 (.slice (some ⟨gg2, 0, none⟩) (ys.length + 1) capg2))
       have HSF := Lib.hid (HSG.out.far (p := ⟨w1.heap.size + 1, 2, none⟩) (by simp) (.slice (some ⟨gg2, 0, none⟩) (ys.length + 1) capg2))
       rw [HL2.out] at HTF HSF
       clear hHeld hW4
       refine wpT_tail [_] 21 [] rfl (by kernel_rfl) ?_
       go_wp2_with fail
       first
        | exact ⟨⟨k + 1, _, _, by omega, by go_num, HNX.out.1, HNX.out.2, by rw [HM1.out, HM2.out]; exact HTF.out, HSF.out⟩, by simp [intOf]; omega⟩
        | (go_roundw
           case rel => exact ⟨k + 1, _, _, by omega, by go_num, HNX.out.1, HNX.out.2, by rw [HM1.out, HM2.out]; exact HTF.out, HSF.out⟩
           case measure => simp [intOf]; omega)
      ·go_simp
       refine hK.out _ _ ?_ (fun hHeld => ?_)
       ·exact ⟨⟨by go_keep, by go_keep⟩, by go_keep, by go_keep, by go_keep, by go_keep⟩
       have HN2_7 := Lib.hid (Vw.blkn (W2.drew.alloc (.cells #[.int .i64 d] 3)) (W2.heap.size + 1) (by simp) 3 #[.int .i64 s])
       have HT7 := Lib.hid (HT3.out.alloc (.cells #[.int .i64 s] 3))
       have HSN7 := Lib.hid (HSN3.out.alloc (.cells #[.int .i64 s] 3))
       have HN1_7 := Lib.hid (HN1_3.out.alloc (.cells #[.int .i64 s] 3))
       clear hK K
       try simp only [zA, zB, zC]
       refine wpT_one 8 (by kernel_rfl) (stepT_early rfl rfl (fun K hK => ?_))
       refine wp_append_lies _ _ _ _ (by rfl) (w1.heap.size + 1 + 1) 3 i0 _ 1 8 Try.underlying23 hi hz0 hz1 hz2 rfl (by omega) (.slice A1 k n1) k (ints xs) (by rfl) (by have h := HT7.out.own1; rw [HL1.out] at h; exact h) ⟨W2.heap.size, 0, none⟩ 1 1 [.int .i64 d] (by rfl) (by rfl) (World.news_of_block (cs := #[.int .i64 d]) (t := 3) (fr := (0, 0)) HN1_7.out) (Adj.one_one _ _) (by omega) (by unfold maxLen; omega) (by omega) (by first | omega | (simp <;> omega)) (W2.heap.size + 1 + 1) (by first | rfl | simp) ?_
       intro gg1 capg1 w3_8 hown1 hgrow hat hltg
       refine hK.out _ _ ?_ (fun hHeld => ?_)
       ·exact ⟨⟨(hgrow.cell_far _ (by simp <;> omega) (Ne.symm (Vw.own_ne (v := .slice A1 k n1) (by have h := HT7.out.own1; rw [HL1.out] at h; exact h) (by simp <;> omega)))).trans (by go_keep), (hgrow.cell_far _ (by simp <;> omega) (Ne.symm (Vw.own_ne (v := .slice A1 k n1) (by have h := HT7.out.own1; rw [HL1.out] at h; exact h) (by simp <;> omega)))).trans (by go_keep)⟩, (hgrow.cell_far _ (by simp <;> omega) (Ne.symm (Vw.own_ne (v := .slice A1 k n1) (by have h := HT7.out.own1; rw [HL1.out] at h; exact h) (by simp <;> omega)))).trans (by go_keep), (hgrow.cell_far _ (by simp <;> omega) (Ne.symm (Vw.own_ne (v := .slice A1 k n1) (by have h := HT7.out.own1; rw [HL1.out] at h; exact h) (by simp <;> omega)))).trans (by go_keep), (hgrow.cell_far _ (by simp <;> omega) (Ne.symm (Vw.own_ne (v := .slice A1 k n1) (by have h := HT7.out.own1; rw [HL1.out] at h; exact h) (by simp <;> omega)))).trans (by go_keep), (hgrow.cell_far _ (by simp <;> omega) (Ne.symm (Vw.own_ne (v := .slice A1 k n1) (by have h := HT7.out.own1; rw [HL1.out] at h; exact h) (by simp <;> omega)))).trans (by go_keep)⟩
       have hgr8 := hgrow
       have hap8 := hown1
       rw [← HL1.out] at hgr8 hap8 hat
       have HT8 := Lib.hid (HT7.out.app1 hap8 hgr8 hat (by simp))
       have hs8 : w1.heap.size + 1 < w3_8.heap.size := HT8.out.blk.lt
       have HSN8 := Lib.hid (HSN7.out.grown hgr8 (Ne.symm (Vw.own_ne HT7.out.own1 (by omega))))
       have HN2_8 := Lib.hid (HN2_7.out.grown hgr8 (fun e => by have := (HT2.out.own1.lt _ e.symm).2; first | omega | (simp at this <;> omega)))
       clear hK K hown1 hgrow hat hltg
       try simp only [zA, zB, zC]
       refine tp (v := ?_) 18 66 ⟨fun _ => hHeld.1, fun _ => hHeld.2⟩ ?_ ?_; rotate_left; (intro w; go_simp; try with_reducible rfl); try simp only [Act.put, zA, zB, zC]
       refine wpT_one 17 (by kernel_rfl) (stepT_early rfl rfl (fun K hK => ?_))
       refine wp_append_lies _ _ _ _ (by rfl) (w1.heap.size + 1 + 1) 3 i0 _ 1 8 Try.underlying23 hi hz0 hz1 hz2 rfl (by omega) (.slice A2 k n2) k (ints ys) (by rfl) (by have h := HT8.out.own2; rw [HL2.out] at h; exact h) ⟨W2.heap.size + 1, 0, none⟩ 1 1 [.int .i64 s] (by rfl) (by rfl) (World.news_of_block (cs := #[.int .i64 s]) (t := 3) (fr := (0, 0)) HN2_8.out) (Adj.one_one _ _) (by omega) (by unfold maxLen; omega) (by omega) (by first | omega | (simp <;> omega)) (w3_8.heap.size) (by first | rfl | simp) ?_
       intro gg2 capg2 w3_9 hown1 hgrow hat hltg
       refine hK.out _ _ ?_ (fun hHeld => ?_)
       ·exact ⟨⟨(hgrow.cell_far _ (by simp <;> omega) (Ne.symm (Vw.own_ne (v := .slice A2 k n2) (by have h := HT8.out.own2; rw [HL2.out] at h; exact h) (by simp <;> omega)))).trans (by go_keep), (hgrow.cell_far _ (by simp <;> omega) (Ne.symm (Vw.own_ne (v := .slice A2 k n2) (by have h := HT8.out.own2; rw [HL2.out] at h; exact h) (by simp <;> omega)))).trans (by go_keep)⟩, (hgrow.cell_far _ (by simp <;> omega) (Ne.symm (Vw.own_ne (v := .slice A2 k n2) (by have h := HT8.out.own2; rw [HL2.out] at h; exact h) (by simp <;> omega)))).trans (by go_keep), (hgrow.cell_far _ (by simp <;> omega) (Ne.symm (Vw.own_ne (v := .slice A2 k n2) (by have h := HT8.out.own2; rw [HL2.out] at h; exact h) (by simp <;> omega)))).trans (by go_keep), (hgrow.cell_far _ (by simp <;> omega) (Ne.symm (Vw.own_ne (v := .slice A2 k n2) (by have h := HT8.out.own2; rw [HL2.out] at h; exact h) (by simp <;> omega)))).trans (by go_keep), (hgrow.cell_far _ (by simp <;> omega) (Ne.symm (Vw.own_ne (v := .slice A2 k n2) (by have h := HT8.out.own2; rw [HL2.out] at h; exact h) (by simp <;> omega)))).trans (by go_keep)⟩
       have hgr9 := hgrow
       have hap9 := hown1
       rw [← HL2.out] at hgr9 hap9 hat
       have HT9 := Lib.hid (HT8.out.app2 hap9 hgr9 hat (by simp))
       have hs9 : w1.heap.size + 1 < w3_9.heap.size := HT9.out.blk.lt
       have HSN9 := Lib.hid (HSN8.out.grown hgr9 (Ne.symm (Vw.own_ne HT8.out.own2 (by omega))))
       clear hK K hown1 hgrow hat hltg
       try simp only [zA, zB, zC]
       have hlt3 : w1.heap.size + 1 < w3_9.heap.size := HT9.out.blk.lt
       have c1f : w3_9.cell? ⟨w1.heap.size + 1, 1, none⟩ = some (.slice A1 xs.length n1) := HT9.out.blk.cell 1
       have d1f := HT9.out.blk.frozen 1
       have HTG := Lib.hid (HT9.out.set1 (.slice (some ⟨gg1, 0, none⟩) (xs.length + 1) capg1))
       have HSG := Lib.hid (HSN9.out.far (p := ⟨w1.heap.size + 1, 1, none⟩) (by simp) (.slice (some ⟨gg1, 0, none⟩) (xs.length + 1) capg1))
       rw [HL1.out] at HTG HSG
       refine wpT_one 19 (by kernel_rfl) (stepT_late rfl rfl (by kernel_rfl) (fun K hK => ?_))
       go_simp
       refine hK.out _ _ ?_ (fun hHeld => ?_)
       ·exact ⟨(World.cell?_of_block (Below.heap_setCell _ _ _ _ (by simp <;> omega))).trans hHeld.2.1, (World.cell?_of_block (Below.heap_setCell _ _ _ _ (by simp <;> omega))).trans hHeld.2.2.1, (World.cell?_of_block (Below.heap_setCell _ _ _ _ (by simp <;> omega))).trans hHeld.2.2.2.1, (World.cell?_of_block (Below.heap_setCell _ _ _ _ (by simp <;> omega))).trans hHeld.2.2.2.2⟩
       clear hK K
       try simp only [zA, zB, zC]
       refine tp (v := ?_) 20 67 (Till.late (by kernel_rfl) hHeld) ?_ ?_; rotate_left; (intro w; go_simp; try with_reducible rfl); try simp only [Act.put, zA, zB, zC]
       clear c1f d1f
       generalize hW4 : w3_9.setCell ⟨w1.heap.size + 1, 1, none⟩ (.slice (some ⟨gg1, 0, none⟩) (k + 1) capg1) = W4 at HTG HSG hHeld ⊢
       have c2f : W4.cell? ⟨w1.heap.size + 1, 2, none⟩ = some (.slice A2 ys.length n2) := HTG.out.blk.cell 2
       have d2f := HTG.out.blk.frozen 2
       have HTF := Lib.hid (HTG.out.set2 (.slice (some ⟨gg2, 0, none⟩) (ys.length + 1) capg2))
       have HSF := Lib.hid (HSG.out.far (p := ⟨w1.heap.size + 1, 2, none⟩) (by simp) (.slice (some ⟨gg2, 0, none⟩) (ys.length + 1) capg2))
       rw [HL2.out] at HTF HSF
       clear hHeld hW4
       refine wpT_tail [_] 21 [] rfl (by kernel_rfl) ?_
       go_wp2_with fail
       first
        | exact ⟨⟨k + 1, _, _, by omega, by go_num, HNX.out.1, HNX.out.2, by rw [HM1.out, HM2.out]; exact HTF.out, HSF.out⟩, by simp [intOf]; omega⟩
        | (go_roundw
           case rel => exact ⟨k + 1, _, _, by omega, by go_num, HNX.out.1, HNX.out.2, by rw [HM1.out, HM2.out]; exact HTF.out, HSF.out⟩
           case measure => simp [intOf]; omega)
     ·go_simp
      refine hK.out _ _ ?_ (fun hHeld => ?_)
      ·exact ⟨⟨by go_keep, by go_keep⟩, by go_keep, by go_keep, by go_keep, by go_keep⟩
      have HN2_10 := Lib.hid (Vw.blkn W2.drew (W2.heap.size) (by simp) 3 #[.int .i64 s])
      have HT10 := Lib.hid (HT2.out.alloc (.cells #[.int .i64 s] 3))
      have HSN10 := Lib.hid (HSN2.out.alloc (.cells #[.int .i64 s] 3))
      clear hK K
      try simp only [zA, zB, zC]
      refine wpT_one 7 (by kernel_rfl) (stepT_early rfl rfl (fun K hK => ?_))
      go_simp
      refine hK.out _ _ ?_ (fun hHeld => ?_)
      ·exact ⟨⟨by go_keep, by go_keep⟩, by go_keep, by go_keep, by go_keep, by go_keep⟩
      have HN1_11 := Lib.hid (Vw.blkn (W2.drew.alloc (.cells #[.int .i64 s] 3)) (W2.heap.size + 1) (by simp) 3 #[.int .i64 d])
      have HT11 := Lib.hid (HT10.out.alloc (.cells #[.int .i64 d] 3))
      have HSN11 := Lib.hid (HSN10.out.alloc (.cells #[.int .i64 d] 3))
      have HN2_11 := Lib.hid (HN2_10.out.alloc (.cells #[.int .i64 d] 3))
      clear hK K
      try simp only [zA, zB, zC]
      refine wpT_one 8 (by kernel_rfl) (stepT_early rfl rfl (fun K hK => ?_))
      refine wp_append_lies _ _ _ _ (by rfl) (w1.heap.size + 1 + 1) 3 i0 _ 1 8 Try.underlying23 hi hz0 hz1 hz2 rfl (by omega) (.slice A1 k n1) k (ints xs) (by rfl) (by have h := HT11.out.own1; rw [HL1.out] at h; exact h) ⟨W2.heap.size + 1, 0, none⟩ 1 1 [.int .i64 d] (by rfl) (by rfl) (World.news_of_block (cs := #[.int .i64 d]) (t := 3) (fr := (0, 0)) HN1_11.out) (Adj.one_one _ _) (by omega) (by unfold maxLen; omega) (by omega) (by first | omega | (simp <;> omega)) (W2.heap.size + 1 + 1) (by first | rfl | simp) ?_
      intro gg1 capg1 w3_12 hown1 hgrow hat hltg
      refine hK.out _ _ ?_ (fun hHeld => ?_)
      ·exact ⟨⟨(hgrow.cell_far _ (by simp <;> omega) (Ne.symm (Vw.own_ne (v := .slice A1 k n1) (by have h := HT11.out.own1; rw [HL1.out] at h; exact h) (by simp <;> omega)))).trans (by go_keep), (hgrow.cell_far _ (by simp <;> omega) (Ne.symm (Vw.own_ne (v := .slice A1 k n1) (by have h := HT11.out.own1; rw [HL1.out] at h; exact h) (by simp <;> omega)))).trans (by go_keep)⟩, (hgrow.cell_far _ (by simp <;> omega) (Ne.symm (Vw.own_ne (v := .slice A1 k n1) (by have h := HT11.out.own1; rw [HL1.out] at h; exact h) (by simp <;> omega)))).trans (by go_keep), (hgrow.cell_far _ (by simp <;> omega) (Ne.symm (Vw.own_ne (v := .slice A1 k n1) (by have h := HT11.out.own1; rw [HL1.out] at h; exact h) (by simp <;> omega)))).trans (by go_keep), (hgrow.cell_far _ (by simp <;> omega) (Ne.symm (Vw.own_ne (v := .slice A1 k n1) (by have h := HT11.out.own1; rw [HL1.out] at h; exact h) (by simp <;> omega)))).trans (by go_keep), (hgrow.cell_far _ (by simp <;> omega) (Ne.symm (Vw.own_ne (v := .slice A1 k n1) (by have h := HT11.out.own1; rw [HL1.out] at h; exact h) (by simp <;> omega)))).trans (by go_keep)⟩
      have hgr12 := hgrow
      have hap12 := hown1
      rw [← HL1.out] at hgr12 hap12 hat
      have HT12 := Lib.hid (HT11.out.app1 hap12 hgr12 hat (by simp))
      have hs12 : w1.heap.size + 1 < w3_12.heap.size := HT12.out.blk.lt
      have HSN12 := Lib.hid (HSN11.out.grown hgr12 (Ne.symm (Vw.own_ne HT11.out.own1 (by omega))))
      have HN2_12 := Lib.hid (HN2_11.out.grown hgr12 (fun e => by have := (HT2.out.own1.lt _ e.symm).2; first | omega | (simp at this <;> omega)))
      clear hK K hown1 hgrow hat hltg
      try simp only [zA, zB, zC]
      refine tp (v := ?_) 18 66 ⟨fun _ => hHeld.1, fun _ => hHeld.2⟩ ?_ ?_; rotate_left; (intro w; go_simp; try with_reducible rfl); try simp only [Act.put, zA, zB, zC]
      refine wpT_one 17 (by kernel_rfl) (stepT_early rfl rfl (fun K hK => ?_))
      refine wp_append_lies _ _ _ _ (by rfl) (w1.heap.size + 1 + 1) 3 i0 _ 1 8 Try.underlying23 hi hz0 hz1 hz2 rfl (by omega) (.slice A2 k n2) k (ints ys) (by rfl) (by have h := HT12.out.own2; rw [HL2.out] at h; exact h) ⟨W2.heap.size, 0, none⟩ 1 1 [.int .i64 s] (by rfl) (by rfl) (World.news_of_block (cs := #[.int .i64 s]) (t := 3) (fr := (0, 0)) HN2_12.out) (Adj.one_one _ _) (by omega) (by unfold maxLen; omega) (by omega) (by first | omega | (simp <;> omega)) (w3_12.heap.size) (by first | rfl | simp) ?_
      intro gg2 capg2 w3_13 hown1 hgrow hat hltg
      refine hK.out _ _ ?_ (fun hHeld => ?_)
      ·exact ⟨⟨(hgrow.cell_far _ (by simp <;> omega) (Ne.symm (Vw.own_ne (v := .slice A2 k n2) (by have h := HT12.out.own2; rw [HL2.out] at h; exact h) (by simp <;> omega)))).trans (by go_keep), (hgrow.cell_far _ (by simp <;> omega) (Ne.symm (Vw.own_ne (v := .slice A2 k n2) (by have h := HT12.out.own2; rw [HL2.out] at h; exact h) (by simp <;> omega)))).trans (by go_keep)⟩, (hgrow.cell_far _ (by simp <;> omega) (Ne.symm (Vw.own_ne (v := .slice A2 k n2) (by have h := HT12.out.own2; rw [HL2.out] at h; exact h) (by simp <;> omega)))).trans (by go_keep), (hgrow.cell_far _ (by simp <;> omega) (Ne.symm (Vw.own_ne (v := .slice A2 k n2) (by have h := HT12.out.own2; rw [HL2.out] at h; exact h) (by simp <;> omega)))).trans (by go_keep), (hgrow.cell_far _ (by simp <;> omega) (Ne.symm (Vw.own_ne (v := .slice A2 k n2) (by have h := HT12.out.own2; rw [HL2.out] at h; exact h) (by simp <;> omega)))).trans (by go_keep), (hgrow.cell_far _ (by simp <;> omega) (Ne.symm (Vw.own_ne (v := .slice A2 k n2) (by have h := HT12.out.own2; rw [HL2.out] at h; exact h) (by simp <;> omega)))).trans (by go_keep)⟩
      have hgr13 := hgrow
      have hap13 := hown1
      rw [← HL2.out] at hgr13 hap13 hat
      have HT13 := Lib.hid (HT12.out.app2 hap13 hgr13 hat (by simp))
      have hs13 : w1.heap.size + 1 < w3_13.heap.size := HT13.out.blk.lt
      have HSN13 := Lib.hid (HSN12.out.grown hgr13 (Ne.symm (Vw.own_ne HT12.out.own2 (by omega))))
      clear hK K hown1 hgrow hat hltg
      try simp only [zA, zB, zC]
      have hlt3 : w1.heap.size + 1 < w3_13.heap.size := HT13.out.blk.lt
      have c1f : w3_13.cell? ⟨w1.heap.size + 1, 1, none⟩ = some (.slice A1 xs.length n1) := HT13.out.blk.cell 1
      have d1f := HT13.out.blk.frozen 1
      have HTG := Lib.hid (HT13.out.set1 (.slice (some ⟨gg1, 0, none⟩) (xs.length + 1) capg1))
      have HSG := Lib.hid (HSN13.out.far (p := ⟨w1.heap.size + 1, 1, none⟩) (by simp) (.slice (some ⟨gg1, 0, none⟩) (xs.length + 1) capg1))
      rw [HL1.out] at HTG HSG
      refine wpT_one 19 (by kernel_rfl) (stepT_late rfl rfl (by kernel_rfl) (fun K hK => ?_))
      go_simp
      refine hK.out _ _ ?_ (fun hHeld => ?_)
      ·exact ⟨(World.cell?_of_block (Below.heap_setCell _ _ _ _ (by simp <;> omega))).trans hHeld.2.1, (World.cell?_of_block (Below.heap_setCell _ _ _ _ (by simp <;> omega))).trans hHeld.2.2.1, (World.cell?_of_block (Below.heap_setCell _ _ _ _ (by simp <;> omega))).trans hHeld.2.2.2.1, (World.cell?_of_block (Below.heap_setCell _ _ _ _ (by simp <;> omega))).trans hHeld.2.2.2.2⟩
      clear hK K
      try simp only [zA, zB, zC]
      refine tp (v := ?_) 20 67 (Till.late (by kernel_rfl) hHeld) ?_ ?_; rotate_left; (intro w; go_simp; try with_reducible rfl); try simp only [Act.put, zA, zB, zC]
      clear c1f d1f
      generalize hW4 : w3_13.setCell ⟨w1.heap.size + 1, 1, none⟩ (.slice (some ⟨gg1, 0, none⟩) (k + 1) capg1) = W4 at HTG HSG hHeld ⊢
      have c2f : W4.cell? ⟨w1.heap.size + 1, 2, none⟩ = some (.slice A2 ys.length n2) := HTG.out.blk.cell 2
      have d2f := HTG.out.blk.frozen 2
      have HTF := Lib.hid (HTG.out.set2 (.slice (some ⟨gg2, 0, none⟩) (ys.length + 1) capg2))
      have HSF := Lib.hid (HSG.out.far (p := ⟨w1.heap.size + 1, 2, none⟩) (by simp) (.slice (some ⟨gg2, 0, none⟩) (ys.length + 1) capg2))
      rw [HL2.out] at HTF HSF
      clear hHeld hW4
      refine wpT_tail [_] 21 [] rfl (by kernel_rfl) ?_
      go_wp2_with fail
      first
       | exact ⟨⟨k + 1, _, _, by omega, by go_num, HNX.out.1, HNX.out.2, by rw [HM1.out, HM2.out]; exact HTF.out, HSF.out⟩, by simp [intOf]; omega⟩
       | (go_roundw
          case rel => exact ⟨k + 1, _, _, by omega, by go_num, HNX.out.1, HNX.out.2, by rw [HM1.out, HM2.out]; exact HTF.out, HSF.out⟩
          case measure => simp [intOf]; omega)
   ·obtain rfl : k = p.length := by omega
    have hrng := HRNG.out
    have hnd := HND.out
    rw [List.take_length] at hrng hnd htwo
    clear HT HSN HRNG HND
    by_cases hlen : p.length = v.dims.length
    ·have hq : ((p.length : Int) != (v.dims.length : Int)) = false := by simp; omega
     have HTU := Lib.hid (AdjV.turn_ok (p := p) H0.out (AdjV.permOK_of hlen hnd hrng))
     obtain ⟨A1, n1, hv1, ia1, la1, ma1, ga1⟩ := Vw.own_view htwo.own1
     obtain ⟨A2, n2, hv2, ia2, la2, ma2, ga2⟩ := Vw.own_view htwo.own2
     subst hv1 hv2
     have e0 : wo.cell? ⟨w1.heap.size + 1, 0, none⟩ = some (.int .i64 v.st) := htwo.blk.cell 0
     have e1 : wo.cell? ⟨w1.heap.size + 1, 1, none⟩ = some (.slice A1 (p.map (AdjV.pick v.dims)).length n1) := htwo.blk.cell 1
     have e2 : wo.cell? ⟨w1.heap.size + 1, 2, none⟩ = some (.slice A2 (p.map (AdjV.pick v.steps)).length n2) := htwo.blk.cell 2
     have IA1 := Lib.hid (ia1.set3 (c := w.heap.size + 1) (fun b off e hp => by have := ga1 b off e hp; omega) (.int .i64 v.st) (.slice A1 (p.map (AdjV.pick v.dims)).length n1) (.slice A2 (p.map (AdjV.pick v.steps)).length n2))
     have IA2 := Lib.hid (ia2.set3 (c := w.heap.size + 1) (fun b off e hp => by have := ga2 b off e hp; omega) (.int .i64 v.st) (.slice A1 (p.map (AdjV.pick v.dims)).length n1) (.slice A2 (p.map (AdjV.pick v.steps)).length n2))
     have HGA := Lib.hid (And.intro ga1 ga2)
     clear htwo ia1 ia2 ga1 ga2 hlen hrng hnd
     generalize hxs : p.map (AdjV.pick v.dims) = xs at *
     generalize hys : p.map (AdjV.pick v.steps) = ys at *
     have HXS := Lib.hid hxs
     have HYS := Lib.hid hys
     clear hxs hys
     go_wp2_with fail
     refine bodyPost_ret (v := .tuple #[.agg #[.int .i64 v.st, .slice A1 xs.length n1, .slice A2 ys.length n2], .int .i64 0]) (by simp [results, Try.results59, go_sem, r0, r1, r2]) rfl ⟨?_, HBF.out _ _ _⟩
     rw [HTU.out]
     exact Vw.out_mk ⟨A1, n1, A2, n2, rfl, IA1.out.up (by simp), IA2.out.up (by simp), la1, ma1, la2, ma2⟩ (fun b off e hp => by have := HGA.out.1 b off e hp; omega) (fun b off e hp => by have := HGA.out.2 b off e hp; omega)
    ·have hq : ((p.length : Int) != (v.dims.length : Int)) = true := by simp; omega
     have HTB := Lib.hid (AdjV.turn_bad (p := p) H0.out (AdjV.permOK_len hlen))
     clear htwo hlen hrng hnd
     go_wp2_with fail
     refine bodyPost_ret (v := .tuple #[.agg #[.int .i64 0, .slice none 0 0, .slice none 0 0], .int .i64 6]) (by simp [results, Try.results59, go_sem, r0, r1, r2]) rfl ⟨?_, HBF.out _ _ _⟩
     rw [HTB.out]; exact Vw.out_none _ _ _ _
 ·have HT := Lib.hid (AdjV.turn_wrong (p := p) h0)
  have hq : (AdjV.wrong v != 0) = true := by simpa using h0
  clear h0
  go_enter Try.func59, Try.ntmps59
  go_wp2_with fail
  refine (HW.out _ HB.out).mono ?_
  rintro e w1 ⟨rfl, hb1⟩
  obtain ⟨hc, hf⟩ := bcell hb1
  have hz : w.heap.size + 1 < w1.heap.size := by have := hb1.size; simp at this; omega
  go_wp2_with fail
  refine bodyPost_ret (v := .tuple #[.agg #[.int .i64 0, .slice none 0 0, .slice none 0 0], .int .i64 (AdjV.wrong v)]) (by simp [results, Try.results59, go_sem, hc]) rfl ⟨?_, ?_⟩
  ·rw [HT.out]; exact Vw.out_none _ _ _ _
  ·exact Vw.three (HB.out.trans (hb1.mono HB.out.size)) (Nat.le_succ _) _ _ _
end Go.Proofs.Ytapedmpbkffopaa
end
section
namespace AdjV
set_option linter.unusedVariables false
def prev (l : List Int) (i : Nat) : Int := if i = 0 then -1 else l.getD (i - 1) 0
def riseB (n : Nat) (l : List Int) : Bool := (List.range l.length).all fun i => decide (prev l i < l.getD i 0) && decide (l.getD i 0 < (n : Int))
theorem getD_at (l : List Int) (i : Nat) (h : i < l.length) : l.getD i 0 = l[i] := by simp [List.getD_eq_getElem?_getD, h]
theorem riseB_true {n : Nat} {l : List Int} (h : riseB n l = true) : ∀ i (hi : i < l.length), prev l i < l[i] ∧ l[i] < (n : Int) := by
 intro i hi
 have := List.all_eq_true.1 h i (List.mem_range.2 hi)
 rw [Bool.and_eq_true, decide_eq_true_iff, decide_eq_true_iff, getD_at l i hi] at this
 exact this
theorem riseB_of {n : Nat} {l : List Int} (h : ∀ i (hi : i < l.length), prev l i < l[i] ∧ l[i] < (n : Int)) : riseB n l = true := by
 unfold riseB
 rw [List.all_eq_true]
 intro i hi
 have hi' := List.mem_range.1 hi
 rw [Bool.and_eq_true, decide_eq_true_iff, decide_eq_true_iff, getD_at l i hi']
 exact h i hi'
theorem riseB_bad {n : Nat} {l : List Int} {i : Nat} (hi : i < l.length) (h : ¬ (prev l i < l[i] ∧ l[i] < (n : Int))) : riseB n l = false := by
 cases hb : riseB n l with
 | false => rfl
 | true => exact absurd (riseB_true hb i hi) h
theorem prev_zero (l : List Int) : prev l 0 = -1 := rfl
theorem prev_next (l : List Int) (i : Nat) (h : i < l.length) : prev l (i + 1) = l[i] := by unfold prev; rw [if_neg (by omega)]; exact getD_at l i h
theorem rise_pos {n : Nat} {l : List Int} (h : ∀ i (hi : i < l.length), prev l i < l[i] ∧ l[i] < (n : Int)) : ∀ i (hi : i < l.length), 0 ≤ l[i]
 | 0, hi => by have := (h 0 hi).1; rw [prev_zero] at this; omega
 | i + 1, hi => by
  have := (h (i + 1) hi).1
  rw [prev_next l i (by omega)] at this
  have := rise_pos h i (by omega)
  omega
theorem rise_lt {n : Nat} {l : List Int} (h : ∀ i (hi : i < l.length), prev l i < l[i] ∧ l[i] < (n : Int)) {i : Nat} : ∀ j (hj : j < l.length) (hij : i < j), l[i]'(by omega) < l[j]
 | 0, _, hij => by omega
 | j + 1, hj, hij => by
  have h1 := (h (j + 1) hj).1
  rw [prev_next l j (by omega)] at h1
  by_cases e : i = j
  ·subst e; exact h1
  ·have := rise_lt h (i := i) j (by omega) (by omega)
   omega
theorem rise_pos_to {n m : Nat} {l : List Int} (h : ∀ i (hi : i < l.length), i < m → prev l i < l[i] ∧ l[i] < (n : Int)) : ∀ i (hi : i < l.length), i < m → 0 ≤ l[i]
 | 0, hi, hm => by have := (h 0 hi hm).1; rw [prev_zero] at this; omega
 | i + 1, hi, hm => by
  have := (h (i + 1) hi hm).1
  rw [prev_next l i (by omega)] at this
  have := rise_pos_to h i (by omega) (by omega)
  omega
def flSt (v : V) (l : List Int) : Nat → Int
 | 0 => v.st
 | k + 1 => flSt v l k + (if (k : Int) ∈ l then (if 0 < v.dims.getD k 0 then (v.dims.getD k 0 - 1) * v.steps.getD k 0 else 0) else 0)
def flSteps (v : V) (l : List Int) (c : Nat) : List Int := (List.range v.steps.length).map fun j : Nat => if j < c ∧ (j : Int) ∈ l then -(v.steps.getD j 0) else v.steps.getD j 0
theorem flSteps_length (v : V) (l : List Int) (c : Nat) : (flSteps v l c).length = v.steps.length := by simp [flSteps]
theorem flSteps_at (v : V) (l : List Int) (c j : Nat) (h : j < (flSteps v l c).length) : (flSteps v l c)[j] = if j < c ∧ (j : Int) ∈ l then -(v.steps.getD j 0) else v.steps.getD j 0 := by simp [flSteps]
theorem flSteps_zero (v : V) (l : List Int) : flSteps v l 0 = v.steps := by
 apply List.ext_getElem
 ·simp [flSteps]
 ·intro i h1 h2
  rw [flSteps_at, if_neg (by omega), getD_at _ _ h2]
theorem flSt_skip {v : V} {l : List Int} {c : Nat} : ∀ {c' : Nat}, c ≤ c' → (∀ j : Nat, c ≤ j → j < c' → (j : Int) ∉ l) → flSt v l c' = flSt v l c
 | 0, h, _ => by
  obtain rfl : c = 0 := by omega
  rfl
 | c' + 1, h, hj => by
  by_cases e : c = c' + 1
  ·subst e; rfl
  ·rw [← flSt_skip (c' := c') (by omega) (fun j a b => hj j a (by omega))]
   simp only [flSt]
   rw [if_neg (hj c' (by omega) (by omega)), Int.add_zero]
theorem flSteps_skip {v : V} {l : List Int} {c c' : Nat} (h : c ≤ c') (hj : ∀ j : Nat, c ≤ j → j < c' → (j : Int) ∉ l) : flSteps v l c' = flSteps v l c := by
 apply List.ext_getElem
 ·simp [flSteps]
 ·intro i h1 h2
  rw [flSteps_at, flSteps_at]
  by_cases hi : i < c
  ·have : i < c' := by omega
   simp [hi, this]
  ·by_cases hi' : i < c'
   ·rw [if_neg (fun hh => hj i (by omega) hi' hh.2), if_neg (by omega)]
   ·rw [if_neg (by omega), if_neg (by omega)]
theorem flSteps_here (v : V) (l : List Int) (q : Nat) (h : q < v.steps.length) : (flSteps v l q)[q]'(by rw [flSteps_length]; exact h) = v.steps[q] := by
 rw [flSteps_at, if_neg (by omega), getD_at _ _ h]
theorem flSteps_set {v : V} {l : List Int} {q : Nat} (h : q < v.steps.length) (hq : (q : Int) ∈ l) : (flSteps v l q).set q (-(v.steps[q])) = flSteps v l (q + 1) := by
 apply List.ext_getElem
 ·simp [flSteps]
 ·intro i h1 h2
  rw [List.getElem_set]
  by_cases e : q = i
  ·subst e
   rw [if_pos rfl, flSteps_at, if_pos ⟨by omega, hq⟩, getD_at _ _ h]
  ·rw [if_neg e, flSteps_at, flSteps_at]
   by_cases hi : i < q
   ·have : i < q + 1 := by omega
    simp [hi, this]
   ·rw [if_neg (by omega), if_neg (by omega)]
theorem flSt_next {v : V} {l : List Int} {q : Nat} (h : q < v.dims.length) (hs : q < v.steps.length) (hq : (q : Int) ∈ l) : flSt v l (q + 1) = flSt v l q + (if 0 < v.dims[q] then (v.dims[q] - 1) * v.steps[q] else 0) := by
 simp only [flSt]
 rw [if_pos hq, getD_at _ _ h, getD_at _ _ hs]
theorem flSt_same {v : V} {l : List Int} {q : Nat} (hq : (q : Int) ∉ l) : flSt v l (q + 1) = flSt v l q := by
 simp only [flSt]
 rw [if_neg hq, Int.add_zero]
theorem mul_abs {a b x y : Int} (h1 : -x ≤ a) (h2 : a ≤ x) (h3 : -y ≤ b) (h4 : b ≤ y) (hx : 0 ≤ x) : -(x * y) ≤ a * b ∧ a * b ≤ x * y := by
 rcases Int.le_total 0 a with ha | ha
 ·have p1 := Int.mul_le_mul_of_nonneg_left h4 ha
  have p2 := Int.mul_le_mul_of_nonneg_left h3 ha
  have p3 := Int.mul_le_mul_of_nonneg_right h2 (show 0 ≤ y by omega)
  rw [Int.mul_neg] at p2
  omega
 ·have p1 := Int.mul_le_mul_of_nonpos_left ha h4
  have p2 := Int.mul_le_mul_of_nonpos_left ha h3
  have p3 := Int.mul_le_mul_of_nonneg_right h1 (show 0 ≤ y by omega)
  rw [Int.mul_neg] at p2
  rw [Int.neg_mul] at p3
  omega
theorem part_small {v : V} (h : wrong v = 0) {k : Nat} (hk : k < v.dims.length) (hs : k < v.steps.length) : 0 ≤ v.dims[k] ∧ v.dims[k] ≤ 4096 ∧ -1099511627776 ≤ v.steps[k] ∧ v.steps[k] ≤ 1099511627776 ∧
    -4503599627370496 ≤ (v.dims[k] - 1) * v.steps[k] ∧ (v.dims[k] - 1) * v.steps[k] ≤ 4503599627370496 := by
 obtain ⟨z1, z2, z3, z4⟩ := wrong_fine h
 have hd := (size_fine z1).2.1 _ (List.getElem_mem hk)
 have hss := z4 _ (List.getElem_mem hs)
 have := mul_abs (a := v.dims[k] - 1) (b := v.steps[k]) (x := 4096) (y := 1099511627776) (by omega) (by omega) hss.1 hss.2 (by omega)
 exact ⟨hd.1, hd.2, hss.1, hss.2, by omega, by omega⟩
theorem flSt_small {v : V} (h : wrong v = 0) (l : List Int) : ∀ k, k ≤ v.dims.length → -1099511627776 - 4503599627370496 * (k : Int) ≤ flSt v l k ∧ flSt v l k ≤ 1099511627776 + 4503599627370496 * (k : Int)
 | 0, _ => by
  have := (wrong_fine h).2.2.1
  simp only [flSt]; omega
 | k + 1, hk => by
  have ih := flSt_small h l k (by omega)
  obtain ⟨z1, z2, _⟩ := wrong_fine h
  have hp := part_small h (k := k) (by omega) (by omega)
  by_cases hq : (k : Int) ∈ l
  ·rw [flSt_next (by omega) (by omega) hq]
   split <;> omega
  ·rw [flSt_same hq]; omega
def flip (v : V) (l : List Int) : V × Int :=
 if wrong v ≠ 0 then (none_, wrong v) else if riseB v.dims.length l then made ⟨flSt v l v.dims.length, v.dims, flSteps v l v.dims.length⟩ else (none_, 6)
theorem flip_wrong {v : V} {p : List Int} (h : wrong v ≠ 0) : flip v p = (none_, wrong v) := if_pos h
theorem flip_bad {v : V} {p : List Int} (h : wrong v = 0) (h2 : riseB v.dims.length p = false) : flip v p = (none_, 6) := by unfold flip; rw [if_neg (by simp [h]), if_neg (by simp [h2])]
theorem flip_ok {v : V} {p : List Int} (h : wrong v = 0) (h2 : riseB v.dims.length p = true) : flip v p = made ⟨flSt v p v.dims.length, v.dims, flSteps v p v.dims.length⟩ := by unfold flip; rw [if_neg (by simp [h]), if_pos h2]
theorem flip_two {v : V} (h : wrong v = 0) (p : List Int) (st : Int) (c : Nat) : wrong ⟨st, v.dims, flSteps v p c⟩ = 0 ∨ wrong ⟨st, v.dims, flSteps v p c⟩ = 4 := by
 obtain ⟨z1, z2, _⟩ := wrong_fine h
 exact wrong_two z1 (by show (flSteps v p c).length = _; rw [flSteps_length]; exact z2)
end AdjV
end
