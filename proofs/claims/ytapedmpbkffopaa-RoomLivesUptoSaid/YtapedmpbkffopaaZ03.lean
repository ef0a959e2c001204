/-
  A view that is being made, list by list; the walk of the reference's Turn. Conditions: where the theorems name them.
-/
import Derived.Test.YtapedmpbkffopaaZ02
import Derived.Deep.DrawnRows
section
namespace Go.Proofs.Ytapedmpbkffopaa
set_option linter.unusedVariables false
open Go.RowKit Adj
attribute [local go_sem ↓] Go.wp_at_zero Go.wp_at_succ
namespace Vw
theorem blk2 (w : World) (o : Obj) (t : TypeId) (cs : Array Value) : Blk ((w.alloc o).alloc (.cells cs t)) (w.heap.size + 1) t cs := by
 have h := Blk.new (w.alloc o) t cs
 rw [show (w.alloc o).heap.size = w.heap.size + 1 by simp] at h
 exact h
theorem grownBy_set (w : World) (b o : Nat) (u : Value) : w.grownBy (w.setCell ⟨b, o, none⟩ u) (some b) :=
 ⟨rfl, rfl, rfl, by simp, fun k hk hne => Below.heap_setCell w _ u k (by simpa using hne)⟩
theorem own_ne {w : World} {base : Nat} {e : TypeId} {v : Value} {n : Nat} {xs : List Value} (h : w.ownsRow base e 1 v n xs) {b : Nat} (hb : b < base) : v.ownBlock ≠ some b := fun e => by
 have := (h.lt b e).1
 omega
theorem own_view {w : World} {base : Nat} {v : Value} {l : List Int} (h : w.ownsRow base 3 1 v l.length (ints l)) :
    ∃ A c, v = .slice A l.length c ∧ IntsAt w w.heap.size A l ∧ l.length ≤ c ∧ c ≤ 9223372036854775807 ∧ ∀ b off, A = some ⟨b, off, none⟩ → 0 < l.length → base ≤ b := by
 have h2 := h.2
 rcases h2 with ⟨rfl, h0⟩ | ⟨g, cap, cur, rfl, hb, hg, hle, hm, _⟩
 ·refine ⟨none, 0, by rw [h0], fun hp => by omega, by omega, by omega, fun b off e => by cases e⟩
 ·refine ⟨_, _, rfl, (IntsAt.of_own h).2, hle, by unfold maxLen at hm; omega, fun b off e _ => ?_⟩
  injection e with e
  injection e with e
  omega
theorem IntsAt.set {w : World} {B : Nat} {A : Option Addr} {l : List Int} (h : IntsAt w B A l) {c : Nat} (hne : ∀ b off, A = some ⟨b, off, none⟩ → 0 < l.length → b ≠ c) (o : Nat) (u : Value) : IntsAt (w.setCell ⟨c, o, none⟩ u) B A l := fun hp => by
 obtain ⟨b, off, hA, hlt, hc⟩ := h hp
 refine ⟨b, off, hA, hlt, fun i hi => ?_⟩
 exact (World.cell?_of_block (Below.heap_setCell w ⟨c, o, none⟩ u b (hne b off hA hp))).trans (hc i hi)
theorem IntsAt.set3 {w : World} {B : Nat} {A : Option Addr} {l : List Int} (h : IntsAt w B A l) {c : Nat} (hne : ∀ b off, A = some ⟨b, off, none⟩ → 0 < l.length → b ≠ c) (x y z : Value) : IntsAt (((w.setCell ⟨c, 0, none⟩ x).setCell ⟨c, 1, none⟩ y).setCell ⟨c, 2, none⟩ z) B A l :=
 ((h.set hne 0 x).set hne 1 y).set hne 2 z
structure Two (N bw : Nat) (W0 : World) (st : Int) (u1 u2 v1 v2 : Value) (xs ys : List Int) (W : World) : Prop where
 blk : Blk W bw 68 #[.int .i64 st, u1, u2]
 own1 : W.ownsRow (bw + 1) 3 1 v1 xs.length (ints xs)
 own2 : W.ownsRow (bw + 1) 3 1 v2 ys.length (ints ys)
 apart : ∀ b, v1.ownBlock = some b → v2.ownBlock = some b → False
 below : Below N W0 W
 low : N ≤ bw
theorem Two.alloc {N bw : Nat} {W0 W : World} {st : Int} {u1 u2 v1 v2 : Value} {xs ys : List Int} (h : Two N bw W0 st u1 u2 v1 v2 xs ys W) (o : Obj) : Two N bw W0 st u1 u2 v1 v2 xs ys (W.alloc o) :=
 ⟨h.blk.alloc o, h.own1.alloc o, h.own2.alloc o, h.apart, h.below.alloc (Nat.le_trans h.low (Nat.le_of_lt h.blk.lt)) o, h.low⟩
theorem Two.drew {N bw : Nat} {W0 W : World} {st : Int} {u1 u2 v1 v2 : Value} {xs ys : List Int} (h : Two N bw W0 st u1 u2 v1 v2 xs ys W) : Two N bw W0 st u1 u2 v1 v2 xs ys W.drew :=
 ⟨h.blk.drew, h.own1.drew, h.own2.drew, h.apart, h.below.drew, h.low⟩
theorem Two.set1 {N bw : Nat} {W0 W : World} {st : Int} {u1 u2 v1 v2 : Value} {xs ys : List Int} (h : Two N bw W0 st u1 u2 v1 v2 xs ys W) (x : Value) : Two N bw W0 st x u2 v1 v2 xs ys (W.setCell ⟨bw, 1, none⟩ x) :=
 ⟨h.blk.set_ 1 x, h.own1.kept (grownBy_set W bw 1 x) (.inr (own_ne h.own1 (by omega))), h.own2.kept (grownBy_set W bw 1 x) (.inr (own_ne h.own2 (by omega))), h.apart, h.below.setCell (p := ⟨bw, 1, none⟩) h.low x, h.low⟩
theorem Two.set2 {N bw : Nat} {W0 W : World} {st : Int} {u1 u2 v1 v2 : Value} {xs ys : List Int} (h : Two N bw W0 st u1 u2 v1 v2 xs ys W) (x : Value) : Two N bw W0 st u1 x v1 v2 xs ys (W.setCell ⟨bw, 2, none⟩ x) :=
 ⟨h.blk.set_ 2 x, h.own1.kept (grownBy_set W bw 2 x) (.inr (own_ne h.own1 (by omega))), h.own2.kept (grownBy_set W bw 2 x) (.inr (own_ne h.own2 (by omega))), h.apart, h.below.setCell (p := ⟨bw, 2, none⟩) h.low x, h.low⟩
theorem Two.set0 {N bw : Nat} {W0 W : World} {st : Int} {u1 u2 v1 v2 : Value} {xs ys : List Int} (h : Two N bw W0 st u1 u2 v1 v2 xs ys W) (x : Int) : Two N bw W0 x u1 u2 v1 v2 xs ys (W.setCell ⟨bw, 0, none⟩ (.int .i64 x)) :=
 ⟨h.blk.set_ 0 _, h.own1.kept (grownBy_set W bw 0 _) (.inr (own_ne h.own1 (by omega))), h.own2.kept (grownBy_set W bw 0 _) (.inr (own_ne h.own2 (by omega))), h.apart, h.below.setCell (p := ⟨bw, 0, none⟩) h.low _, h.low⟩
theorem Two.app1 {N bw H g cap : Nat} {W0 W W' : World} {st x : Int} {u1 u2 v1 v2 : Value} {xs ys : List Int} (h : Two N bw W0 st u1 u2 v1 v2 xs ys W)
    (ho : W'.ownsRow (bw + 1) 3 1 (.slice (some ⟨g, 0, none⟩) (xs.length + 1) cap) (xs.length + 1) (ints xs ++ [.int .i64 x])) (hg : W.grownBy W' v1.ownBlock) (hat : v1.ownBlock = some g ∨ g = H) (hH : W.heap.size ≤ H) :
    Two N bw W0 st u1 u2 (.slice (some ⟨g, 0, none⟩) (xs.length + 1) cap) v2 (xs ++ [x]) ys W' := by
 refine ⟨h.blk.grown hg (Ne.symm (own_ne h.own1 (by omega))), ?_, h.own2.kept hg ?_, ?_, h.below.grown hg (Nat.le_trans h.low (Nat.le_of_lt h.blk.lt)) (fun k hk => ?_), h.low⟩
 ·rw [List.length_append, ints_snoc]; exact ho
 ·cases hv : v2.ownBlock with
  | none => exact .inl rfl
  | some b => exact .inr fun e => h.apart b e.symm hv
 ·intro b hb1 hb2
  have hbg : b = g := by simp [Value.ownBlock] at hb1; exact hb1.symm
  subst hbg
  rcases hat with hat | hat
  ·exact h.apart b hat hb2
  ·have := (h.own2.lt b hb2).2; omega
 ·have := (h.own1.lt k hk).1; have := h.low; omega
theorem Two.app2 {N bw H g cap : Nat} {W0 W W' : World} {st x : Int} {u1 u2 v1 v2 : Value} {xs ys : List Int} (h : Two N bw W0 st u1 u2 v1 v2 xs ys W)
    (ho : W'.ownsRow (bw + 1) 3 1 (.slice (some ⟨g, 0, none⟩) (ys.length + 1) cap) (ys.length + 1) (ints ys ++ [.int .i64 x])) (hg : W.grownBy W' v2.ownBlock) (hat : v2.ownBlock = some g ∨ g = H) (hH : W.heap.size ≤ H) :
    Two N bw W0 st u1 u2 v1 (.slice (some ⟨g, 0, none⟩) (ys.length + 1) cap) xs (ys ++ [x]) W' := by
 refine ⟨h.blk.grown hg (Ne.symm (own_ne h.own2 (by omega))), h.own1.kept hg ?_, ?_, ?_, h.below.grown hg (Nat.le_trans h.low (Nat.le_of_lt h.blk.lt)) (fun k hk => ?_), h.low⟩
 ·cases hv : v1.ownBlock with
  | none => exact .inl rfl
  | some b => exact .inr fun e => h.apart b hv e.symm
 ·rw [List.length_append, ints_snoc]; exact ho
 ·intro b hb1 hb2
  have hbg : b = g := by simp [Value.ownBlock] at hb2; exact hb2.symm
  subst hbg
  rcases hat with hat | hat
  ·exact h.apart b hb1 hat
  ·have := (h.own1.lt b hb1).2; omega
 ·have := (h.own2.lt k hk).1; have := h.low; omega
theorem Two.start (W1 : World) (st : Int) (cs : Array Value) (hcs : cs = #[.int .i64 st, .slice none 0 0, .slice none 0 0]) : Two W1.heap.size W1.heap.size W1 st (.slice none 0 0) (.slice none 0 0) (.slice none 0 0) (.slice none 0 0) [] [] (W1.alloc (.cells cs 68)) := by
 subst hcs
 exact ⟨Blk.new W1 _ _, World.ownsRow_nil _ _ _ _, World.ownsRow_nil _ _ _ _, fun b h => by simp [Value.ownBlock] at h, (Below.refl _ _).alloc (Nat.le_refl _) _, Nat.le_refl _⟩
end Vw
set_option maxRecDepth 100000 in
set_option maxHeartbeats 4000000 in
theorem refTurn_any (val : Value) (v : AdjV.V) (P : Option Addr) (cp : Nat) (p : List Int) (B : Nat) (w : World) (hB : B ≤ w.heap.size) (h : Vw.ViewAt w B val v) (hp : Vw.IntsAt w B P p) (hp1 : p.length ≤ cp) (hp2 : cp ≤ 9223372036854775807) :
    Calls Try.prog 47 #[val, .slice P p.length cp] w fun e w' => Vw.ViewOut B w w' (AdjV.turn v p) e ∧ Below w.heap.size w w' := by
 have HW := Lib.hid (fun (W : World) (hb : Below w.heap.size w W) => refWrong_any val v B W (Nat.le_trans hB hb.size) (h.below (hb.mono hB)))
 have HV := Lib.hid h
 have HP := Lib.hid hp
 obtain ⟨A, c, A', c', rfl, hd, hs, c1, c2, c3, c4⟩ := h
 have HD := Lib.hid hd
 have HS := Lib.hid hs
 have HB := Lib.hid ((((Below.refl w.heap.size w).alloc (Nat.le_refl _) (.cells #[.int .i64 v.st, .slice A v.dims.length c, .slice A' v.steps.length c'] 68))).alloc (by simp) (.cells #[.int .i64 0, .slice none 0 0, .slice none 0 0] 68))
 clear hd hs hp
 by_cases h0 : AdjV.wrong v = 0
 ·have H0 := Lib.hid h0
  obtain ⟨z1, z2, z3, z4⟩ := AdjV.wrong_fine h0
  have HLS := Lib.hid z2
  have hls : (v.steps.length : Int) = v.dims.length := by omega
  clear h0 z1 z2 z4
  by_cases hlen : p.length = v.dims.length
  ·have hq : ((p.length : Int) != (v.dims.length : Int)) = false := by simp; omega
   have HLEN := Lib.hid hlen
   have HLSI := Lib.hid hls
   clear hlen hls
   go_enter Try.func47, Try.ntmps47
   go_wp2_with fail
   refine (HW.out _ HB.out).mono ?_
   rintro e w1 ⟨rfl, hb1⟩
   rw [H0.out]
   have hx := ((Blk.new w 68 #[.int .i64 v.st, .slice A v.dims.length c, .slice A' v.steps.length c']).alloc (.cells #[.int .i64 0, .slice none 0 0, .slice none 0 0] 68)).below hb1 (by simp; omega)
   have hr := (Vw.blk2 w (.cells #[.int .i64 v.st, .slice A v.dims.length c, .slice A' v.steps.length c'] 68) 68 #[.int .i64 0, .slice none 0 0, .slice none 0 0]).below hb1 (by simp)
   have HX := Lib.hid hx
   have HR := Lib.hid hr
   have HB1 := Lib.hid (HB.out.trans (hb1.mono HB.out.size))
   have hz : w.heap.size + 1 < w1.heap.size := by have := hb1.size; simp at this; omega
   have x1 : w1.cell? ⟨w.heap.size, 1, none⟩ = some (.slice A v.dims.length c) := hx.cell 1
   have x0 : w1.cell? ⟨w.heap.size, 0, none⟩ = some (.int .i64 v.st) := hx.cell 0
   clear hb1 hx hr
   go_wp2_with fail
   have HH := Lib.hid (fun (x : Int) => has_any P cp p x B w1 (by omega) (HP.out.below (HB1.out.mono hB)))
   go_loop [7, 27] (fun _ i => ∃ k : Nat, k ≤ v.dims.length ∧ i = .int .i64 (k : Int) ∧ ∀ j : Nat, j < k → (j : Int) ∈ p) (fun _ i => v.dims.length + 1 - (intOf i).toNat)
   case atStart => exact ⟨0, by omega, rfl, fun j hj => by omega⟩
   case round =>
    obtain ⟨k, hk, rfl, hin⟩ := hrel
    have HIN := Lib.hid hin
    clear hin
    by_cases hlt : k < v.dims.length
    ·have hi1 : (0 : Int) ≤ (k : Int) := by omega
     have hi2 : (k : Int) < (v.dims.length : Int) := by omega
     by_cases hmem : (k : Int) ∈ p
     ·have HD1 := Lib.hid (show decide ((k : Int) ∈ p) = true by simpa using hmem)
      have HMEM := Lib.hid hmem
      clear hmem
      go_wp2_with fail
      refine (HH.out _).mono ?_
      rintro e w2 ⟨rfl, rfl⟩
      rw [HD1.out]
      go_wp2_with fail
      go_round
      case rel => exact ⟨k + 1, by omega, by go_num, fun j hj => by
       by_cases hjk : j < k
       ·exact HIN.out j hjk
       ·obtain rfl : j = k := by omega
        exact HMEM.out⟩
      case measure => simp [intOf]; omega
     ·have HD1 := Lib.hid (show decide ((k : Int) ∈ p) = false by simpa using hmem)
      have HT := Lib.hid (AdjV.turn_bad (p := p) H0.out (AdjV.permOK_lacks hi1 hi2 hmem))
      clear hmem
      have r0 : w1.cell? ⟨w.heap.size + 1, 0, none⟩ = some (.int .i64 0) := HR.out.cell 0
      have r1 : w1.cell? ⟨w.heap.size + 1, 1, none⟩ = some (.slice none 0 0) := HR.out.cell 1
      have r2 : w1.cell? ⟨w.heap.size + 1, 2, none⟩ = some (.slice none 0 0) := HR.out.cell 2
      have f0 := HR.out.frozen 0
      have f1 := HR.out.frozen 1
      have f2 := HR.out.frozen 2
      go_wp2_with fail
      refine (HH.out _).mono ?_
      rintro e w2 ⟨rfl, rfl⟩
      rw [HD1.out]
      go_wp2_with fail
      refine bodyPost_ret (v := .tuple #[.agg #[.int .i64 0, .slice none 0 0, .slice none 0 0], .int .i64 6]) (by simp [results, Try.results47, go_sem, r0, r1, r2]) rfl ⟨?_, ?_⟩
      ·rw [HT.out]; exact Vw.out_none _ _ _ _
      ·exact Vw.three HB1.out (Nat.le_succ _) _ _ _
    ·obtain rfl : k = v.dims.length := by omega
     have HOK := Lib.hid (AdjV.permOK_has HLEN.out HIN.out)
     have x2 : w1.cell? ⟨w.heap.size, 2, none⟩ = some (.slice A' v.steps.length c') := HX.out.cell 2
     obtain ⟨i0, hi, hz0, hz1, hz2⟩ := info_parts Try.infoOf3
     go_wp2_with fail
     go_loopw [10, 41] (fun _ i wr => ∃ (k : Nat) (v1 v2 : Value), k ≤ p.length ∧ i = .int .i64 (k : Int) ∧ Vw.Two w1.heap.size w1.heap.size w1 v.st v1 v2 v1 v2 ((p.take k).map (AdjV.pick v.dims)) ((p.take k).map (AdjV.pick v.steps)) wr) (fun _ i _ => p.length + 1 - (intOf i).toNat)
     case atStart => exact ⟨0, _, _, by omega, rfl, Vw.Two.start w1 v.st _ rfl⟩
     case round =>
      obtain ⟨k, v1, v2, hk, rfl, htwo⟩ := hrel
      obtain ⟨wo, rfl⟩ : ∃ wo : World, wo = wr := ⟨_, rfl⟩
      have HT := Lib.hid htwo
      have HBO := Lib.hid htwo.below
      by_cases hlt : k < p.length
      ·obtain ⟨A1, n1, rfl, hn1⟩ := Vw.own_any htwo.own1
       obtain ⟨A2, n2, rfl, hn2⟩ := Vw.own_any htwo.own2
       obtain ⟨g1, g2, g3, g4⟩ := AdjV.permOK_true HOK.out
       have hxr := g3 _ (List.getElem_mem hlt)
       obtain ⟨pb, poff, rfl, hpb, hpc⟩ := HP.out (by omega)
       have hpk := hpc k hlt
       have HM1 := Lib.hid (AdjV.map_take_next (AdjV.pick v.dims) p k hlt)
       have HM2 := Lib.hid (AdjV.map_take_next (AdjV.pick v.steps) p k hlt)
       have hlk : ((p.take k).map (AdjV.pick v.dims)).length = k := by simp; omega
       have hlk2 : ((p.take k).map (AdjV.pick v.steps)).length = k := by simp; omega
       clear hpc g1 g2 g3 g4 htwo
       generalize p[k] = x at hpk hxr HM1 HM2
       obtain ⟨q, rfl⟩ : ∃ q : Nat, x = (q : Int) := ⟨x.toNat, by omega⟩
       have hq2 : q < v.dims.length := by omega
       have hq3 : q < v.steps.length := by have := HLS.out; omega
       obtain ⟨b, off, rfl, hb, hc⟩ := HD.out (by omega)
       obtain ⟨b', off', rfl, hb', hc'⟩ := HS.out (by omega)
       have hcq := hc q hq2
       have hcq' := hc' q hq3
       have HPK := Lib.hid (AdjV.pick_nat v.dims q hq2)
       have HPK' := Lib.hid (AdjV.pick_nat v.steps q hq3)
       clear hc hc'
       generalize v.dims[q] = d at hcq HPK
       generalize v.steps[q] = s at hcq' HPK'
       rw [HPK.out] at HM1
       rw [HPK'.out] at HM2
       generalize (p.take k).map (AdjV.pick v.dims) = xs at hlk HM1 HT
       generalize (p.take k).map (AdjV.pick v.steps) = ys at hlk2 HM2 HT
       have HL2 := Lib.hid hlk2
       subst hlk
       have hk6 : xs.length ≤ 6 := by have := (AdjV.size_fine (AdjV.wrong_fine H0.out).1).1; have := HLEN.out; omega
       have hk6' : ys.length ≤ 6 := by have := HL2.out; omega
       clear hlk2
       have e1 : wo.cell? ⟨w1.heap.size, 1, none⟩ = some (.slice A1 xs.length n1) := HT.out.blk.cell 1
       have e3 : wo.cell? ⟨w.heap.size, 1, none⟩ = some (.slice (some ⟨b, off, none⟩) v.dims.length c) := (HBO.out.cell (p := ⟨w.heap.size, 1, none⟩) (by simp; omega)).trans x1
       have e5 : wo.cell? ⟨b, off + q, none⟩ = some (.int .i64 d) := (HBO.out.cell (p := ⟨b, off + q, none⟩) (by simp; omega)).trans ((HB1.out.cell (p := ⟨b, off + q, none⟩) (by simp; omega)).trans hcq)
       have e7 : wo.cell? ⟨pb, poff + xs.length, none⟩ = some (.int .i64 (q : Int)) := (HBO.out.cell (p := ⟨pb, poff + xs.length, none⟩) (by simp; omega)).trans ((HB1.out.cell (p := ⟨pb, poff + xs.length, none⟩) (by simp; omega)).trans hpk)
       have f1 := HT.out.blk.frozen 1
       have fz : ∀ o, (wo.alloc o).frozen? ⟨w1.heap.size, 1, none⟩ = false := fun o => (HT.out.alloc o).blk.frozen 1
       have i1 : (0 : Int) ≤ (xs.length : Int) := by omega
       have i2 : (xs.length : Int) < (p.length : Int) := by omega
       have i3 : (0 : Int) ≤ (q : Int) := by omega
       have i4 : (q : Int) < (v.dims.length : Int) := by omega
       have i5 : (q : Int) < (v.steps.length : Int) := by omega
       have hsz : w1.heap.size < wo.heap.size := HT.out.blk.lt
       have E5 := Lib.hid ((HB1.out.cell (p := ⟨b', off' + q, none⟩) (by simp; omega)).trans hcq')
       clear hpk hxr hcq hcq'
       go_wp2_with fail
       refine wp_region_T (fun w' => w'.cell? ⟨w1.heap.size, 1, none⟩ = some (.slice A1 xs.length n1) ∧ w'.cell? ⟨w.heap.size, 1, none⟩ = some (.slice (some ⟨b, off, none⟩) v.dims.length c) ∧ w'.cell? ⟨b, off + q, none⟩ = some (.int .i64 d)) 9 (fun _ => True) 9 11 rfl (by kernel_rfl) ⟨⟨e1, e3, e5⟩, trivial⟩ (fun hHeld => ?_)
       simp only [List.replicate_succ, List.replicate_zero]
       refine tk (v := ?_) [] 0 45 hHeld ?_ ?_; rotate_left; (intro w h; (try dsimp only at h); go_simp; try with_reducible rfl); try simp only [Act.put, zA, zB, zC]
       refine tk (v := ?_) [] 1 46 hHeld ?_ ?_; rotate_left; (intro w h; (try dsimp only at h); go_simp; try with_reducible rfl); try simp only [Act.put, zA, zB, zC]
       refine tk (v := ?_) [] 2 47 hHeld ?_ ?_; rotate_left; (intro w h; (try dsimp only at h); go_simp; try with_reducible rfl); try simp only [Act.put, zA, zB, zC]
       refine tk (v := ?_) [] 3 48 hHeld ?_ ?_; rotate_left; (intro w h; (try dsimp only at h); go_simp; try with_reducible rfl); try simp only [Act.put, zA, zB, zC]
       refine tk (v := ?_) [] 4 49 hHeld ?_ ?_; rotate_left; (intro w h; (try dsimp only at h); go_simp; try with_reducible rfl); try simp only [Act.put, zA, zB, zC]
       refine tk (v := ?_) [] 5 50 hHeld ?_ ?_; rotate_left; (intro w h; (try dsimp only at h); go_simp; try with_reducible rfl); try simp only [Act.put, zA, zB, zC]
       refine tk (v := ?_) [] 6 51 hHeld ?_ ?_; rotate_left; (intro w h; (try dsimp only at h); go_simp; try with_reducible rfl); try simp only [Act.put, zA, zB, zC]
       refine wpT_one 7 (by kernel_rfl) (stepT_early rfl rfl (fun K hK => ?_))
       go_simp
       refine hK.out _ _ ?_ (fun hHeld => ?_)
       ·exact ⟨⟨by go_keep, by go_keep, by go_keep⟩, trivial⟩
       clear hK K
       try simp only [zA, zB, zC]
       refine wpT_one 8 (by kernel_rfl) (stepT_early rfl rfl (fun K hK => ?_))
       refine wp_append_lies _ _ _ _ (by rfl) (w1.heap.size + 1) 3 i0 _ 1 8 Try.underlying23 hi hz0 hz1 hz2 rfl (by omega) (.slice A1 xs.length n1) xs.length (ints xs) (by rfl) (HT.out.drew.alloc _).own1 ⟨wo.heap.size, 0, none⟩ 1 1 [.int .i64 d] (by rfl) (by rfl) (World.news_of_block (cs := #[.int .i64 d]) (t := 3) (fr := (0, 0)) (heap_alloc_new _ _)) (Adj.one_one _ _) (by omega) (by unfold maxLen; omega) (by omega) (by simp; omega) (wo.heap.size + 1) (by simp) ?_
       intro gg capg w3 hown1 hgrow hat hltg
       refine hK.out _ _ ?_ (fun hHeld => ?_)
       ·exact ⟨⟨(hgrow.cell_far _ (by simp; omega) (Ne.symm (Vw.own_ne HT.out.own1 (by simp)))).trans (by go_keep), (hgrow.cell_far _ (by simp; omega) (Ne.symm (Vw.own_ne HT.out.own1 (by simp; omega)))).trans (by go_keep), (hgrow.cell_far _ (by simp; omega) (Ne.symm (Vw.own_ne HT.out.own1 (by simp; omega)))).trans (by go_keep)⟩, trivial⟩
       clear hK K
       try simp only [zA, zB, zC]
       refine wpT_tail [_, _] 9 [10] rfl (by kernel_rfl) ?_
       have HT3 := Lib.hid ((HT.out.drew.alloc _).app1 hown1 hgrow hat (by simp))
       have c31 : w3.cell? ⟨w1.heap.size, 1, none⟩ = some (.slice A1 xs.length n1) := HT3.out.blk.cell 1
       have f31 := HT3.out.blk.frozen 1
       clear hown1 hgrow hat hHeld hltg
       go_wp2_with fail
       have HT4 := Lib.hid (HT3.out.set1 (.slice (some ⟨gg, 0, none⟩) (xs.length + 1) capg))
       generalize hW2 : (w3.setCell ⟨w1.heap.size, 1, none⟩ (.slice (some ⟨gg, 0, none⟩) (xs.length + 1) capg)) = W2 at HT4 ⊢
       clear hW2 c31 f31 HT3 e1 e3 e5 e7 f1 fz HT HBO hsz
       have HBO := Lib.hid HT4.out.below
       have hsz : w1.heap.size < W2.heap.size := HT4.out.blk.lt
       have e1 : W2.cell? ⟨w1.heap.size, 2, none⟩ = some (.slice A2 ys.length n2) := HT4.out.blk.cell 2
       have e3 : W2.cell? ⟨w.heap.size, 2, none⟩ = some (.slice (some ⟨b', off', none⟩) v.steps.length c') := (HBO.out.cell (p := ⟨w.heap.size, 2, none⟩) (by simp; omega)).trans x2
       have e5 : W2.cell? ⟨b', off' + q, none⟩ = some (.int .i64 s) := (HBO.out.cell (p := ⟨b', off' + q, none⟩) (by simp; omega)).trans E5.out
       refine wp_region_T (fun w' => w'.cell? ⟨w1.heap.size, 2, none⟩ = some (.slice A2 ys.length n2) ∧ w'.cell? ⟨w.heap.size, 2, none⟩ = some (.slice (some ⟨b', off', none⟩) v.steps.length c') ∧ w'.cell? ⟨b', off' + q, none⟩ = some (.int .i64 s)) 9 (fun _ => True) 9 11 rfl (by kernel_rfl) ⟨⟨e1, e3, e5⟩, trivial⟩ (fun hHeld => ?_)
       simp only [List.replicate_succ, List.replicate_zero]
       refine tk (v := ?_) [] 0 55 hHeld ?_ ?_; rotate_left; (intro w h; (try dsimp only at h); go_simp; try with_reducible rfl); try simp only [Act.put, zA, zB, zC]
       refine tk (v := ?_) [] 1 56 hHeld ?_ ?_; rotate_left; (intro w h; (try dsimp only at h); go_simp; try with_reducible rfl); try simp only [Act.put, zA, zB, zC]
       refine tk (v := ?_) [] 2 57 hHeld ?_ ?_; rotate_left; (intro w h; (try dsimp only at h); go_simp; try with_reducible rfl); try simp only [Act.put, zA, zB, zC]
       refine tk (v := ?_) [] 3 58 hHeld ?_ ?_; rotate_left; (intro w h; (try dsimp only at h); go_simp; try with_reducible rfl); try simp only [Act.put, zA, zB, zC]
       refine tk (v := ?_) [] 4 59 hHeld ?_ ?_; rotate_left; (intro w h; (try dsimp only at h); go_simp; try with_reducible rfl); try simp only [Act.put, zA, zB, zC]
       refine tk (v := ?_) [] 5 60 hHeld ?_ ?_; rotate_left; (intro w h; (try dsimp only at h); go_simp; try with_reducible rfl); try simp only [Act.put, zA, zB, zC]
       refine tk (v := ?_) [] 6 61 hHeld ?_ ?_; rotate_left; (intro w h; (try dsimp only at h); go_simp; try with_reducible rfl); try simp only [Act.put, zA, zB, zC]
       refine wpT_one 7 (by kernel_rfl) (stepT_early rfl rfl (fun K hK => ?_))
       go_simp
       refine hK.out _ _ ?_ (fun hHeld => ?_)
       ·exact ⟨⟨by go_keep, by go_keep, by go_keep⟩, trivial⟩
       clear hK K
       try simp only [zA, zB, zC]
       refine wpT_one 8 (by kernel_rfl) (stepT_early rfl rfl (fun K hK => ?_))
       refine wp_append_lies _ _ _ _ (by rfl) (w1.heap.size + 1) 3 i0 _ 1 8 Try.underlying23 hi hz0 hz1 hz2 rfl (by omega) (.slice A2 ys.length n2) ys.length (ints ys) (by rfl) (HT4.out.drew.alloc _).own2 ⟨W2.heap.size, 0, none⟩ 1 1 [.int .i64 s] (by rfl) (by rfl) (World.news_of_block (cs := #[.int .i64 s]) (t := 3) (fr := (0, 0)) (heap_alloc_new _ _)) (Adj.one_one _ _) (by omega) (by unfold maxLen; omega) (by omega) (by simp; omega) (W2.heap.size + 1) (by simp) ?_
       intro gg capg w3 hown1 hgrow hat hltg
       refine hK.out _ _ ?_ (fun hHeld => ?_)
       ·exact ⟨⟨(hgrow.cell_far _ (by simp; omega) (Ne.symm (Vw.own_ne HT4.out.own2 (by simp)))).trans (by go_keep), (hgrow.cell_far _ (by simp; omega) (Ne.symm (Vw.own_ne HT4.out.own2 (by simp; omega)))).trans (by go_keep), (hgrow.cell_far _ (by simp; omega) (Ne.symm (Vw.own_ne HT4.out.own2 (by simp; omega)))).trans (by go_keep)⟩, trivial⟩
       clear hK K
       try simp only [zA, zB, zC]
       refine wpT_tail [_, _] 9 [10] rfl (by kernel_rfl) ?_
       have HT5 := Lib.hid ((HT4.out.drew.alloc _).app2 hown1 hgrow hat (by simp))
       have c31 : w3.cell? ⟨w1.heap.size, 2, none⟩ = some (.slice A2 ys.length n2) := HT5.out.blk.cell 2
       have f31 := HT5.out.blk.frozen 2
       clear hown1 hgrow hat hHeld hltg e1 e3 e5
       go_wp2_with fail
       have HT6 := Lib.hid (HT5.out.set2 (.slice (some ⟨gg, 0, none⟩) (ys.length + 1) capg))
       first
        | exact ⟨⟨xs.length + 1, _, _, by omega, by go_num, by rw [HM1.out, HM2.out]; exact HT6.out⟩, by simp [intOf]; omega⟩
        | (go_roundw
           case rel => exact ⟨xs.length + 1, _, _, by omega, by go_num, by rw [HM1.out, HM2.out]; exact HT6.out⟩
           case measure => simp [intOf]; omega)
      ·obtain rfl : k = p.length := by omega
       rw [List.take_length] at htwo HT
       have HTU := Lib.hid (AdjV.turn_ok (p := p) H0.out HOK.out)
       obtain ⟨A1, n1, hv1, ia1, la1, ma1, ga1⟩ := Vw.own_view htwo.own1
       obtain ⟨A2, n2, hv2, ia2, la2, ma2, ga2⟩ := Vw.own_view htwo.own2
       subst hv1 hv2
       have hr := HR.out.below HBO.out (by omega)
       have e0 : wo.cell? ⟨w1.heap.size, 0, none⟩ = some (.int .i64 v.st) := htwo.blk.cell 0
       have e1 : wo.cell? ⟨w1.heap.size, 1, none⟩ = some (.slice A1 (p.map (AdjV.pick v.dims)).length n1) := htwo.blk.cell 1
       have e2 : wo.cell? ⟨w1.heap.size, 2, none⟩ = some (.slice A2 (p.map (AdjV.pick v.steps)).length n2) := htwo.blk.cell 2
       have r0 : wo.cell? ⟨w.heap.size + 1, 0, none⟩ = some (.int .i64 0) := hr.cell 0
       have r1 : wo.cell? ⟨w.heap.size + 1, 1, none⟩ = some (.slice none 0 0) := hr.cell 1
       have r2 : wo.cell? ⟨w.heap.size + 1, 2, none⟩ = some (.slice none 0 0) := hr.cell 2
       have f0 := hr.frozen 0
       have f1 := hr.frozen 1
       have f2 := hr.frozen 2
       have IA1 := Lib.hid (ia1.set3 (c := w.heap.size + 1) (fun b off e hp => by have := ga1 b off e hp; omega) (.int .i64 v.st) (.slice A1 (p.map (AdjV.pick v.dims)).length n1) (.slice A2 (p.map (AdjV.pick v.steps)).length n2))
       have IA2 := Lib.hid (ia2.set3 (c := w.heap.size + 1) (fun b off e hp => by have := ga2 b off e hp; omega) (.int .i64 v.st) (.slice A1 (p.map (AdjV.pick v.dims)).length n1) (.slice A2 (p.map (AdjV.pick v.steps)).length n2))
       have HBF := Lib.hid (Vw.three (HB1.out.trans (HBO.out.mono HB1.out.size)) (Nat.le_succ w.heap.size) (.int .i64 v.st) (.slice A1 (p.map (AdjV.pick v.dims)).length n1) (.slice A2 (p.map (AdjV.pick v.steps)).length n2))
       have HGA := Lib.hid (And.intro ga1 ga2)
       clear htwo hr ia1 ia2 ga1 ga2 HT
       generalize hxs : p.map (AdjV.pick v.dims) = xs at *
       generalize hys : p.map (AdjV.pick v.steps) = ys at *
       have HXS := Lib.hid hxs
       have HYS := Lib.hid hys
       clear hxs hys
       go_wp2_with fail
       refine bodyPost_ret (v := .tuple #[.agg #[.int .i64 v.st, .slice A1 xs.length n1, .slice A2 ys.length n2], .int .i64 0]) (by simp [results, Try.results47, go_sem, r0, r1, r2]) rfl ⟨?_, HBF.out⟩
       rw [HTU.out]
       exact Vw.out_mk ⟨A1, n1, A2, n2, rfl, IA1.out.up (by simp), IA2.out.up (by simp), la1, ma1, la2, ma2⟩ (fun b off e hp => by have := HGA.out.1 b off e hp; omega) (fun b off e hp => by have := HGA.out.2 b off e hp; omega)
  ·have hq : ((p.length : Int) != (v.dims.length : Int)) = true := by simp; omega
   have HT := Lib.hid (AdjV.turn_bad (p := p) H0.out (AdjV.permOK_len hlen))
   clear hlen
   go_enter Try.func47, Try.ntmps47
   go_wp2_with fail
   refine (HW.out _ HB.out).mono ?_
   rintro e w1 ⟨rfl, hb1⟩
   rw [H0.out]
   obtain ⟨hc, hf⟩ := bcell hb1
   have hz : w.heap.size + 1 < w1.heap.size := by have := hb1.size; simp at this; omega
   go_wp2_with fail
   refine bodyPost_ret (v := .tuple #[.agg #[.int .i64 0, .slice none 0 0, .slice none 0 0], .int .i64 6]) (by simp [results, Try.results47, go_sem, hc]) rfl ⟨?_, ?_⟩
   ·rw [HT.out]; exact Vw.out_none _ _ _ _
   ·exact Vw.three (HB.out.trans (hb1.mono HB.out.size)) (Nat.le_succ _) _ _ _
 ·have HT := Lib.hid (AdjV.turn_wrong (p := p) h0)
  have hq : (AdjV.wrong v != 0) = true := by simpa using h0
  clear h0
  go_enter Try.func47, Try.ntmps47
  go_wp2_with fail
  refine (HW.out _ HB.out).mono ?_
  rintro e w1 ⟨rfl, hb1⟩
  obtain ⟨hc, hf⟩ := bcell hb1
  have hz : w.heap.size + 1 < w1.heap.size := by have := hb1.size; simp at this; omega
  go_wp2_with fail
  refine bodyPost_ret (v := .tuple #[.agg #[.int .i64 0, .slice none 0 0, .slice none 0 0], .int .i64 (AdjV.wrong v)]) (by simp [results, Try.results47, go_sem, hc]) rfl ⟨?_, ?_⟩
  ·rw [HT.out]; exact Vw.out_none _ _ _ _
  ·exact Vw.three (HB.out.trans (hb1.mono HB.out.size)) (Nat.le_succ _) _ _ _
end Go.Proofs.Ytapedmpbkffopaa
end
