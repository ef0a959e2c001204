/-
  The walk of array.pair. Conditions: where the theorems name them.
-/
import Derived.Test.YtapedmpbkffopaaZ02
import Derived.Test.YtapedmpbkffopaaZ17
import Derived.Test.YtapedmpbkffopaaZ19
import Derived.Laws.EntriesVeiled
section
namespace Go.Proofs.Ytapedmpbkffopaa
set_option linter.unusedVariables false
open Go.RowKit Adj
namespace Ar
theorem once_in {l : List Int} {n : Nat} (h : AdjD.onceB l n = true) {k : Nat} (hk : k < l.length) : 0 ≤ l[k] ∧ l[k] < (n : Int) := by
 unfold AdjD.onceB at h
 rw [Bool.and_eq_true] at h
 have h1 := List.all_eq_true.1 h.1 _ (List.getElem_mem hk)
 simp only [Bool.and_eq_true, decide_eq_true_eq] at h1
 exact h1
theorem nodup_fit : ∀ {l m : List Int}, l.Nodup → (∀ x ∈ l, x ∈ m) → l.length ≤ m.length
 | [], _, _, _ => Nat.zero_le _
 | a :: l, m, hn, hs => by
  have hn2 := List.nodup_cons.1 hn
  have hm : a ∈ m := hs a List.mem_cons_self
  have h1 := nodup_fit (l := l) (m := m.erase a) hn2.2 (fun x hx => by
   have hne : x ≠ a := fun e => hn2.1 (e ▸ hx)
   exact (List.mem_erase_of_ne hne).2 (hs x (List.mem_cons_of_mem _ hx)))
  have h2 := List.length_erase_of_mem hm
  have h3 : 0 < m.length := List.length_pos_of_mem hm
  simp only [List.length_cons]
  omega
theorem once_len {l : List Int} {n : Nat} (h : AdjD.onceB l n = true) : l.length ≤ n := by
 unfold AdjD.onceB at h
 rw [Bool.and_eq_true] at h
 have h1 := List.all_eq_true.1 h.1
 have h2 : l.Nodup := of_decide_eq_true h.2
 have h3 := nodup_fit (m := (List.range n).map (fun (k : Nat) => (k : Int))) h2 (fun x hx => by
  have h4 := h1 x hx
  simp only [Bool.and_eq_true, decide_eq_true_eq] at h4
  exact List.mem_map.2 ⟨x.toNat, List.mem_range.2 (by omega), by omega⟩)
 rw [List.length_map, List.length_range] at h3
 exact h3
theorem four_no {p q : Nat} {r s : Nat} {x y : Bool} (h1 : p = q) (h2 : r = s) (h3 : x = true) (h4 : y = true) : ¬ (p ≠ q ∨ r ≠ s ∨ x = false ∨ y = false) := by
 rintro (h | h | h | h)
 ·exact h h1
 ·exact h h2
 ·rw [h3] at h; cases h
 ·rw [h4] at h; cases h
theorem chosen_at {a b la lb : List Int} (h : AdjD.chosen a la = AdjD.chosen b lb) {k : Nat} (h1 : k < la.length) (h2 : k < lb.length) : AdjV.pick a la[k] = AdjV.pick b lb[k] := by
 have e1 : (AdjD.chosen a la)[k]? = some (AdjV.pick a la[k]) := by unfold AdjD.chosen; rw [List.getElem?_map, List.getElem?_eq_getElem h1]; rfl
 have e2 : (AdjD.chosen b lb)[k]? = some (AdjV.pick b lb[k]) := by unfold AdjD.chosen; rw [List.getElem?_map, List.getElem?_eq_getElem h2]; rfl
 rw [h, e2] at e1
 injection e1 with e1
 exact e1.symm
theorem seven {N b : Nat} {w w1 : World} (h : Below N w w1) (hb : N ≤ b) (x0 x1 x2 x3 x4 x5 x6 : Value) : Below N w (((((((w1.setCell ⟨b, 0, none⟩ x0).setCell ⟨b, 1, none⟩ x1).setCell ⟨b, 2, none⟩ x2).setCell ⟨b, 3, none⟩ x3).setCell ⟨b, 4, none⟩ x4).setCell ⟨b, 5, none⟩ x5).setCell ⟨b, 6, none⟩ x6) :=
 ((((((h.setCell (p := ⟨b, 0, none⟩) hb x0).setCell (p := ⟨b, 1, none⟩) hb x1).setCell (p := ⟨b, 2, none⟩) hb x2).setCell (p := ⟨b, 3, none⟩) hb x3).setCell (p := ⟨b, 4, none⟩) hb x4).setCell (p := ⟨b, 5, none⟩) hb x5).setCell (p := ⟨b, 6, none⟩) hb x6
theorem own_set {w : World} {base size n : Nat} {e : TypeId} {v : Value} {xs : List Value} (h : w.ownsRow base e size v n xs) {p : Addr} (hp : ∀ g, v.ownBlock = some g → g ≠ p.block) (u : Value) : (w.setCell p u).ownsRow base e size v n xs :=
 own_keep h (fun g hg => Below.heap_setCell w p u g (hp g hg))
theorem own_seven {w : World} {base size n b : Nat} {e : TypeId} {v : Value} {xs : List Value} (h : w.ownsRow base e size v n xs) (hb : b < base) (x0 x1 x2 x3 x4 x5 x6 : Value) :
    (((((((w.setCell ⟨b, 0, none⟩ x0).setCell ⟨b, 1, none⟩ x1).setCell ⟨b, 2, none⟩ x2).setCell ⟨b, 3, none⟩ x3).setCell ⟨b, 4, none⟩ x4).setCell ⟨b, 5, none⟩ x5).setCell ⟨b, 6, none⟩ x6).ownsRow base e size v n xs := by
 have k : ∀ g, v.ownBlock = some g → g ≠ b := fun g hg => by have := (own_lt h hg).1; omega
 exact own_set (own_set (own_set (own_set (own_set (own_set (own_set h (p := ⟨b, 0, none⟩) k x0) (p := ⟨b, 1, none⟩) k x1) (p := ⟨b, 2, none⟩) k x2) (p := ⟨b, 3, none⟩) k x3) (p := ⟨b, 4, none⟩) k x4) (p := ⟨b, 5, none⟩) k x5) (p := ⟨b, 6, none⟩) k x6
def pairInner (op : AdjD.Op) (a b : List Int) : Int := if (AdjD.pairDims op a b).2 = 0 then (AdjD.chosen a op.at_).foldl capped 1 else 0
end Ar
set_option maxRecDepth 100000 in
set_option maxHeartbeats 16000000 in
theorem Ar.pair_any (val : Value) (op : AdjD.Op) (Aa Ab : Option Addr) (ca cb : Nat) (a b : List Int) (B : Nat) (w : World) (hB : B ≤ w.heap.size) (ha6 : a.length ≤ 6) (hb6 : b.length ≤ 6) (hap : ∀ x ∈ a, 0 ≤ x ∧ x ≤ 4096) (hbp : ∀ x ∈ b, 0 ≤ x ∧ x ≤ 4096)
    (hl : op.lo.length ≤ 4194304 ∧ op.at_.length ≤ 4194304 ∧ op.hi.length ≤ 4194304 ∧ op.step.length ≤ 4194304) (hop : Ar.OpAt w B val op) (h1 : Vw.IntsAt w B Aa a) (h2 : Vw.IntsAt w B Ab b) :
    Calls Try.prog 39 #[val, .slice Aa a.length ca, .slice Ab b.length cb] w fun e w' => ∃ pA nA kA pB nB kB vd y3 y4 y5, e = .returned (.tuple #[.agg #[.slice pA nA kA, .slice pB nB kB, vd, .int .i64 y3, .int .i64 y4, .int .i64 y5, .int .i64 (Ar.pairInner op a b)], .int .i64 (AdjD.pairDims op a b).2]) ∧ w'.ownsRow w.heap.size 3 1 vd (AdjD.pairDims op a b).1.length (ints (AdjD.pairDims op a b).1) ∧ Below w.heap.size w w' := by
 obtain ⟨v1, v2, v3, v4, v5, rfl, _, ⟨T, ct, rfl, it, lt, mt⟩, ⟨O, co, rfl, io, lo, mo⟩, ⟨I, ci, rfl, ii, li, mi⟩, ⟨S, cs, rfl, is, ls, ms⟩⟩ := hop
 obtain ⟨hl1, hl2, hl3, hl4⟩ := hl
 have HL := Lib.hid (fun W (hb : Below w.heap.size w W) => And.intro (show Ar.SlAt W W.heap.size (.slice O op.lo.length co) op.lo from ⟨O, co, rfl, (io.below (hb.mono hB)).up (by have := hb.size; omega), lo, mo⟩) (And.intro (show Ar.SlAt W W.heap.size (.slice T op.at_.length ct) op.at_ from ⟨T, ct, rfl, (it.below (hb.mono hB)).up (by have := hb.size; omega), lt, mt⟩)
  (And.intro (show Ar.SlAt W W.heap.size (.slice I op.hi.length ci) op.hi from ⟨I, ci, rfl, (ii.below (hb.mono hB)).up (by have := hb.size; omega), li, mi⟩) (show Ar.SlAt W W.heap.size (.slice S op.step.length cs) op.step from ⟨S, cs, rfl, (is.below (hb.mono hB)).up (by have := hb.size; omega), ls, ms⟩))))
 have HAB := Lib.hid (fun W (hb : Below w.heap.size w W) => And.intro (h1.below (hb.mono hB)) (h2.below (hb.mono hB)))
 have HPP := Lib.hid (And.intro hap hbp)
 have HE := Lib.hid (show AdjD.pairDims op a b = if op.at_.length ≠ op.step.length ∨ op.lo.length ≠ op.hi.length ∨ AdjD.onceB (op.lo ++ op.at_) a.length = false ∨ AdjD.onceB (op.hi ++ op.step) b.length = false then ([], 6) else if AdjD.chosen a (op.lo ++ op.at_) ≠ AdjD.chosen b (op.hi ++ op.step) then ([], 6) else (AdjD.chosen a op.lo ++ AdjD.chosen a (AdjD.free a (op.lo ++ op.at_)) ++ AdjD.chosen b (AdjD.free b (op.hi ++ op.step)), 0) from rfl)
 clear io it ii is h1 h2 hap hbp lt lo li ls mt mo mi ms
 have HX := Lib.hid (Blk.new w 37 #[.int .i64 op.kind, v1, .slice T op.at_.length ct, .slice O op.lo.length co, .slice I op.hi.length ci, .slice S op.step.length cs, .int .i64 op.value])
 have HB := Lib.hid ((Below.refl w.heap.size w).alloc (Nat.le_refl _) (.cells #[.int .i64 op.kind, v1, .slice T op.at_.length ct, .slice O op.lo.length co, .slice I op.hi.length ci, .slice S op.step.length cs, .int .i64 op.value] 37))
 obtain ⟨w0, hw0⟩ : ∃ w0, w.alloc (.cells #[.int .i64 op.kind, v1, .slice T op.at_.length ct, .slice O op.lo.length co, .slice I op.hi.length ci, .slice S op.step.length cs, .int .i64 op.value] 37) = w0 := ⟨_, rfl⟩
 rw [hw0] at HX HB
 have HR0 := Lib.hid (Blk.new w0 62 #[.slice none 0 0, .slice none 0 0, .slice none 0 0, .int .i64 0, .int .i64 0, .int .i64 0, .int .i64 0])
 have HS0 := Lib.hid ((Below.refl w0.heap.size w0).alloc (Nat.le_refl _) (.cells #[.slice none 0 0, .slice none 0 0, .slice none 0 0, .int .i64 0, .int .i64 0, .int .i64 0, .int .i64 0] 62))
 have HBB := Lib.hid (HB.out.trans (HS0.out.mono HB.out.size))
 have HX0 := Lib.hid (HX.out.below HS0.out HX.out.lt)
 obtain ⟨ww, hww⟩ : ∃ ww, w0.alloc (.cells #[.slice none 0 0, .slice none 0 0, .slice none 0 0, .int .i64 0, .int .i64 0, .int .i64 0, .int .i64 0] 62) = ww := ⟨_, rfl⟩
 rw [hww] at HR0 HS0 HBB HX0
 have hsw : w.heap.size < w0.heap.size := HX.out.lt
 have hsw2 : w0.heap.size < ww.heap.size := HR0.out.lt
 go_enter Try.func39, Try.ntmps39
 go_wp2_with fail
 go_cut [8, 9] (fun v8 v9 wx => Below ww.heap.size ww wx ∧ Ar.SlAt wx wx.heap.size v8 (op.lo ++ op.at_) ∧ Ar.SlAt wx wx.heap.size v9 (op.hi ++ op.step))
 case first =>
  have HSK := Lib.hid (fun W (hb : Below ww.heap.size ww W) => show W.cell? ⟨w.heap.size, 3, none⟩ = some (.slice O op.lo.length co) ∧ W.cell? ⟨w.heap.size, 2, none⟩ = some (.slice T op.at_.length ct) ∧ W.cell? ⟨w.heap.size, 4, none⟩ = some (.slice I op.hi.length ci) ∧ W.cell? ⟨w.heap.size, 5, none⟩ = some (.slice S op.step.length cs) from ⟨(HX0.out.below hb HX0.out.lt).cell 3, (HX0.out.below hb HX0.out.lt).cell 2, (HX0.out.below hb HX0.out.lt).cell 4, (HX0.out.below hb HX0.out.lt).cell 5⟩)
  have HB0 := Lib.hid (show Below ww.heap.size ww ww.drew from (Below.refl _ _).drew)
  refine wp_region_T (fun w' => w'.cell? ⟨w.heap.size, 3, none⟩ = some (.slice O op.lo.length co) ∧ w'.cell? ⟨w.heap.size, 2, none⟩ = some (.slice T op.at_.length ct) ∧ w'.cell? ⟨w.heap.size, 4, none⟩ = some (.slice I op.hi.length ci) ∧ w'.cell? ⟨w.heap.size, 5, none⟩ = some (.slice S op.step.length cs)) 13 (fun _ => True) 13 14 rfl (by kernel_rfl) ⟨HSK.out _ HB0.out, trivial⟩ (fun hHeld => ?_)
  simp only [List.replicate_succ, List.replicate_zero]
  refine tk (v := ?_) [] 0 20 hHeld ?_ ?_; rotate_left; (intro w h; (try dsimp only at h); go_simp; try with_reducible rfl); try simp only [Act.put, zA, zB, zC]
  refine tk (v := ?_) [] 1 21 hHeld ?_ ?_; rotate_left; (intro w h; (try dsimp only at h); go_simp; try with_reducible rfl); try simp only [Act.put, zA, zB, zC]
  refine tk (v := ?_) [] 2 22 hHeld ?_ ?_; rotate_left; (intro w h; (try dsimp only at h); go_simp; try with_reducible rfl); try simp only [Act.put, zA, zB, zC]
  refine tk (v := ?_) [] 3 23 hHeld ?_ ?_; rotate_left; (intro w h; (try dsimp only at h); go_simp; try with_reducible rfl); try simp only [Act.put, zA, zB, zC]
  refine tk (v := ?_) [] 6 26 hHeld ?_ ?_; rotate_left; (intro w h; (try dsimp only at h); go_simp; try with_reducible rfl); try simp only [Act.put, zA, zB, zC]
  refine tk (v := ?_) [] 7 27 hHeld ?_ ?_; rotate_left; (intro w h; (try dsimp only at h); go_simp; try with_reducible rfl); try simp only [Act.put, zA, zB, zC]
  refine tk (v := ?_) [] 8 28 hHeld ?_ ?_; rotate_left; (intro w h; (try dsimp only at h); go_simp; try with_reducible rfl); try simp only [Act.put, zA, zB, zC]
  refine tk (v := ?_) [] 9 29 hHeld ?_ ?_; rotate_left; (intro w h; (try dsimp only at h); go_simp; try with_reducible rfl); try simp only [Act.put, zA, zB, zC]
  generalize ww.drew = W0 at HB0 hHeld ⊢
  refine wpT_two 4 10 (by kernel_rfl) (stepT_early rfl rfl (fun K hK => ?_)) (stepT_early rfl rfl (fun K hK => ?_))
  ·skip
   go_simp
   have HS1 := Lib.hid ((Below.refl W0.heap.size W0).alloc (Nat.le_refl _) (.cells #[.slice O op.lo.length co, .slice T op.at_.length ct] 23))
   have HB1 := Lib.hid (HB0.out.trans (HS1.out.mono HB0.out.size))
   have HK1 := Lib.hid (Blk.new W0 23 #[.slice O op.lo.length co, .slice T op.at_.length ct])
   have hz1 : W0.heap.size < (W0.alloc (.cells #[.slice O op.lo.length co, .slice T op.at_.length ct] 23)).heap.size := by simp
   have HG1 := Lib.hid (HSK.out _ HB1.out)
   refine hK.out _ _ ⟨HG1.out, trivial⟩ (fun hHeld2 => ?_)
   clear hK K hHeld
   have hHeld := hHeld2
   clear hHeld2
   try simp only [zA, zB, zC]
   generalize W0.alloc (.cells #[.slice O op.lo.length co, .slice T op.at_.length ct] 23) = W1 at HS1 HB1 HK1 hz1 HG1 hHeld ⊢
   have HL1 := Lib.hid (fun W (hb : Below W1.heap.size W1 W) => Ar.lists2 (HK1.out.below hb HK1.out.lt) (Nat.lt_of_lt_of_le HK1.out.lt hb.size) ((fun W (hb : Below ww.heap.size ww W) => (HL.out W (HBB.out.trans (hb.mono HBB.out.size))).1) W (HB1.out.trans (hb.mono HB1.out.size))) ((fun W (hb : Below ww.heap.size ww W) => (HL.out W (HBB.out.trans (hb.mono HBB.out.size))).2.1) W (HB1.out.trans (hb.mono HB1.out.size))))
   refine wpT_two 5 10 (by kernel_rfl) (stepT_early rfl rfl (fun K hK => ?_)) (stepT_early rfl rfl (fun K hK => ?_))
   ·skip
    go_simp
    have HC1 := Lib.hid (Ar.concat2_any (W0.heap.size) (op.lo) (op.at_) W1 (by omega) (HL1.out W1 (Below.refl W1.heap.size W1)))
    ((with_reducible refine HC1.out.mono ?_); rintro e W2 ⟨v, rfl, ho, hb⟩)
    have HS2 := Lib.hid hb
    have HB2 := Lib.hid (HB1.out.trans (hb.mono HB1.out.size))
    have HV1 := Lib.hid (Ar.sl_own ho)
    obtain ⟨Ar1, cr1, hv1, _⟩ := Vw.own_any ho
    subst hv1
    have hz2 : W1.heap.size ≤ W2.heap.size := hb.size
    have HG2 := Lib.hid (HSK.out _ HB2.out)
    clear ho hb
    try go_simp
    refine hK.out _ _ ⟨HG2.out, trivial⟩ (fun hHeld2 => ?_)
    clear hK K hHeld
    have hHeld := hHeld2
    clear hHeld2
    try simp only [zA, zB, zC]
    refine wpT_one 10 (by kernel_rfl) (stepT_early rfl rfl (fun K hK => ?_))
    go_simp
    have HS3 := Lib.hid ((Below.refl W2.heap.size W2).alloc (Nat.le_refl _) (.cells #[.slice I op.hi.length ci, .slice S op.step.length cs] 23))
    have HB3 := Lib.hid (HB2.out.trans (HS3.out.mono HB2.out.size))
    have HK2 := Lib.hid (Blk.new W2 23 #[.slice I op.hi.length ci, .slice S op.step.length cs])
    have hz3 : W2.heap.size < (W2.alloc (.cells #[.slice I op.hi.length ci, .slice S op.step.length cs] 23)).heap.size := by simp
    have HG3 := Lib.hid (HSK.out _ HB3.out)
    refine hK.out _ _ ⟨HG3.out, trivial⟩ (fun hHeld2 => ?_)
    clear hK K hHeld
    have hHeld := hHeld2
    clear hHeld2
    try simp only [zA, zB, zC]
    generalize W2.alloc (.cells #[.slice I op.hi.length ci, .slice S op.step.length cs] 23) = W3 at HS3 HB3 HK2 hz3 HG3 hHeld ⊢
    have HL2 := Lib.hid (fun W (hb : Below W3.heap.size W3 W) => Ar.lists2 (HK2.out.below hb HK2.out.lt) (Nat.lt_of_lt_of_le HK2.out.lt hb.size) ((fun W (hb : Below ww.heap.size ww W) => (HL.out W (HBB.out.trans (hb.mono HBB.out.size))).2.2.1) W (HB3.out.trans (hb.mono HB3.out.size))) ((fun W (hb : Below ww.heap.size ww W) => (HL.out W (HBB.out.trans (hb.mono HBB.out.size))).2.2.2) W (HB3.out.trans (hb.mono HB3.out.size))))
    refine wpT_one 11 (by kernel_rfl) (stepT_early rfl rfl (fun K hK => ?_))
    go_simp
    have HC2 := Lib.hid (Ar.concat2_any (W2.heap.size) (op.hi) (op.step) W3 (by omega) (HL2.out W3 (Below.refl W3.heap.size W3)))
    ((with_reducible refine HC2.out.mono ?_); rintro e W4 ⟨v, rfl, ho, hb⟩)
    have HS4 := Lib.hid hb
    have HB4 := Lib.hid (HB3.out.trans (hb.mono HB3.out.size))
    have HV2 := Lib.hid (Ar.sl_own ho)
    obtain ⟨Ar2, cr2, hv2, _⟩ := Vw.own_any ho
    subst hv2
    have hz4 : W3.heap.size ≤ W4.heap.size := hb.size
    have HG4 := Lib.hid (HSK.out _ HB4.out)
    clear ho hb
    try go_simp
    refine hK.out _ _ ⟨HG4.out, trivial⟩ (fun hHeld2 => ?_)
    clear hK K hHeld
    have hHeld := hHeld2
    clear hHeld2
    try simp only [zA, zB, zC]
    have HV1 := Lib.hid (show Ar.SlAt W4 W4.heap.size _ _ from (HV1.out.below (((Below.refl W2.heap.size W2).trans (HS3.out.mono (by omega))).trans (HS4.out.mono (by omega)))).up (by omega))
    refine wpT_one 12 (by kernel_rfl) (stepT_early rfl rfl (fun K hK => ?_))
    try go_simp
    refine hK.out _ _ ⟨HG4.out, trivial⟩ (fun hHeld2 => ?_)
    clear hK K hHeld
    have hHeld := hHeld2
    clear hHeld2
    try simp only [zA, zB, zC]
    refine wpT_tail [_] 13 [] rfl (by kernel_rfl) ?_
    have HF := Lib.hid (show Below ww.heap.size ww W4 ∧ Ar.SlAt W4 W4.heap.size (.slice Ar1 (op.lo ++ op.at_).length cr1) (op.lo ++ op.at_) ∧ Ar.SlAt W4 W4.heap.size (.slice Ar2 (op.hi ++ op.step).length cr2) (op.hi ++ op.step) from ⟨HB4.out, HV1.out, HV2.out⟩)
    clear hHeld
    go_wp2_with fail
    go_meet
    have h := HF.out
    rw [List.length_append, List.length_append] at h
    exact h
   ·skip
    go_simp
    have HS2 := Lib.hid ((Below.refl W1.heap.size W1).alloc (Nat.le_refl _) (.cells #[.slice I op.hi.length ci, .slice S op.step.length cs] 23))
    have HB2 := Lib.hid (HB1.out.trans (HS2.out.mono HB1.out.size))
    have HK2 := Lib.hid (Blk.new W1 23 #[.slice I op.hi.length ci, .slice S op.step.length cs])
    have hz2 : W1.heap.size < (W1.alloc (.cells #[.slice I op.hi.length ci, .slice S op.step.length cs] 23)).heap.size := by simp
    have HG2 := Lib.hid (HSK.out _ HB2.out)
    refine hK.out _ _ ⟨HG2.out, trivial⟩ (fun hHeld2 => ?_)
    clear hK K hHeld
    have hHeld := hHeld2
    clear hHeld2
    try simp only [zA, zB, zC]
    generalize W1.alloc (.cells #[.slice I op.hi.length ci, .slice S op.step.length cs] 23) = W2 at HS2 HB2 HK2 hz2 HG2 hHeld ⊢
    have HL2 := Lib.hid (fun W (hb : Below W2.heap.size W2 W) => Ar.lists2 (HK2.out.below hb HK2.out.lt) (Nat.lt_of_lt_of_le HK2.out.lt hb.size) ((fun W (hb : Below ww.heap.size ww W) => (HL.out W (HBB.out.trans (hb.mono HBB.out.size))).2.2.1) W (HB2.out.trans (hb.mono HB2.out.size))) ((fun W (hb : Below ww.heap.size ww W) => (HL.out W (HBB.out.trans (hb.mono HBB.out.size))).2.2.2) W (HB2.out.trans (hb.mono HB2.out.size))))
    refine wpT_one 5 (by kernel_rfl) (stepT_early rfl rfl (fun K hK => ?_))
    go_simp
    have HC1 := Lib.hid (Ar.concat2_any (W0.heap.size) (op.lo) (op.at_) W2 (by omega) (HL1.out W2 ((Below.refl W1.heap.size W1).trans (HS2.out.mono (by omega)))))
    ((with_reducible refine HC1.out.mono ?_); rintro e W3 ⟨v, rfl, ho, hb⟩)
    have HS3 := Lib.hid hb
    have HB3 := Lib.hid (HB2.out.trans (hb.mono HB2.out.size))
    have HV1 := Lib.hid (Ar.sl_own ho)
    obtain ⟨Ar1, cr1, hv1, _⟩ := Vw.own_any ho
    subst hv1
    have hz3 : W2.heap.size ≤ W3.heap.size := hb.size
    have HG3 := Lib.hid (HSK.out _ HB3.out)
    clear ho hb
    try go_simp
    refine hK.out _ _ ⟨HG3.out, trivial⟩ (fun hHeld2 => ?_)
    clear hK K hHeld
    have hHeld := hHeld2
    clear hHeld2
    try simp only [zA, zB, zC]
    refine wpT_one 11 (by kernel_rfl) (stepT_early rfl rfl (fun K hK => ?_))
    go_simp
    have HC2 := Lib.hid (Ar.concat2_any (W1.heap.size) (op.hi) (op.step) W3 (by omega) (HL2.out W3 ((Below.refl W2.heap.size W2).trans (HS3.out.mono (by omega)))))
    ((with_reducible refine HC2.out.mono ?_); rintro e W4 ⟨v, rfl, ho, hb⟩)
    have HS4 := Lib.hid hb
    have HB4 := Lib.hid (HB3.out.trans (hb.mono HB3.out.size))
    have HV2 := Lib.hid (Ar.sl_own ho)
    obtain ⟨Ar2, cr2, hv2, _⟩ := Vw.own_any ho
    subst hv2
    have hz4 : W3.heap.size ≤ W4.heap.size := hb.size
    have HG4 := Lib.hid (HSK.out _ HB4.out)
    clear ho hb
    try go_simp
    refine hK.out _ _ ⟨HG4.out, trivial⟩ (fun hHeld2 => ?_)
    clear hK K hHeld
    have hHeld := hHeld2
    clear hHeld2
    try simp only [zA, zB, zC]
    have HV1 := Lib.hid (show Ar.SlAt W4 W4.heap.size _ _ from (HV1.out.below ((Below.refl W3.heap.size W3).trans (HS4.out.mono (by omega)))).up (by omega))
    refine wpT_one 12 (by kernel_rfl) (stepT_early rfl rfl (fun K hK => ?_))
    try go_simp
    refine hK.out _ _ ⟨HG4.out, trivial⟩ (fun hHeld2 => ?_)
    clear hK K hHeld
    have hHeld := hHeld2
    clear hHeld2
    try simp only [zA, zB, zC]
    refine wpT_tail [_] 13 [] rfl (by kernel_rfl) ?_
    have HF := Lib.hid (show Below ww.heap.size ww W4 ∧ Ar.SlAt W4 W4.heap.size (.slice Ar1 (op.lo ++ op.at_).length cr1) (op.lo ++ op.at_) ∧ Ar.SlAt W4 W4.heap.size (.slice Ar2 (op.hi ++ op.step).length cr2) (op.hi ++ op.step) from ⟨HB4.out, HV1.out, HV2.out⟩)
    clear hHeld
    go_wp2_with fail
    go_meet
    have h := HF.out
    rw [List.length_append, List.length_append] at h
    exact h
  ·skip
   go_simp
   have HS1 := Lib.hid ((Below.refl W0.heap.size W0).alloc (Nat.le_refl _) (.cells #[.slice I op.hi.length ci, .slice S op.step.length cs] 23))
   have HB1 := Lib.hid (HB0.out.trans (HS1.out.mono HB0.out.size))
   have HK2 := Lib.hid (Blk.new W0 23 #[.slice I op.hi.length ci, .slice S op.step.length cs])
   have hz1 : W0.heap.size < (W0.alloc (.cells #[.slice I op.hi.length ci, .slice S op.step.length cs] 23)).heap.size := by simp
   have HG1 := Lib.hid (HSK.out _ HB1.out)
   refine hK.out _ _ ⟨HG1.out, trivial⟩ (fun hHeld2 => ?_)
   clear hK K hHeld
   have hHeld := hHeld2
   clear hHeld2
   try simp only [zA, zB, zC]
   generalize W0.alloc (.cells #[.slice I op.hi.length ci, .slice S op.step.length cs] 23) = W1 at HS1 HB1 HK2 hz1 HG1 hHeld ⊢
   have HL2 := Lib.hid (fun W (hb : Below W1.heap.size W1 W) => Ar.lists2 (HK2.out.below hb HK2.out.lt) (Nat.lt_of_lt_of_le HK2.out.lt hb.size) ((fun W (hb : Below ww.heap.size ww W) => (HL.out W (HBB.out.trans (hb.mono HBB.out.size))).2.2.1) W (HB1.out.trans (hb.mono HB1.out.size))) ((fun W (hb : Below ww.heap.size ww W) => (HL.out W (HBB.out.trans (hb.mono HBB.out.size))).2.2.2) W (HB1.out.trans (hb.mono HB1.out.size))))
   refine wpT_one 4 (by kernel_rfl) (stepT_early rfl rfl (fun K hK => ?_))
   go_simp
   have HS2 := Lib.hid ((Below.refl W1.heap.size W1).alloc (Nat.le_refl _) (.cells #[.slice O op.lo.length co, .slice T op.at_.length ct] 23))
   have HB2 := Lib.hid (HB1.out.trans (HS2.out.mono HB1.out.size))
   have HK1 := Lib.hid (Blk.new W1 23 #[.slice O op.lo.length co, .slice T op.at_.length ct])
   have hz2 : W1.heap.size < (W1.alloc (.cells #[.slice O op.lo.length co, .slice T op.at_.length ct] 23)).heap.size := by simp
   have HG2 := Lib.hid (HSK.out _ HB2.out)
   refine hK.out _ _ ⟨HG2.out, trivial⟩ (fun hHeld2 => ?_)
   clear hK K hHeld
   have hHeld := hHeld2
   clear hHeld2
   try simp only [zA, zB, zC]
   generalize W1.alloc (.cells #[.slice O op.lo.length co, .slice T op.at_.length ct] 23) = W2 at HS2 HB2 HK1 hz2 HG2 hHeld ⊢
   have HL1 := Lib.hid (fun W (hb : Below W2.heap.size W2 W) => Ar.lists2 (HK1.out.below hb HK1.out.lt) (Nat.lt_of_lt_of_le HK1.out.lt hb.size) ((fun W (hb : Below ww.heap.size ww W) => (HL.out W (HBB.out.trans (hb.mono HBB.out.size))).1) W (HB2.out.trans (hb.mono HB2.out.size))) ((fun W (hb : Below ww.heap.size ww W) => (HL.out W (HBB.out.trans (hb.mono HBB.out.size))).2.1) W (HB2.out.trans (hb.mono HB2.out.size))))
   refine wpT_one 5 (by kernel_rfl) (stepT_early rfl rfl (fun K hK => ?_))
   go_simp
   have HC1 := Lib.hid (Ar.concat2_any (W1.heap.size) (op.lo) (op.at_) W2 (by omega) (HL1.out W2 (Below.refl W2.heap.size W2)))
   ((with_reducible refine HC1.out.mono ?_); rintro e W3 ⟨v, rfl, ho, hb⟩)
   have HS3 := Lib.hid hb
   have HB3 := Lib.hid (HB2.out.trans (hb.mono HB2.out.size))
   have HV1 := Lib.hid (Ar.sl_own ho)
   obtain ⟨Ar1, cr1, hv1, _⟩ := Vw.own_any ho
   subst hv1
   have hz3 : W2.heap.size ≤ W3.heap.size := hb.size
   have HG3 := Lib.hid (HSK.out _ HB3.out)
   clear ho hb
   try go_simp
   refine hK.out _ _ ⟨HG3.out, trivial⟩ (fun hHeld2 => ?_)
   clear hK K hHeld
   have hHeld := hHeld2
   clear hHeld2
   try simp only [zA, zB, zC]
   refine wpT_one 11 (by kernel_rfl) (stepT_early rfl rfl (fun K hK => ?_))
   go_simp
   have HC2 := Lib.hid (Ar.concat2_any (W0.heap.size) (op.hi) (op.step) W3 (by omega) (HL2.out W3 (((Below.refl W1.heap.size W1).trans (HS2.out.mono (by omega))).trans (HS3.out.mono (by omega)))))
   ((with_reducible refine HC2.out.mono ?_); rintro e W4 ⟨v, rfl, ho, hb⟩)
   have HS4 := Lib.hid hb
   have HB4 := Lib.hid (HB3.out.trans (hb.mono HB3.out.size))
   have HV2 := Lib.hid (Ar.sl_own ho)
   obtain ⟨Ar2, cr2, hv2, _⟩ := Vw.own_any ho
   subst hv2
   have hz4 : W3.heap.size ≤ W4.heap.size := hb.size
   have HG4 := Lib.hid (HSK.out _ HB4.out)
   clear ho hb
   try go_simp
   refine hK.out _ _ ⟨HG4.out, trivial⟩ (fun hHeld2 => ?_)
   clear hK K hHeld
   have hHeld := hHeld2
   clear hHeld2
   try simp only [zA, zB, zC]
   have HV1 := Lib.hid (show Ar.SlAt W4 W4.heap.size _ _ from (HV1.out.below ((Below.refl W3.heap.size W3).trans (HS4.out.mono (by omega)))).up (by omega))
   refine wpT_one 12 (by kernel_rfl) (stepT_early rfl rfl (fun K hK => ?_))
   try go_simp
   refine hK.out _ _ ⟨HG4.out, trivial⟩ (fun hHeld2 => ?_)
   clear hK K hHeld
   have hHeld := hHeld2
   clear hHeld2
   try simp only [zA, zB, zC]
   refine wpT_tail [_] 13 [] rfl (by kernel_rfl) ?_
   have HF := Lib.hid (show Below ww.heap.size ww W4 ∧ Ar.SlAt W4 W4.heap.size (.slice Ar1 (op.lo ++ op.at_).length cr1) (op.lo ++ op.at_) ∧ Ar.SlAt W4 W4.heap.size (.slice Ar2 (op.hi ++ op.step).length cr2) (op.hi ++ op.step) from ⟨HB4.out, HV1.out, HV2.out⟩)
   clear hHeld
   go_wp2_with fail
   go_meet
   have h := HF.out
   rw [List.length_append, List.length_append] at h
   exact h
 case rest =>
  obtain ⟨hb, h8, h9⟩ := hcut
  obtain ⟨LA, hLA⟩ : ∃ l, op.lo ++ op.at_ = l := ⟨_, rfl⟩
  obtain ⟨LB, hLB⟩ : ∃ l, op.hi ++ op.step = l := ⟨_, rfl⟩
  have hnA : LA.length ≤ 8388608 := by rw [← hLA, List.length_append]; omega
  have hnB : LB.length ≤ 8388608 := by rw [← hLB, List.length_append]; omega
  have HEA := Lib.hid hLA
  have HEB := Lib.hid hLB
  rw [hLA] at h8 HE
  rw [hLB] at h9 HE
  obtain ⟨A8, c8, rfl, i8, l8, m8⟩ := h8
  obtain ⟨A9, c9, rfl, i9, l9, m9⟩ := h9
  have HBX := Lib.hid hb
  have H8 := Lib.hid i8
  have H9 := Lib.hid i9
  have HBW := Lib.hid (HBB.out.trans (hb.mono HBB.out.size))
  have HX1 := Lib.hid (HX0.out.below hb HX0.out.lt)
  have HR1 := Lib.hid (HR0.out.below hb HR0.out.lt)
  have HDA := Lib.hid (Ar.distinct_any A8 c8 a.length LA wc.heap.size wc (by omega) (by omega) (Nat.le_refl _) i8)
  have HDB := Lib.hid (fun W (h : Below wc.heap.size wc W) => Ar.distinct_any A9 c9 b.length LB wc.heap.size W (by omega) (by omega) h.size (i9.below h))
  have hsx : ww.heap.size ≤ wc.heap.size := hb.size
  clear hb i8 i9 hLA hLB
  have x2 := HX1.out.cell 2
  have x3 := HX1.out.cell 3
  have x4 := HX1.out.cell 4
  have x5 := HX1.out.cell 5
  by_cases c1 : op.at_.length = op.step.length
  ·have d1 : ((op.at_.length : Int) != (op.step.length : Int)) = false := by simp; omega
   have C1 := Lib.hid c1
   clear c1
   by_cases c2 : op.lo.length = op.hi.length
   ·have d2 : ((op.lo.length : Int) != (op.hi.length : Int)) = false := by simp; omega
    have C2 := Lib.hid c2
    clear c2
    cases hoa : AdjD.onceB LA a.length with
    | false =>
     have HV := Lib.hid (show AdjD.pairDims op a b = ([], 6) by rw [HE.out]; exact if_pos (.inr (.inr (.inl hoa))))
     rw [hoa] at HDA
     clear hoa
     go_wp2_with fail
     ((with_reducible refine HDA.out.mono ?_); rintro e w2 ⟨rfl, hb2⟩)
     have HR2 := Lib.hid (HR1.out.below hb2 HR1.out.lt)
     have HB2 := Lib.hid (HBW.out.trans (hb2.mono HBW.out.size))
     clear hb2 x2 x3 x4 x5
     have HVI := Lib.hid (show Ar.pairInner op a b = 0 by unfold Ar.pairInner; rw [HV.out]; rfl)
     have r0 := HR2.out.cell 0
     have r1 := HR2.out.cell 1
     have r2 := HR2.out.cell 2
     have r3 := HR2.out.cell 3
     have r4 := HR2.out.cell 4
     have r5 := HR2.out.cell 5
     have r6 := HR2.out.cell 6
     have f0 := HR2.out.frozen 0
     have f1 := HR2.out.frozen 1
     have f2 := HR2.out.frozen 2
     have f3 := HR2.out.frozen 3
     have f4 := HR2.out.frozen 4
     have f5 := HR2.out.frozen 5
     have f6 := HR2.out.frozen 6
     go_wp2_with fail
     refine bodyPost_ret (v := .tuple #[.agg #[.slice none 0 0, .slice none 0 0, .slice none 0 0, .int .i64 0, .int .i64 0, .int .i64 0, .int .i64 0], .int .i64 6]) (by simp [results, Try.results39, go_sem, r0, r1, r2, r3, r4, r5, r6]) rfl ?_
     rw [HV.out, HVI.out]
     exact ⟨_, _, _, _, _, _, _, _, _, _, rfl, ⟨rfl, .inl ⟨rfl, rfl⟩⟩, Ar.seven HB2.out (by omega) _ _ _ _ _ _ _⟩
    | true =>
     have HOA := Lib.hid hoa
     rw [hoa] at HDA
     clear hoa
     go_wp2_with fail
     ((with_reducible refine HDA.out.mono ?_); rintro e w2 ⟨rfl, hb2⟩)
     have HDB2 := Lib.hid (HDB.out w2 hb2)
     have HC2 := Lib.hid hb2
     have HR2 := Lib.hid (HR1.out.below hb2 HR1.out.lt)
     have HB2 := Lib.hid (HBW.out.trans (hb2.mono HBW.out.size))
     have hs2 : wc.heap.size ≤ w2.heap.size := hb2.size
     clear hb2 x2 x3 x4 x5
     cases hob : AdjD.onceB LB b.length with
     | false =>
      have HV := Lib.hid (show AdjD.pairDims op a b = ([], 6) by rw [HE.out]; exact if_pos (.inr (.inr (.inr hob))))
      rw [hob] at HDB2
      clear hob
      go_wp2_with fail
      ((with_reducible refine HDB2.out.mono ?_); rintro e w3 ⟨rfl, hb3⟩)
      have HR3 := Lib.hid (HR2.out.below hb3 HR2.out.lt)
      have HB3 := Lib.hid (HB2.out.trans (hb3.mono HB2.out.size))
      clear hb3
      have HVI := Lib.hid (show Ar.pairInner op a b = 0 by unfold Ar.pairInner; rw [HV.out]; rfl)
      have r0 := HR3.out.cell 0
      have r1 := HR3.out.cell 1
      have r2 := HR3.out.cell 2
      have r3 := HR3.out.cell 3
      have r4 := HR3.out.cell 4
      have r5 := HR3.out.cell 5
      have r6 := HR3.out.cell 6
      have f0 := HR3.out.frozen 0
      have f1 := HR3.out.frozen 1
      have f2 := HR3.out.frozen 2
      have f3 := HR3.out.frozen 3
      have f4 := HR3.out.frozen 4
      have f5 := HR3.out.frozen 5
      have f6 := HR3.out.frozen 6
      go_wp2_with fail
      refine bodyPost_ret (v := .tuple #[.agg #[.slice none 0 0, .slice none 0 0, .slice none 0 0, .int .i64 0, .int .i64 0, .int .i64 0, .int .i64 0], .int .i64 6]) (by simp [results, Try.results39, go_sem, r0, r1, r2, r3, r4, r5, r6]) rfl ?_
      rw [HV.out, HVI.out]
      exact ⟨_, _, _, _, _, _, _, _, _, _, rfl, ⟨rfl, .inl ⟨rfl, rfl⟩⟩, Ar.seven HB3.out (by omega) _ _ _ _ _ _ _⟩
     | true =>
      have HOB := Lib.hid hob
      rw [hob] at HDB2
      clear hob
      go_wp2_with fail
      ((with_reducible refine HDB2.out.mono ?_); rintro e w3 ⟨rfl, hb3⟩)
      have HC3 := Lib.hid (HC2.out.trans (hb3.mono HC2.out.size))
      have HR3 := Lib.hid (HR2.out.below hb3 HR2.out.lt)
      have HB3 := Lib.hid (HB2.out.trans (hb3.mono HB2.out.size))
      have hs3 : w2.heap.size ≤ w3.heap.size := hb3.size
      have hnAB : LA.length = LB.length := by rw [← HEA.out, ← HEB.out, List.length_append, List.length_append, C1.out, C2.out]
      have HNAB := Lib.hid hnAB
      have HLL := Lib.hid (And.intro C1.out C2.out)
      clear hb3 d1 d2 hnAB
      go_wp2_with fail
      go_loopw [65] (fun kv wr => ∃ (k d : Nat), kv = .int .i64 (k : Int) ∧ k ≤ LA.length ∧ (∀ j (h1 : j < LA.length) (h2 : j < LB.length), j < k → AdjV.pick a LA[j] = AdjV.pick b LB[j]) ∧ wr = w3.drewN d) (fun kv _ => LA.length - (intOf kv).toNat)
      case atStart => exact ⟨0, 0, rfl, by omega, fun j _ _ h => by omega, rfl⟩
      case round =>
       obtain ⟨k, d, rfl, hk, heq, hd⟩ := hrel
       have HEQ := Lib.hid heq
       have HD := Lib.hid hd
       have HB4 := Lib.hid (show Below w.heap.size w wr by rw [hd]; exact below_drewN HB3.out d)
       have HC4 := Lib.hid (show Below wc.heap.size wc wr by rw [hd]; exact below_drewN HC3.out d)
       have HR4 := Lib.hid (show Blk wr w0.heap.size 62 #[.slice none 0 0, .slice none 0 0, .slice none 0 0, .int .i64 0, .int .i64 0, .int .i64 0, .int .i64 0] by rw [hd]; exact HR3.out.drewN d)
       clear heq hd
       by_cases hkn : k < LA.length
       ·have hkb : k < LB.length := by have := HNAB.out; omega
        obtain ⟨ba, oa, e8, hba, ga⟩ := H8.out (by omega)
        obtain ⟨bb, ob, e9, hbb, gb⟩ := H9.out (by omega)
        subst e8 e9
        have ca1 := (HC4.out.cell (p := ⟨ba, oa + k, none⟩) hba).trans (ga k hkn)
        have cb1 := (HC4.out.cell (p := ⟨bb, ob + k, none⟩) hbb).trans (gb k hkb)
        have hra := Ar.once_in HOA.out hkn
        have hrb := Ar.once_in HOB.out hkb
        have HNX := Lib.hid (fun (h : AdjV.pick a LA[k] = AdjV.pick b LB[k]) => show ∀ j (h1 : j < LA.length) (h2 : j < LB.length), j < k + 1 → AdjV.pick a LA[j] = AdjV.pick b LB[j] from fun j h1 h2 hj => by
         by_cases e : j = k
         ·subst e; exact h
         ·exact HEQ.out j h1 h2 (by omega))
        have HNO := Lib.hid (fun (h : AdjV.pick a LA[k] ≠ AdjV.pick b LB[k]) => show AdjD.pairDims op a b = ([], 6) by
         rw [HE.out, if_neg (Ar.four_no (by have := HNAB.out; exact HLL.out.1) HLL.out.2 HOA.out HOB.out)]
         exact if_pos (fun e => h (Ar.chosen_at e hkn hkb)))
        clear ga gb
        generalize LA[k] = qa at ca1 hra HNX HNO
        generalize LB[k] = qb at cb1 hrb HNX HNO
        obtain ⟨i, rfl⟩ : ∃ i : Nat, qa = (i : Int) := ⟨qa.toNat, by omega⟩
        obtain ⟨j, rfl⟩ : ∃ j : Nat, qb = (j : Int) := ⟨qb.toNat, by omega⟩
        have hil : i < a.length := by omega
        have hjl : j < b.length := by omega
        obtain ⟨hIa, hIb⟩ := HAB.out wr HB4.out
        obtain ⟨ba2, oa2, e8, hba2, ga2⟩ := hIa (by omega)
        obtain ⟨bb2, ob2, e9, hbb2, gb2⟩ := hIb (by omega)
        subst e8 e9
        have ca2 := ga2 i hil
        have cb2 := gb2 j hjl
        rw [AdjV.pick_nat a i hil, AdjV.pick_nat b j hjl] at HNX HNO
        have k0 : (0 : Int) ≤ (k : Int) := by omega
        have k1 : (k : Int) < (LA.length : Int) := by omega
        have k2 : (k : Int) < (LB.length : Int) := by omega
        have k3 : (0 : Int) ≤ (i : Int) := by omega
        have k4 : (i : Int) < (a.length : Int) := by omega
        have k5 : (0 : Int) ≤ (j : Int) := by omega
        have k6 : (j : Int) < (b.length : Int) := by omega
        clear ga2 gb2 hIa hIb
        generalize a[i] = xa at ca2 HNX HNO
        generalize b[j] = xb at cb2 HNX HNO
        by_cases hx : xa = xb
        ·have HY := Lib.hid (HNX.out hx)
         subst hx
         have e0 : (xa != xa) = false := by simp
         go_wp2_with fail
         go_quiet (fail)
         have HDQ := Lib.hid (show wr.drewN nq = w3.drewN (d + nq) by rw [HD.out, World.drewN_drewN])
         generalize wr.drewN nq = wq at HDQ ⊢
         go_wp2_with fail
         go_roundw
         case rel => exact ⟨k + 1, d + nq, by go_num, by omega, HY.out, HDQ.out⟩
         case measure => simp [intOf]; omega
        ·have HV := Lib.hid (HNO.out hx)
         have e0 : (xa != xb) = true := by simpa using hx
         clear hx
         go_wp2_with fail
         go_quiet (fail)
         have HB5 := Lib.hid (below_drewN HB4.out nq)
         have HR5 := Lib.hid (HR4.out.drewN nq)
         generalize wr.drewN nq = wq at HB5 HR5 ⊢
         have HVI := Lib.hid (show Ar.pairInner op a b = 0 by unfold Ar.pairInner; rw [HV.out]; rfl)
         have r0 := HR5.out.cell 0
         have r1 := HR5.out.cell 1
         have r2 := HR5.out.cell 2
         have r3 := HR5.out.cell 3
         have r4 := HR5.out.cell 4
         have r5 := HR5.out.cell 5
         have r6 := HR5.out.cell 6
         have f0 := HR5.out.frozen 0
         have f1 := HR5.out.frozen 1
         have f2 := HR5.out.frozen 2
         have f3 := HR5.out.frozen 3
         have f4 := HR5.out.frozen 4
         have f5 := HR5.out.frozen 5
         have f6 := HR5.out.frozen 6
         go_wp2_with fail
         refine bodyPost_ret (v := .tuple #[.agg #[.slice none 0 0, .slice none 0 0, .slice none 0 0, .int .i64 0, .int .i64 0, .int .i64 0, .int .i64 0], .int .i64 6]) (by simp [results, Try.results39, go_sem, r0, r1, r2, r3, r4, r5, r6]) rfl ?_
         rw [HV.out, HVI.out]
         exact ⟨_, _, _, _, _, _, _, _, _, _, rfl, ⟨rfl, .inl ⟨rfl, rfl⟩⟩, Ar.seven HB5.out (by omega) _ _ _ _ _ _ _⟩
       ·have hkk : k = LA.length := by omega
        subst hkk
        have hch : AdjD.chosen a LA = AdjD.chosen b LB := by
         apply List.ext_getElem
         ·rw [AdjD.chosen_length, AdjD.chosen_length, HNAB.out]
         ·intro j h1 h2
          rw [AdjD.chosen_length] at h1 h2
          simp only [AdjD.chosen, List.getElem_map]
          exact HEQ.out j h1 h2 h1
        have HV := Lib.hid (show AdjD.pairDims op a b = (AdjD.chosen a op.lo ++ AdjD.chosen a (AdjD.free a LA) ++ AdjD.chosen b (AdjD.free b LB), 0) by
         rw [HE.out, if_neg (Ar.four_no HLL.out.1 HLL.out.2 HOA.out HOB.out)]
         exact if_neg (fun h => h hch))
        have HVI := Lib.hid (show Ar.pairInner op a b = (AdjD.chosen a op.at_).foldl Ar.capped 1 by unfold Ar.pairInner; rw [HV.out]; rfl)
        have HPa := Lib.hid (Blk.new wr 62 #[.slice none 0 0, .slice none 0 0, .slice none 0 0, .int .i64 1, .int .i64 1, .int .i64 1, .int .i64 1])
        have HBa := Lib.hid ((Below.refl wr.heap.size wr).alloc (Nat.le_refl _) (.cells #[.slice none 0 0, .slice none 0 0, .slice none 0 0, .int .i64 1, .int .i64 1, .int .i64 1, .int .i64 1] 62))
        have HPb := Lib.hid (HPa.out.alloc (.cells #[.func (.func 54) #[] #[]] 78))
        have hza : (wr.alloc (.cells #[.slice none 0 0, .slice none 0 0, .slice none 0 0, .int .i64 1, .int .i64 1, .int .i64 1, .int .i64 1] 62)).heap.size = wr.heap.size + 1 := by simp
        have HGa := Lib.hid (Blk.new (wr.alloc (.cells #[.slice none 0 0, .slice none 0 0, .slice none 0 0, .int .i64 1, .int .i64 1, .int .i64 1, .int .i64 1] 62)) 78 #[.func (.func 54) #[] #[]])
        rw [hza] at HGa
        have HBb := Lib.hid (HBa.out.alloc (by omega) (.cells #[.func (.func 54) #[] #[]] 78))
        obtain ⟨W5, hW5⟩ : ∃ W5, (wr.alloc (.cells #[.slice none 0 0, .slice none 0 0, .slice none 0 0, .int .i64 1, .int .i64 1, .int .i64 1, .int .i64 1] 62)).alloc (.cells #[.func (.func 54) #[] #[]] 78) = W5 := ⟨_, rfl⟩
        rw [hW5] at HPb HGa HBb
        have HX5 := Lib.hid ((HX1.out.below HC4.out HX1.out.lt).below HBb.out (HX1.out.below HC4.out HX1.out.lt).lt)
        have HB5 := Lib.hid (HB4.out.trans (HBb.out.mono HB4.out.size))
        have HR5 := Lib.hid (HR4.out.below HBb.out HR4.out.lt)
        have HPG := Lib.hid (show Ar.Pg wr.heap.size wr.heap.size (.slice none 0 0) (.slice none 0 0) (.slice none 0 0) [] 1 1 1 1 W5 from ⟨HPb.out, ⟨rfl, .inl ⟨rfl, rfl⟩⟩, by omega, by omega, by omega, by omega⟩)
        have x3 := HX5.out.cell 3
        have hsr : w.heap.size < wr.heap.size := by have := (HX1.out.below HC4.out HX1.out.lt).lt; omega
        clear hch hza
        obtain ⟨wo, hwo⟩ : ∃ wo : World, wo = wr := ⟨_, rfl⟩
        subst hwo
        obtain ⟨P0, hP0⟩ : ∃ P0, wo.heap.size = P0 := ⟨_, rfl⟩
        have HW5 := Lib.hid (show Below P0 wo W5 by rw [← hP0]; exact HBb.out)
        have hW5s := HBb.out.size
        have hG5 := HGa.out.lt
        have hcf : ∀ (args : Array Value) (W : World), (callFunc 54 args).run Try.prog W = .ok (.enter 54 args) W := fun _ _ => rfl
        have hwP : w.heap.size < P0 := by omega
        have hcP : wc.heap.size ≤ P0 := by have := HC4.out.size; omega
        rw [hP0] at HPG HGa hG5 hW5s
        have HI := Lib.hid (info_parts Try.infoOf3)
        go_wp2_with fail
        go_loopw [89] (fun kv wx => ∃ (k : Nat) (dv : Value) (y : Int), kv = .int .i64 (k : Int) ∧ k ≤ op.lo.length ∧ Below P0 wo wx ∧ Ar.Pg P0 P0 (.slice none 0 0) (.slice none 0 0) dv (AdjD.chosen a (op.lo.take k)) y 1 1 1 wx ∧ Blk wx (P0 + 1) 78 #[.func (.func 54) #[] #[]]) (fun kv _ => op.lo.length - (intOf kv).toNat)
        case atStart => exact ⟨0, _, 1, rfl, by omega, HW5.out, HPG.out, HGa.out⟩
        case round =>
         obtain ⟨k, dv, y, rfl, hk, hb, hpg, hg⟩ := hrel
         have HB6 := Lib.hid hb
         have HBW6 := Lib.hid (HB4.out.trans (hb.mono (by omega)))
         have HPG6 := Lib.hid hpg
         have HG6 := Lib.hid hg
         have hP6 : P0 < wr.heap.size := hpg.blk.lt
         have HX6 := Lib.hid ((HX1.out.below HC4.out HX1.out.lt).below (hb.mono (by omega) : Below wc.heap.size wo wr) HX1.out.lt)
         clear hb hpg hg
         by_cases hkn : k < op.lo.length
         ·have hLk : k < LA.length := by rw [← HEA.out, List.length_append]; omega
          have eLk : LA[k] = op.lo[k] := by
           have h1 : LA[k]? = (op.lo ++ op.at_)[k]? := by rw [HEA.out]
           rw [List.getElem?_eq_getElem hLk, List.getElem?_append_left hkn, List.getElem?_eq_getElem hkn] at h1
           injection h1
          have hin := Ar.once_in HOA.out hLk
          rw [eLk] at hin
          obtain ⟨Ax, cx, e1, hi, _, _⟩ := (HL.out wr HBW6.out).1
          obtain ⟨rfl, rfl⟩ : O = Ax ∧ co = cx := by simpa using e1
          obtain ⟨bo, oo, rfl, hbo, go⟩ := hi (by omega)
          have co1 := go k hkn
          have HTK := Lib.hid (List.take_succ_eq_append_getElem hkn)
          clear e1 hi go eLk
          generalize op.lo[k] = q0 at hin co1 HTK
          obtain ⟨q, rfl⟩ : ∃ q : Nat, q0 = (q : Int) := ⟨q0.toNat, by omega⟩
          have hqa : q < a.length := by omega
          obtain ⟨hIa, _⟩ := HAB.out wr HBW6.out
          obtain ⟨ba2, oa2, rfl, hba2, ga2⟩ := hIa (by omega)
          have ca2 := ga2 q hqa
          have hxa := HPP.out.1 a[q] (List.getElem_mem hqa)
          have HCH := Lib.hid (show AdjD.chosen a (op.lo.take (k + 1)) = AdjD.chosen a (op.lo.take k) ++ [a[q]] by rw [HTK.out, AdjD'.chosen_snoc a _ q hqa])
          have hcl : (AdjD.chosen a (op.lo.take k)).length ≤ 4194304 := by rw [AdjD.chosen_length, List.length_take]; omega
          have k0 : (0 : Int) ≤ (k : Int) := by omega
          have k1 : (k : Int) < (op.lo.length : Int) := by omega
          have k3 : (0 : Int) ≤ (q : Int) := by omega
          have k4 : (q : Int) < (a.length : Int) := by omega
          clear ga2 hIa
          generalize a[q] = x at ca2 hxa HCH
          generalize AdjD.chosen a (op.lo.take k) = ds at HPG6 HCH hcl
          obtain ⟨i0, g1, g2, g3, g4⟩ := HI.out
          obtain ⟨Av, cv, hdv, hcv⟩ := Vw.own_any HPG6.out.own
          subst hdv
          have cP2 : wr.cell? ⟨P0, 2, none⟩ = some (.slice Av ds.length cv) := HPG6.out.blk.cell 2
          go_wp2_with fail
          refine wp_region_T (fun w' => w'.cell? ⟨P0, 2, none⟩ = some (.slice Av ds.length cv) ∧ w'.cell? ⟨ba2, oa2 + q, none⟩ = some (.int .i64 x)) 8 (fun _ => True) 8 10 rfl (by kernel_rfl) ⟨⟨cP2, ca2⟩, trivial⟩ (fun hHeld => ?_)
          simp only [List.replicate_succ, List.replicate_zero]
          refine tk (v := ?_) [] 0 93 hHeld ?_ ?_; rotate_left; (intro w h; (try dsimp only at h); go_simp; try with_reducible rfl); try simp only [Act.put, zA, zB, zC]
          refine tk (v := ?_) [] 1 94 hHeld ?_ ?_; rotate_left; (intro w h; (try dsimp only at h); go_simp; try with_reducible rfl); try simp only [Act.put, zA, zB, zC]
          refine tk (v := ?_) [] 2 95 hHeld ?_ ?_; rotate_left; (intro w h; (try dsimp only at h); go_simp; try with_reducible rfl); try simp only [Act.put, zA, zB, zC]
          refine tk (v := ?_) [] 3 96 hHeld ?_ ?_; rotate_left; (intro w h; (try dsimp only at h); go_simp; try with_reducible rfl); try simp only [Act.put, zA, zB, zC]
          refine tk (v := ?_) [] 4 97 hHeld ?_ ?_; rotate_left; (intro w h; (try dsimp only at h); go_simp; try with_reducible rfl); try simp only [Act.put, zA, zB, zC]
          refine tk (v := ?_) [] 5 98 hHeld ?_ ?_; rotate_left; (intro w h; (try dsimp only at h); go_simp; try with_reducible rfl); try simp only [Act.put, zA, zB, zC]
          have HPG7 := Lib.hid (HPG6.out.below (Below.drew (Below.refl _ _)))
          have HG7 := Lib.hid HG6.out.drew
          have HX7 := Lib.hid HX6.out.drew
          have HB7 := Lib.hid HB6.out.drew
          have hP7 : P0 < wr.drew.heap.size := hP6
          generalize wr.drew = Q5 at HPG7 HG7 HX7 HB7 hP7 hHeld ⊢
          refine wpT_one 6 (by kernel_rfl) (stepT_early rfl rfl (fun K hK => ?_))
          go_simp
          refine hK.out _ _ ⟨⟨(World.cell?_alloc_lt _ _ _ (by simp; omega)).trans hHeld.1.1, (World.cell?_alloc_lt _ _ _ (by simp; omega)).trans hHeld.1.2⟩, trivial⟩ (fun hHeld2 => ?_)
          clear hK K hHeld
          have hHeld := hHeld2
          clear hHeld2
          try simp only [zA, zB, zC]
          have HN8 := Lib.hid (Blk.new Q5 3 #[.int .i64 x])
          have HPG8 := Lib.hid (HPG7.out.below (Below.alloc (Below.refl Q5.heap.size Q5) (Nat.le_refl _) (.cells #[.int .i64 x] 3)))
          have HG8 := Lib.hid (HG7.out.alloc (.cells #[.int .i64 x] 3))
          have HX8 := Lib.hid (HX7.out.alloc (.cells #[.int .i64 x] 3))
          have HB8 := Lib.hid (HB7.out.alloc (by omega) (.cells #[.int .i64 x] 3))
          have hP8 : Q5.heap.size < (Q5.alloc (.cells #[.int .i64 x] 3)).heap.size := by simp
          generalize Q5.alloc (.cells #[.int .i64 x] 3) = Q6 at HN8 HPG8 HG8 HX8 HB8 hP8 hHeld ⊢
          refine wpT_one 7 (by kernel_rfl) (stepT_early rfl rfl (fun K hK => ?_))
          refine wp_append_any Q6 _ _ 23 rfl P0 3 i0 (.int .i64 0) 1 8 Try.underlying23 g1 g2 g3 g4 rfl (by decide) (.slice Av ds.length cv) ds.length (ints ds) rfl HPG8.out.own _ (some ⟨Q5.heap.size, 0, none⟩) 1 1 [.int .i64 x] rfl (Ar.reads_cells HN8.out rfl) (by intro u hu; simp at hu; subst hu; rfl) (by unfold maxLen; omega) (by omega) (by omega) ?_
          intro v' Q7 how hgr _
          have n1 : some P0 ≠ (Value.slice Av ds.length cv).ownBlock := fun e => HPG8.out.apart e.symm
          have n2 : some ba2 ≠ (Value.slice Av ds.length cv).ownBlock := fun e => by have := (Ar.own_lt HPG8.out.own e.symm).1; omega
          have y1 := hgr.cell hHeld.1.1 n1
          have y2 := hgr.cell hHeld.1.2 n2
          have fz : Q7.frozen? ⟨P0, 2, none⟩ = false := (Ar.blk_grown HPG8.out.blk HPG8.out.own (by decide) hgr).frozen 2
          have HPU := Lib.hid (HPG8.out.push how hgr)
          have HGU := Lib.hid ((Ar.blk_grown HG8.out HPG8.out.own (by decide) hgr).far (p := ⟨P0, 2, none⟩) (by simp) v')
          have HBU := Lib.hid ((HB8.out.grown hgr (by omega) (fun g hg => (Ar.own_lt HPG8.out.own hg).1)).setCell (p := ⟨P0, 2, none⟩) (Nat.le_refl _) v')
          obtain ⟨A2, c2, hv2, hcv2⟩ := Vw.own_any how
          subst hv2
          refine hK.out _ _ ⟨⟨y1, y2⟩, trivial⟩ (fun hHeld2 => ?_)
          clear hK K hHeld hHeld2 how hgr n1 n2 HN8 HPG8 HG8 HX8 HB8
          try simp only [Act.put, zA, zB, zC]
          refine wpT_tail [_, _] 8 [9] rfl (by kernel_rfl) ?_
          go_wp2_with fail
          have y3 := (World.cell?_setCell_other Q7 ⟨P0, 2, none⟩ ⟨ba2, oa2 + q, none⟩ (.slice A2 (ds.length + 1) c2) (fun e => by injection e with e; omega)).trans y2
          generalize Q7.setCell ⟨P0, 2, none⟩ (.slice A2 (ds.length + 1) c2) = Q8 at HPU HGU HBU y3 ⊢
          clear fz y1 y2
          have hfn : Q8.cell? ⟨P0 + 1, 0, none⟩ = some (.func (.func 54) #[] #[]) := HGU.out.cell 0
          refine wp_region_T (fun w' => w'.cell? ⟨P0 + 1, 0, none⟩ = some (.func (.func 54) #[] #[]) ∧ w'.cell? ⟨ba2, oa2 + q, none⟩ = some (.int .i64 x)) 6 (fun _ => True) 6 7 rfl (by kernel_rfl) ⟨⟨hfn, y3⟩, trivial⟩ (fun hHeld => ?_)
          simp only [List.replicate_succ, List.replicate_zero]
          refine tk (v := ?_) [] 0 102 hHeld ?_ ?_; rotate_left; (intro w h; (try dsimp only at h); go_simp; try with_reducible rfl); try simp only [Act.put, zA, zB, zC]
          refine tk (v := ?_) [] 1 103 hHeld ?_ ?_; rotate_left; (intro w h; (try dsimp only at h); go_simp; try with_reducible rfl); try simp only [Act.put, zA, zB, zC]
          refine tk (v := ?_) [4, 5] 2 104 hHeld ?_ ?_; rotate_left; (intro w h; (try dsimp only at h); go_simp; try with_reducible rfl); try simp only [Act.put, zA, zB, zC]
          refine tk (v := ?_) [4, 5] 3 105 hHeld ?_ ?_; rotate_left; (intro w h; (try dsimp only at h); go_simp; try with_reducible rfl); try simp only [Act.put, zA, zB, zC]
          refine tk (v := ?_) [5] 4 106 hHeld ?_ ?_; rotate_left; (intro w h; (try dsimp only at h); go_simp; try with_reducible rfl); try simp only [Act.put, zA, zB, zC]
          refine tk (v := ?_) [] 5 107 hHeld ?_ ?_; rotate_left; (intro w h; (try dsimp only at h); go_simp; try with_reducible rfl); try simp only [Act.put, zA, zB, zC]
          refine wpT_tail [_] 6 [] rfl (by kernel_rfl) ?_
          have HPD := Lib.hid (HPU.out.below (Below.drew (Below.refl _ _)))
          have HGD := Lib.hid HGU.out.drew
          have HBD := Lib.hid HBU.out.drew
          clear hfn hHeld HPU HGU HBU
          generalize Q8.drew = Q9 at HPD HGD HBD ⊢
          have HGC := Lib.hid (Ar.growC_any P0 3 y x Q9 (HPD.out.blk.cell 3) (HPD.out.blk.frozen 3) HPD.out.b3 hxa)
          have HP10 := Lib.hid (HPD.out.set3 hxa)
          have HG10 := Lib.hid (HGD.out.far (p := ⟨P0, 3, none⟩) (by simp) (.int .i64 (Ar.capped y x)))
          have HB10 := Lib.hid (HBD.out.setCell (p := ⟨P0, 3, none⟩) (Nat.le_refl _) (.int .i64 (Ar.capped y x)))
          go_wp2_with fail
          ((with_reducible refine HGC.out.mono ?_); rintro e w9 ⟨rfl, hw9⟩)
          rw [hw9]
          clear hw9
          generalize Q9.setCell ⟨P0, 3, none⟩ (.int .i64 (Ar.capped y x)) = Q10 at HP10 HG10 HB10 ⊢
          go_wp2_with fail
          go_roundw
          case rel => exact ⟨k + 1, _, _, by go_num, by omega, HB10.out, by rw [HCH.out]; exact HP10.out, HG10.out⟩
          case measure => simp [intOf]; omega
         ·have hke : k = op.lo.length := by omega
          subst hke
          have HPE := Lib.hid (show Ar.Pg P0 P0 (.slice none 0 0) (.slice none 0 0) dv (AdjD.chosen a op.lo) y 1 1 1 wr by have h := HPG6.out; rwa [List.take_length] at h)
          clear hk hkn HPG6
          go_wp2_with fail
          have hcl : (AdjD.chosen a op.lo).length ≤ 65536 := by
           rw [AdjD.chosen_length]
           have h1 := Ar.once_len HOA.out
           have h2 : op.lo.length ≤ LA.length := by rw [← HEA.out, List.length_append]; omega
           omega
          have HF4 := Lib.hid (Ar.free4_any P0 P0 (P0 + 1) (.slice none 0 0) (.slice none 0 0) dv (AdjD.chosen a op.lo) y 1 1 1 A8 Aa c8 ca LA a wr (Nat.le_refl _) hP6 (by omega) (by omega) hcl HPP.out.1
           ((H8.out.below (HC4.out.trans (HB6.out.mono hcP))).up hcP) ((HAB.out wr HBW6.out).1.up (by omega)) HPE.out HG6.out)
          ((with_reducible refine HF4.out.mono ?_); rintro e w5 ⟨vA, dv5, y4, rfl, hvA, hapA, hfr5, hp5, hg5, hb5⟩)
          have HVA := Lib.hid hvA
          have HAPA := Lib.hid hapA
          have HP5 := Lib.hid hp5
          have HG5 := Lib.hid hg5
          have HBo5 := Lib.hid (HB6.out.trans hb5)
          have HBW5 := Lib.hid (HB4.out.trans (HBo5.out.mono (by omega)))
          have hP5 : P0 < w5.heap.size := hp5.blk.lt
          have HX5b := Lib.hid (HX6.out.below hb5 hwP)
          clear hvA hapA hfr5 hp5 hg5 hb5
          have hfl1 : (AdjD.free a LA).length ≤ a.length := AdjD'.keep_len a LA a.length
          have hfl2 : (AdjD.free b LB).length ≤ b.length := AdjD'.keep_len b LB b.length
          have hllo : op.lo.length ≤ 6 := by
           have h1 := Ar.once_len HOA.out
           have h2 : op.lo.length ≤ LA.length := by rw [← HEA.out, List.length_append]; omega
           omega
          have hcl5 : (AdjD.chosen a op.lo ++ AdjD.chosen a (AdjD.free a LA)).length ≤ 65536 := by
           rw [List.length_append, AdjD.chosen_length a (AdjD.free a LA), AdjD.chosen_length]
           omega
          have HF5 := Lib.hid (Ar.free5_any P0 P0 (P0 + 1) (.slice none 0 0) (.slice none 0 0) dv5 (AdjD.chosen a op.lo ++ AdjD.chosen a (AdjD.free a LA)) y y4 1 1 A9 Ab c9 cb LB b w5 (Nat.le_refl _) hP5 (by omega) (by omega) hcl5 HPP.out.2
           ((H9.out.below (HC4.out.trans (HBo5.out.mono hcP))).up hcP) ((HAB.out w5 HBW5.out).2.up (by omega)) HP5.out HG5.out)
          go_wp2_with fail
          ((with_reducible refine HF5.out.mono ?_); rintro e w6 ⟨vB, dv6, y5, rfl, hvB, hapB, hfr6, hp6, hg6, hb6⟩)
          have HVA6 := Lib.hid (hfr6.keeps HVA.out (Ar.own_blk HVA.out HP5.out.blk (by decide)) HAPA.out)
          have HVB6 := Lib.hid hvB
          have HP6 := Lib.hid hp6
          have HG6b := Lib.hid hg6
          have HBo6 := Lib.hid (HBo5.out.trans hb6)
          have HX6b := Lib.hid (HX5b.out.below hb6 hwP)
          clear hvB hapB hfr6 hp6 hg6 hb6 hcl5
          have x2 := HX6b.out.cell 2
          obtain ⟨NA, hNA⟩ : ∃ n : Nat, wr.heap.size = n := ⟨_, rfl⟩
          obtain ⟨NB, hNB⟩ : ∃ n : Nat, w5.heap.size = n := ⟨_, rfl⟩
          rw [hNA] at HVA6
          rw [hNB] at HVB6
          have HNN := Lib.hid (show P0 < NA ∧ P0 < NB by omega)
          obtain ⟨DF, hDF⟩ : ∃ l, AdjD.chosen a op.lo ++ AdjD.chosen a (AdjD.free a LA) ++ AdjD.chosen b (AdjD.free b LB) = l := ⟨_, rfl⟩
          rw [hDF] at HP6 HV
          have hdfl : DF.length ≤ 65536 := by
           rw [← hDF, List.length_append, List.length_append, AdjD.chosen_length, AdjD.chosen_length, AdjD.chosen_length]
           omega
          obtain ⟨FA, hFA⟩ : ∃ l, AdjD.free a LA = l := ⟨_, rfl⟩
          obtain ⟨FB, hFB⟩ : ∃ l, AdjD.free b LB = l := ⟨_, rfl⟩
          rw [hFA] at HVA6 hfl1
          rw [hFB] at HVB6 hfl2
          have x2T : w6.cell? ⟨w.heap.size, 2, none⟩ = some (.slice T op.at_.length ct) := x2
          clear hDF hFA hFB hNA hNB HF4 HF5 hcl x2
          go_wp2_with fail
          obtain ⟨wp, hwp⟩ : ∃ wp : World, wp = wr := ⟨_, rfl⟩
          subst hwp
          go_loopw [124] (fun kv wx => ∃ (k : Nat) (y6 : Int), kv = .int .i64 (k : Int) ∧ k ≤ op.at_.length ∧ Below P0 wo wx ∧ Ar.Pg P0 P0 (.slice none 0 0) (.slice none 0 0) dv6 DF y y4 y5 y6 wx ∧ Blk wx (P0 + 1) 78 #[.func (.func 54) #[] #[]] ∧ wx.ownsRow NA 3 1 vA FA.length (ints FA) ∧ wx.ownsRow NB 3 1 vB FB.length (ints FB) ∧ y6 = (AdjD.chosen a (op.at_.take k)).foldl Ar.capped 1) (fun kv _ => op.at_.length - (intOf kv).toNat)
          case atStart => exact ⟨0, 1, rfl, by omega, HBo6.out, HP6.out, HG6b.out, HVA6.out, HVB6.out, rfl⟩
          case round =>
           obtain ⟨k, y6, rfl, hk, hb, hpg, hg, hva, hvb, hy6⟩ := hrel
           have HB7 := Lib.hid hb
           have HBW7 := Lib.hid (HB4.out.trans (hb.mono (by omega)))
           have HPG7 := Lib.hid hpg
           have HG7 := Lib.hid hg
           have HVA7 := Lib.hid hva
           have HVB7 := Lib.hid hvb
           have HY6 := Lib.hid hy6
           have hP7 : P0 < wr.heap.size := hpg.blk.lt
           clear hb hpg hg hva hvb hy6
           by_cases hkn : k < op.at_.length
           ·have hLk : op.lo.length + k < LA.length := by rw [← HEA.out, List.length_append]; omega
            have eLk : LA[op.lo.length + k] = op.at_[k] := by
             have h1 : LA[op.lo.length + k]? = (op.lo ++ op.at_)[op.lo.length + k]? := by rw [HEA.out]
             rw [List.getElem?_eq_getElem hLk, List.getElem?_append_right (by omega), Nat.add_sub_cancel_left, List.getElem?_eq_getElem hkn] at h1
             injection h1
            have hin := Ar.once_in HOA.out hLk
            rw [eLk] at hin
            obtain ⟨Ax, cx, e1, hi, _, _⟩ := (HL.out wr HBW7.out).2.1
            obtain ⟨rfl, rfl⟩ : T = Ax ∧ ct = cx := by simpa using e1
            obtain ⟨bo, oo, rfl, hbo, go⟩ := hi (by omega)
            have co1 := go k hkn
            have HTK := Lib.hid (List.take_succ_eq_append_getElem hkn)
            clear e1 hi go eLk
            generalize op.at_[k] = q0 at hin co1 HTK
            obtain ⟨q, rfl⟩ : ∃ q : Nat, q0 = (q : Int) := ⟨q0.toNat, by omega⟩
            have hqa : q < a.length := by omega
            obtain ⟨hIa, _⟩ := HAB.out wr HBW7.out
            obtain ⟨ba2, oa2, rfl, hba2, ga2⟩ := hIa (by omega)
            have ca2 := ga2 q hqa
            have hxa := HPP.out.1 a[q] (List.getElem_mem hqa)
            have HCH := Lib.hid (show (AdjD.chosen a (op.at_.take (k + 1))).foldl Ar.capped 1 = Ar.capped y6 a[q] by rw [HTK.out, AdjD'.chosen_snoc a _ q hqa, List.foldl_append, ← HY6.out]; rfl)
            have k0 : (0 : Int) ≤ (k : Int) := by omega
            have k1 : (k : Int) < (op.at_.length : Int) := by omega
            have k3 : (0 : Int) ≤ (q : Int) := by omega
            have k4 : (q : Int) < (a.length : Int) := by omega
            have hfn : wr.cell? ⟨P0 + 1, 0, none⟩ = some (.func (.func 54) #[] #[]) := HG7.out.cell 0
            clear ga2 hIa
            generalize a[q] = x at ca2 hxa HCH
            go_wp2_with fail
            refine wp_region_T (fun w' => w'.cell? ⟨P0 + 1, 0, none⟩ = some (.func (.func 54) #[] #[]) ∧ w'.cell? ⟨ba2, oa2 + q, none⟩ = some (.int .i64 x)) 6 (fun _ => True) 6 7 rfl (by kernel_rfl) ⟨⟨hfn, ca2⟩, trivial⟩ (fun hHeld => ?_)
            simp only [List.replicate_succ, List.replicate_zero]
            refine tk (v := ?_) [] 0 128 hHeld ?_ ?_; rotate_left; (intro w h; (try dsimp only at h); go_simp; try with_reducible rfl); try simp only [Act.put, zA, zB, zC]
            refine tk (v := ?_) [] 1 129 hHeld ?_ ?_; rotate_left; (intro w h; (try dsimp only at h); go_simp; try with_reducible rfl); try simp only [Act.put, zA, zB, zC]
            refine tk (v := ?_) [4, 5] 2 130 hHeld ?_ ?_; rotate_left; (intro w h; (try dsimp only at h); go_simp; try with_reducible rfl); try simp only [Act.put, zA, zB, zC]
            refine tk (v := ?_) [4, 5] 3 131 hHeld ?_ ?_; rotate_left; (intro w h; (try dsimp only at h); go_simp; try with_reducible rfl); try simp only [Act.put, zA, zB, zC]
            refine tk (v := ?_) [5] 4 132 hHeld ?_ ?_; rotate_left; (intro w h; (try dsimp only at h); go_simp; try with_reducible rfl); try simp only [Act.put, zA, zB, zC]
            refine tk (v := ?_) [] 5 133 hHeld ?_ ?_; rotate_left; (intro w h; (try dsimp only at h); go_simp; try with_reducible rfl); try simp only [Act.put, zA, zB, zC]
            refine wpT_tail [_] 6 [] rfl (by kernel_rfl) ?_
            have HPD := Lib.hid (HPG7.out.below (Below.drew (Below.refl _ _)))
            have HGD := Lib.hid HG7.out.drew
            have HBD := Lib.hid HB7.out.drew
            have HVAD := Lib.hid (show wr.drew.ownsRow NA 3 1 vA FA.length (ints FA) from HVA7.out)
            have HVBD := Lib.hid (show wr.drew.ownsRow NB 3 1 vB FB.length (ints FB) from HVB7.out)
            clear hfn hHeld co1 ca2
            generalize wr.drew = Q9 at HPD HGD HBD HVAD HVBD ⊢
            have HGC := Lib.hid (Ar.growC_any P0 6 y6 x Q9 (HPD.out.blk.cell 6) (HPD.out.blk.frozen 6) HPD.out.b6 hxa)
            have HP10 := Lib.hid (HPD.out.set6 hxa)
            have HG10 := Lib.hid (HGD.out.far (p := ⟨P0, 6, none⟩) (by simp) (.int .i64 (Ar.capped y6 x)))
            have HB10 := Lib.hid (HBD.out.setCell (p := ⟨P0, 6, none⟩) (Nat.le_refl _) (.int .i64 (Ar.capped y6 x)))
            have HVA10 := Lib.hid (Ar.own_keep HVAD.out (fun g hg => Below.heap_setCell Q9 ⟨P0, 6, none⟩ (.int .i64 (Ar.capped y6 x)) g (fun e => Ar.own_blk HVAD.out HPD.out.blk (by decide) (by rw [hg, e]))))
            have HVB10 := Lib.hid (Ar.own_keep HVBD.out (fun g hg => Below.heap_setCell Q9 ⟨P0, 6, none⟩ (.int .i64 (Ar.capped y6 x)) g (fun e => Ar.own_blk HVBD.out HPD.out.blk (by decide) (by rw [hg, e]))))
            go_wp2_with fail
            ((with_reducible refine HGC.out.mono ?_); rintro e w9 ⟨rfl, hw9⟩)
            rw [hw9]
            clear hw9
            generalize Q9.setCell ⟨P0, 6, none⟩ (.int .i64 (Ar.capped y6 x)) = Q10 at HP10 HG10 HB10 HVA10 HVB10 ⊢
            go_wp2_with fail
            go_roundw
            case rel => exact ⟨k + 1, _, by go_num, by omega, HB10.out, HP10.out, HG10.out, HVA10.out, HVB10.out, HCH.out.symm⟩
            case measure => simp [intOf]; omega
           ·have hke : k = op.at_.length := by omega
            have HY7 := Lib.hid (show y6 = (AdjD.chosen a op.at_).foldl Ar.capped 1 by rw [HY6.out, hke, List.take_length])
            subst hke
            clear hk hkn HY6
            obtain ⟨Av, cva, hvaa, _⟩ := Vw.own_any HVA7.out
            subst hvaa
            obtain ⟨Bv, cvb, hvbb, _⟩ := Vw.own_any HVB7.out
            subst hvbb
            have HX7 := Lib.hid (HX1.out.below (HC4.out.trans (HB7.out.mono hcP)) HX1.out.lt)
            have HSK := Lib.hid (fun W (hb : Below wr.heap.size wr W) => show W.cell? ⟨w.heap.size, 3, none⟩ = some (.slice O op.lo.length co) ∧ W.cell? ⟨w.heap.size, 2, none⟩ = some (.slice T op.at_.length ct) ∧ W.cell? ⟨w.heap.size, 4, none⟩ = some (.slice I op.hi.length ci) ∧ W.cell? ⟨w.heap.size, 5, none⟩ = some (.slice S op.step.length cs) from ⟨(HX7.out.below hb HX7.out.lt).cell 3, (HX7.out.below hb HX7.out.lt).cell 2, (HX7.out.below hb HX7.out.lt).cell 4, (HX7.out.below hb HX7.out.lt).cell 5⟩)
            have HB0 := Lib.hid (show Below wr.heap.size wr wr.drew from (Below.refl _ _).drew)
            go_wp2_with fail
            refine wp_region_T (fun w' => w'.cell? ⟨w.heap.size, 3, none⟩ = some (.slice O op.lo.length co) ∧ w'.cell? ⟨w.heap.size, 2, none⟩ = some (.slice T op.at_.length ct) ∧ w'.cell? ⟨w.heap.size, 4, none⟩ = some (.slice I op.hi.length ci) ∧ w'.cell? ⟨w.heap.size, 5, none⟩ = some (.slice S op.step.length cs)) 15 (fun _ => True) 15 18 rfl (by kernel_rfl) ⟨HSK.out _ HB0.out, trivial⟩ (fun hHeld => ?_)
            simp only [List.replicate_succ, List.replicate_zero]
            refine tk (v := ?_) [] 0 136 hHeld ?_ ?_; rotate_left; (intro w h; (try dsimp only at h); go_simp; try with_reducible rfl); try simp only [Act.put, zA, zB, zC]
            refine tk (v := ?_) [] 1 137 hHeld ?_ ?_; rotate_left; (intro w h; (try dsimp only at h); go_simp; try with_reducible rfl); try simp only [Act.put, zA, zB, zC]
            refine tk (v := ?_) [] 2 138 hHeld ?_ ?_; rotate_left; (intro w h; (try dsimp only at h); go_simp; try with_reducible rfl); try simp only [Act.put, zA, zB, zC]
            refine tk (v := ?_) [] 3 139 hHeld ?_ ?_; rotate_left; (intro w h; (try dsimp only at h); go_simp; try with_reducible rfl); try simp only [Act.put, zA, zB, zC]
            refine tk (v := ?_) [] 4 140 hHeld ?_ ?_; rotate_left; (intro w h; (try dsimp only at h); go_simp; try with_reducible rfl); try simp only [Act.put, zA, zB, zC]
            refine tk (v := ?_) [8, 12, 13] 7 143 hHeld ?_ ?_; rotate_left; (intro w h; (try dsimp only at h); go_simp; try with_reducible rfl); try simp only [Act.put, zA, zB, zC]
            refine tk (v := ?_) [12, 13] 8 144 hHeld ?_ ?_; rotate_left; (intro w h; (try dsimp only at h); go_simp; try with_reducible rfl); try simp only [Act.put, zA, zB, zC]
            refine tk (v := ?_) [12, 13] 9 145 hHeld ?_ ?_; rotate_left; (intro w h; (try dsimp only at h); go_simp; try with_reducible rfl); try simp only [Act.put, zA, zB, zC]
            refine tk (v := ?_) [11, 12, 13] 10 146 hHeld ?_ ?_; rotate_left; (intro w h; (try dsimp only at h); go_simp; try with_reducible rfl); try simp only [Act.put, zA, zB, zC]
            refine tk (v := ?_) [12, 13] 11 147 hHeld ?_ ?_; rotate_left; (intro w h; (try dsimp only at h); go_simp; try with_reducible rfl); try simp only [Act.put, zA, zB, zC]
            generalize wr.drew = W0 at HB0 hHeld ⊢
            refine wpT_two 5 12 (by kernel_rfl) (stepT_early rfl rfl (fun K hK => ?_)) (stepT_early rfl rfl (fun K hK => ?_))
            ·skip
             go_simp
             have HS1 := Lib.hid ((Below.refl W0.heap.size W0).alloc (Nat.le_refl _) (.cells #[.slice O op.lo.length co, .slice Av FA.length cva, .slice T op.at_.length ct] 23))
             have HB1 := Lib.hid (HB0.out.trans (HS1.out.mono HB0.out.size))
             have HK1 := Lib.hid (Blk.new W0 23 #[.slice O op.lo.length co, .slice Av FA.length cva, .slice T op.at_.length ct])
             have hz1 : W0.heap.size < (W0.alloc (.cells #[.slice O op.lo.length co, .slice Av FA.length cva, .slice T op.at_.length ct] 23)).heap.size := by simp
             have HG1 := Lib.hid (HSK.out _ HB1.out)
             refine hK.out _ _ ⟨HG1.out, trivial⟩ (fun hHeld2 => ?_)
             clear hK K hHeld
             have hHeld := hHeld2
             clear hHeld2
             try simp only [zA, zB, zC]
             generalize W0.alloc (.cells #[.slice O op.lo.length co, .slice Av FA.length cva, .slice T op.at_.length ct] 23) = W1 at HS1 HB1 HK1 hz1 HG1 hHeld ⊢
             have HL1 := Lib.hid (fun W (hb : Below W1.heap.size W1 W) => Ar.lists3 (HK1.out.below hb HK1.out.lt) (Nat.lt_of_lt_of_le HK1.out.lt hb.size) ((fun W (hb : Below wr.heap.size wr W) => (HL.out W (HBW7.out.trans (hb.mono HBW7.out.size))).1) W (HB1.out.trans (hb.mono HB1.out.size))) ((fun W (hb : Below wr.heap.size wr W) => ((Ar.sl_own HVA7.out).below hb).up hb.size) W (HB1.out.trans (hb.mono HB1.out.size))) ((fun W (hb : Below wr.heap.size wr W) => (HL.out W (HBW7.out.trans (hb.mono HBW7.out.size))).2.1) W (HB1.out.trans (hb.mono HB1.out.size))))
             refine wpT_two 6 12 (by kernel_rfl) (stepT_early rfl rfl (fun K hK => ?_)) (stepT_early rfl rfl (fun K hK => ?_))
             ·skip
              go_simp
              have HC1 := Lib.hid (Ar.concat3_any (W0.heap.size) (op.lo) (FA) (op.at_) W1 (by omega) (HL1.out W1 (Below.refl W1.heap.size W1)))
              ((with_reducible refine HC1.out.mono ?_); rintro e W2 ⟨v, rfl, ho, hb⟩)
              have HS2 := Lib.hid hb
              have HB2 := Lib.hid (HB1.out.trans (hb.mono HB1.out.size))
              have HV1 := Lib.hid (Ar.sl_own ho)
              obtain ⟨Ar1, cr1, hv1, _⟩ := Vw.own_any ho
              subst hv1
              have hz2 : W1.heap.size ≤ W2.heap.size := hb.size
              have HG2 := Lib.hid (HSK.out _ HB2.out)
              clear ho hb
              try go_simp
              refine hK.out _ _ ⟨HG2.out, trivial⟩ (fun hHeld2 => ?_)
              clear hK K hHeld
              have hHeld := hHeld2
              clear hHeld2
              try simp only [zA, zB, zC]
              refine wpT_one 12 (by kernel_rfl) (stepT_early rfl rfl (fun K hK => ?_))
              go_simp
              have HS3 := Lib.hid ((Below.refl W2.heap.size W2).alloc (Nat.le_refl _) (.cells #[.slice I op.hi.length ci, .slice Bv FB.length cvb, .slice S op.step.length cs] 23))
              have HB3 := Lib.hid (HB2.out.trans (HS3.out.mono HB2.out.size))
              have HK2 := Lib.hid (Blk.new W2 23 #[.slice I op.hi.length ci, .slice Bv FB.length cvb, .slice S op.step.length cs])
              have hz3 : W2.heap.size < (W2.alloc (.cells #[.slice I op.hi.length ci, .slice Bv FB.length cvb, .slice S op.step.length cs] 23)).heap.size := by simp
              have HG3 := Lib.hid (HSK.out _ HB3.out)
              refine hK.out _ _ ⟨HG3.out, trivial⟩ (fun hHeld2 => ?_)
              clear hK K hHeld
              have hHeld := hHeld2
              clear hHeld2
              try simp only [zA, zB, zC]
              generalize W2.alloc (.cells #[.slice I op.hi.length ci, .slice Bv FB.length cvb, .slice S op.step.length cs] 23) = W3 at HS3 HB3 HK2 hz3 HG3 hHeld ⊢
              have HL2 := Lib.hid (fun W (hb : Below W3.heap.size W3 W) => Ar.lists3 (HK2.out.below hb HK2.out.lt) (Nat.lt_of_lt_of_le HK2.out.lt hb.size) ((fun W (hb : Below wr.heap.size wr W) => (HL.out W (HBW7.out.trans (hb.mono HBW7.out.size))).2.2.1) W (HB3.out.trans (hb.mono HB3.out.size))) ((fun W (hb : Below wr.heap.size wr W) => ((Ar.sl_own HVB7.out).below hb).up hb.size) W (HB3.out.trans (hb.mono HB3.out.size))) ((fun W (hb : Below wr.heap.size wr W) => (HL.out W (HBW7.out.trans (hb.mono HBW7.out.size))).2.2.2) W (HB3.out.trans (hb.mono HB3.out.size))))
              refine wpT_one 13 (by kernel_rfl) (stepT_early rfl rfl (fun K hK => ?_))
              go_simp
              have HC2 := Lib.hid (Ar.concat3_any (W2.heap.size) (op.hi) (FB) (op.step) W3 (by omega) (HL2.out W3 (Below.refl W3.heap.size W3)))
              ((with_reducible refine HC2.out.mono ?_); rintro e W4 ⟨v, rfl, ho, hb⟩)
              have HS4 := Lib.hid hb
              have HB4 := Lib.hid (HB3.out.trans (hb.mono HB3.out.size))
              have HV2 := Lib.hid (Ar.sl_own ho)
              obtain ⟨Ar2, cr2, hv2, _⟩ := Vw.own_any ho
              subst hv2
              have hz4 : W3.heap.size ≤ W4.heap.size := hb.size
              have HG4 := Lib.hid (HSK.out _ HB4.out)
              clear ho hb
              try go_simp
              refine hK.out _ _ ⟨HG4.out, trivial⟩ (fun hHeld2 => ?_)
              clear hK K hHeld
              have hHeld := hHeld2
              clear hHeld2
              try simp only [zA, zB, zC]
              have HV1 := Lib.hid (show Ar.SlAt W4 W4.heap.size _ _ from (HV1.out.below (((Below.refl W2.heap.size W2).trans (HS3.out.mono (by omega))).trans (HS4.out.mono (by omega)))).up (by omega))
              refine wpT_one 14 (by kernel_rfl) (stepT_early rfl rfl (fun K hK => ?_))
              try go_simp
              refine hK.out _ _ ⟨HG4.out, trivial⟩ (fun hHeld2 => ?_)
              clear hK K hHeld
              have hHeld := hHeld2
              clear hHeld2
              try simp only [zA, zB, zC]
              have HPn := Lib.hid (HPG7.out.below HB4.out)
              have HRn := Lib.hid ((HR4.out.below (HB7.out.mono (by omega)) HR4.out.lt).below HB4.out (HR4.out.below (HB7.out.mono (by omega)) HR4.out.lt).lt)
              have HBn := Lib.hid (HBW7.out.trans (HB4.out.mono HBW7.out.size))
              have fz0 := HPn.out.blk.frozen 0
              have fz1 := HPn.out.blk.frozen 1
              have HPE := Lib.hid ((HPn.out.blk.set_ 0 (.slice Ar1 (op.lo.length + (FA.length + op.at_.length)) cr1)).set_ 1 (.slice Ar2 (op.hi.length + (FB.length + op.step.length)) cr2))
              have HRE := Lib.hid ((HRn.out.far (p := ⟨P0, 0, none⟩) (by simp; omega) (.slice Ar1 (op.lo.length + (FA.length + op.at_.length)) cr1)).far (p := ⟨P0, 1, none⟩) (by simp; omega) (.slice Ar2 (op.hi.length + (FB.length + op.step.length)) cr2))
              have HBE := Lib.hid ((HBn.out.setCell (p := ⟨P0, 0, none⟩) (by simp; omega) (.slice Ar1 (op.lo.length + (FA.length + op.at_.length)) cr1)).setCell (p := ⟨P0, 1, none⟩) (by simp; omega) (.slice Ar2 (op.hi.length + (FB.length + op.step.length)) cr2))
              clear hHeld
              obtain ⟨Dv, cdv, hdvv, _⟩ := Vw.own_any HPn.out.own
              subst hdvv
              have p0 : ((W4.setCell ⟨P0, 0, none⟩ (.slice Ar1 (op.lo.length + (FA.length + op.at_.length)) cr1)).setCell ⟨P0, 1, none⟩ (.slice Ar2 (op.hi.length + (FB.length + op.step.length)) cr2)).cell? ⟨P0, 0, none⟩ = some (.slice Ar1 (op.lo.length + (FA.length + op.at_.length)) cr1) := HPE.out.cell 0
              have p1 : ((W4.setCell ⟨P0, 0, none⟩ (.slice Ar1 (op.lo.length + (FA.length + op.at_.length)) cr1)).setCell ⟨P0, 1, none⟩ (.slice Ar2 (op.hi.length + (FB.length + op.step.length)) cr2)).cell? ⟨P0, 1, none⟩ = some (.slice Ar2 (op.hi.length + (FB.length + op.step.length)) cr2) := HPE.out.cell 1
              have p2 : ((W4.setCell ⟨P0, 0, none⟩ (.slice Ar1 (op.lo.length + (FA.length + op.at_.length)) cr1)).setCell ⟨P0, 1, none⟩ (.slice Ar2 (op.hi.length + (FB.length + op.step.length)) cr2)).cell? ⟨P0, 2, none⟩ = some (.slice Dv DF.length cdv) := HPE.out.cell 2
              have p3 : ((W4.setCell ⟨P0, 0, none⟩ (.slice Ar1 (op.lo.length + (FA.length + op.at_.length)) cr1)).setCell ⟨P0, 1, none⟩ (.slice Ar2 (op.hi.length + (FB.length + op.step.length)) cr2)).cell? ⟨P0, 3, none⟩ = some (.int .i64 y) := HPE.out.cell 3
              have p4 : ((W4.setCell ⟨P0, 0, none⟩ (.slice Ar1 (op.lo.length + (FA.length + op.at_.length)) cr1)).setCell ⟨P0, 1, none⟩ (.slice Ar2 (op.hi.length + (FB.length + op.step.length)) cr2)).cell? ⟨P0, 4, none⟩ = some (.int .i64 y4) := HPE.out.cell 4
              have p5 : ((W4.setCell ⟨P0, 0, none⟩ (.slice Ar1 (op.lo.length + (FA.length + op.at_.length)) cr1)).setCell ⟨P0, 1, none⟩ (.slice Ar2 (op.hi.length + (FB.length + op.step.length)) cr2)).cell? ⟨P0, 5, none⟩ = some (.int .i64 y5) := HPE.out.cell 5
              have p6 : ((W4.setCell ⟨P0, 0, none⟩ (.slice Ar1 (op.lo.length + (FA.length + op.at_.length)) cr1)).setCell ⟨P0, 1, none⟩ (.slice Ar2 (op.hi.length + (FB.length + op.step.length)) cr2)).cell? ⟨P0, 6, none⟩ = some (.int .i64 y6) := HPE.out.cell 6
              have s0 : W4.cell? ⟨P0, 0, none⟩ = some (.slice none 0 0) := HPn.out.blk.cell 0
              have s1 : (W4.setCell ⟨P0, 0, none⟩ (.slice Ar1 (op.lo.length + (FA.length + op.at_.length)) cr1)).cell? ⟨P0, 1, none⟩ = some (.slice none 0 0) := (HPn.out.blk.set_ 0 (.slice Ar1 (op.lo.length + (FA.length + op.at_.length)) cr1)).cell 1
              have fz2 := (HPn.out.blk.set_ 0 (.slice Ar1 (op.lo.length + (FA.length + op.at_.length)) cr1)).frozen 1
              have r0 := HRE.out.cell 0
              have r1 := HRE.out.cell 1
              have r2 := HRE.out.cell 2
              have r3 := HRE.out.cell 3
              have r4 := HRE.out.cell 4
              have r5 := HRE.out.cell 5
              have r6 := HRE.out.cell 6
              have f0 := HRE.out.frozen 0
              have f1 := HRE.out.frozen 1
              have f2 := HRE.out.frozen 2
              have f3 := HRE.out.frozen 3
              have f4 := HRE.out.frozen 4
              have f5 := HRE.out.frozen 5
              have f6 := HRE.out.frozen 6
              have hwP0 : w0.heap.size ≠ P0 := by omega
              have HOE := Lib.hid (Ar.own_set (Ar.own_set HPn.out.own (p := ⟨P0, 0, none⟩) (fun g hg e => HPn.out.apart (by rw [hg, e])) (.slice Ar1 (op.lo.length + (FA.length + op.at_.length)) cr1)) (p := ⟨P0, 1, none⟩) (fun g hg e => HPn.out.apart (by rw [hg, e])) (.slice Ar2 (op.hi.length + (FB.length + op.step.length)) cr2))
              have hw0P : w0.heap.size < P0 := by omega
              refine wpT_tail [_, _, _] 15 [16, 17] rfl (by kernel_rfl) ?_
              go_wp2_with fail
              refine bodyPost_ret (v := .tuple #[.agg #[(.slice Ar1 (op.lo.length + (FA.length + op.at_.length)) cr1), (.slice Ar2 (op.hi.length + (FB.length + op.step.length)) cr2), .slice Dv DF.length cdv, .int .i64 y, .int .i64 y4, .int .i64 y5, .int .i64 y6], .int .i64 0]) (by simp [results, Try.results39, go_sem, r0, r1, r2, r3, r4, r5, r6]) rfl ?_
              rw [HV.out, HVI.out, ← HY7.out]
              exact ⟨_, _, _, _, _, _, _, _, _, _, rfl, Vw.own_base (Ar.own_seven HOE.out hw0P _ _ _ _ _ _ _) (by omega), Ar.seven HBE.out (by omega) _ _ _ _ _ _ _⟩
             ·skip
              go_simp
              have HS2 := Lib.hid ((Below.refl W1.heap.size W1).alloc (Nat.le_refl _) (.cells #[.slice I op.hi.length ci, .slice Bv FB.length cvb, .slice S op.step.length cs] 23))
              have HB2 := Lib.hid (HB1.out.trans (HS2.out.mono HB1.out.size))
              have HK2 := Lib.hid (Blk.new W1 23 #[.slice I op.hi.length ci, .slice Bv FB.length cvb, .slice S op.step.length cs])
              have hz2 : W1.heap.size < (W1.alloc (.cells #[.slice I op.hi.length ci, .slice Bv FB.length cvb, .slice S op.step.length cs] 23)).heap.size := by simp
              have HG2 := Lib.hid (HSK.out _ HB2.out)
              refine hK.out _ _ ⟨HG2.out, trivial⟩ (fun hHeld2 => ?_)
              clear hK K hHeld
              have hHeld := hHeld2
              clear hHeld2
              try simp only [zA, zB, zC]
              generalize W1.alloc (.cells #[.slice I op.hi.length ci, .slice Bv FB.length cvb, .slice S op.step.length cs] 23) = W2 at HS2 HB2 HK2 hz2 HG2 hHeld ⊢
              have HL2 := Lib.hid (fun W (hb : Below W2.heap.size W2 W) => Ar.lists3 (HK2.out.below hb HK2.out.lt) (Nat.lt_of_lt_of_le HK2.out.lt hb.size) ((fun W (hb : Below wr.heap.size wr W) => (HL.out W (HBW7.out.trans (hb.mono HBW7.out.size))).2.2.1) W (HB2.out.trans (hb.mono HB2.out.size))) ((fun W (hb : Below wr.heap.size wr W) => ((Ar.sl_own HVB7.out).below hb).up hb.size) W (HB2.out.trans (hb.mono HB2.out.size))) ((fun W (hb : Below wr.heap.size wr W) => (HL.out W (HBW7.out.trans (hb.mono HBW7.out.size))).2.2.2) W (HB2.out.trans (hb.mono HB2.out.size))))
              refine wpT_one 6 (by kernel_rfl) (stepT_early rfl rfl (fun K hK => ?_))
              go_simp
              have HC1 := Lib.hid (Ar.concat3_any (W0.heap.size) (op.lo) (FA) (op.at_) W2 (by omega) (HL1.out W2 ((Below.refl W1.heap.size W1).trans (HS2.out.mono (by omega)))))
              ((with_reducible refine HC1.out.mono ?_); rintro e W3 ⟨v, rfl, ho, hb⟩)
              have HS3 := Lib.hid hb
              have HB3 := Lib.hid (HB2.out.trans (hb.mono HB2.out.size))
              have HV1 := Lib.hid (Ar.sl_own ho)
              obtain ⟨Ar1, cr1, hv1, _⟩ := Vw.own_any ho
              subst hv1
              have hz3 : W2.heap.size ≤ W3.heap.size := hb.size
              have HG3 := Lib.hid (HSK.out _ HB3.out)
              clear ho hb
              try go_simp
              refine hK.out _ _ ⟨HG3.out, trivial⟩ (fun hHeld2 => ?_)
              clear hK K hHeld
              have hHeld := hHeld2
              clear hHeld2
              try simp only [zA, zB, zC]
              refine wpT_one 13 (by kernel_rfl) (stepT_early rfl rfl (fun K hK => ?_))
              go_simp
              have HC2 := Lib.hid (Ar.concat3_any (W1.heap.size) (op.hi) (FB) (op.step) W3 (by omega) (HL2.out W3 ((Below.refl W2.heap.size W2).trans (HS3.out.mono (by omega)))))
              ((with_reducible refine HC2.out.mono ?_); rintro e W4 ⟨v, rfl, ho, hb⟩)
              have HS4 := Lib.hid hb
              have HB4 := Lib.hid (HB3.out.trans (hb.mono HB3.out.size))
              have HV2 := Lib.hid (Ar.sl_own ho)
              obtain ⟨Ar2, cr2, hv2, _⟩ := Vw.own_any ho
              subst hv2
              have hz4 : W3.heap.size ≤ W4.heap.size := hb.size
              have HG4 := Lib.hid (HSK.out _ HB4.out)
              clear ho hb
              try go_simp
              refine hK.out _ _ ⟨HG4.out, trivial⟩ (fun hHeld2 => ?_)
              clear hK K hHeld
              have hHeld := hHeld2
              clear hHeld2
              try simp only [zA, zB, zC]
              have HV1 := Lib.hid (show Ar.SlAt W4 W4.heap.size _ _ from (HV1.out.below ((Below.refl W3.heap.size W3).trans (HS4.out.mono (by omega)))).up (by omega))
              refine wpT_one 14 (by kernel_rfl) (stepT_early rfl rfl (fun K hK => ?_))
              try go_simp
              refine hK.out _ _ ⟨HG4.out, trivial⟩ (fun hHeld2 => ?_)
              clear hK K hHeld
              have hHeld := hHeld2
              clear hHeld2
              try simp only [zA, zB, zC]
              have HPn := Lib.hid (HPG7.out.below HB4.out)
              have HRn := Lib.hid ((HR4.out.below (HB7.out.mono (by omega)) HR4.out.lt).below HB4.out (HR4.out.below (HB7.out.mono (by omega)) HR4.out.lt).lt)
              have HBn := Lib.hid (HBW7.out.trans (HB4.out.mono HBW7.out.size))
              have fz0 := HPn.out.blk.frozen 0
              have fz1 := HPn.out.blk.frozen 1
              have HPE := Lib.hid ((HPn.out.blk.set_ 0 (.slice Ar1 (op.lo.length + (FA.length + op.at_.length)) cr1)).set_ 1 (.slice Ar2 (op.hi.length + (FB.length + op.step.length)) cr2))
              have HRE := Lib.hid ((HRn.out.far (p := ⟨P0, 0, none⟩) (by simp; omega) (.slice Ar1 (op.lo.length + (FA.length + op.at_.length)) cr1)).far (p := ⟨P0, 1, none⟩) (by simp; omega) (.slice Ar2 (op.hi.length + (FB.length + op.step.length)) cr2))
              have HBE := Lib.hid ((HBn.out.setCell (p := ⟨P0, 0, none⟩) (by simp; omega) (.slice Ar1 (op.lo.length + (FA.length + op.at_.length)) cr1)).setCell (p := ⟨P0, 1, none⟩) (by simp; omega) (.slice Ar2 (op.hi.length + (FB.length + op.step.length)) cr2))
              clear hHeld
              obtain ⟨Dv, cdv, hdvv, _⟩ := Vw.own_any HPn.out.own
              subst hdvv
              have p0 : ((W4.setCell ⟨P0, 0, none⟩ (.slice Ar1 (op.lo.length + (FA.length + op.at_.length)) cr1)).setCell ⟨P0, 1, none⟩ (.slice Ar2 (op.hi.length + (FB.length + op.step.length)) cr2)).cell? ⟨P0, 0, none⟩ = some (.slice Ar1 (op.lo.length + (FA.length + op.at_.length)) cr1) := HPE.out.cell 0
              have p1 : ((W4.setCell ⟨P0, 0, none⟩ (.slice Ar1 (op.lo.length + (FA.length + op.at_.length)) cr1)).setCell ⟨P0, 1, none⟩ (.slice Ar2 (op.hi.length + (FB.length + op.step.length)) cr2)).cell? ⟨P0, 1, none⟩ = some (.slice Ar2 (op.hi.length + (FB.length + op.step.length)) cr2) := HPE.out.cell 1
              have p2 : ((W4.setCell ⟨P0, 0, none⟩ (.slice Ar1 (op.lo.length + (FA.length + op.at_.length)) cr1)).setCell ⟨P0, 1, none⟩ (.slice Ar2 (op.hi.length + (FB.length + op.step.length)) cr2)).cell? ⟨P0, 2, none⟩ = some (.slice Dv DF.length cdv) := HPE.out.cell 2
              have p3 : ((W4.setCell ⟨P0, 0, none⟩ (.slice Ar1 (op.lo.length + (FA.length + op.at_.length)) cr1)).setCell ⟨P0, 1, none⟩ (.slice Ar2 (op.hi.length + (FB.length + op.step.length)) cr2)).cell? ⟨P0, 3, none⟩ = some (.int .i64 y) := HPE.out.cell 3
              have p4 : ((W4.setCell ⟨P0, 0, none⟩ (.slice Ar1 (op.lo.length + (FA.length + op.at_.length)) cr1)).setCell ⟨P0, 1, none⟩ (.slice Ar2 (op.hi.length + (FB.length + op.step.length)) cr2)).cell? ⟨P0, 4, none⟩ = some (.int .i64 y4) := HPE.out.cell 4
              have p5 : ((W4.setCell ⟨P0, 0, none⟩ (.slice Ar1 (op.lo.length + (FA.length + op.at_.length)) cr1)).setCell ⟨P0, 1, none⟩ (.slice Ar2 (op.hi.length + (FB.length + op.step.length)) cr2)).cell? ⟨P0, 5, none⟩ = some (.int .i64 y5) := HPE.out.cell 5
              have p6 : ((W4.setCell ⟨P0, 0, none⟩ (.slice Ar1 (op.lo.length + (FA.length + op.at_.length)) cr1)).setCell ⟨P0, 1, none⟩ (.slice Ar2 (op.hi.length + (FB.length + op.step.length)) cr2)).cell? ⟨P0, 6, none⟩ = some (.int .i64 y6) := HPE.out.cell 6
              have s0 : W4.cell? ⟨P0, 0, none⟩ = some (.slice none 0 0) := HPn.out.blk.cell 0
              have s1 : (W4.setCell ⟨P0, 0, none⟩ (.slice Ar1 (op.lo.length + (FA.length + op.at_.length)) cr1)).cell? ⟨P0, 1, none⟩ = some (.slice none 0 0) := (HPn.out.blk.set_ 0 (.slice Ar1 (op.lo.length + (FA.length + op.at_.length)) cr1)).cell 1
              have fz2 := (HPn.out.blk.set_ 0 (.slice Ar1 (op.lo.length + (FA.length + op.at_.length)) cr1)).frozen 1
              have r0 := HRE.out.cell 0
              have r1 := HRE.out.cell 1
              have r2 := HRE.out.cell 2
              have r3 := HRE.out.cell 3
              have r4 := HRE.out.cell 4
              have r5 := HRE.out.cell 5
              have r6 := HRE.out.cell 6
              have f0 := HRE.out.frozen 0
              have f1 := HRE.out.frozen 1
              have f2 := HRE.out.frozen 2
              have f3 := HRE.out.frozen 3
              have f4 := HRE.out.frozen 4
              have f5 := HRE.out.frozen 5
              have f6 := HRE.out.frozen 6
              have hwP0 : w0.heap.size ≠ P0 := by omega
              have HOE := Lib.hid (Ar.own_set (Ar.own_set HPn.out.own (p := ⟨P0, 0, none⟩) (fun g hg e => HPn.out.apart (by rw [hg, e])) (.slice Ar1 (op.lo.length + (FA.length + op.at_.length)) cr1)) (p := ⟨P0, 1, none⟩) (fun g hg e => HPn.out.apart (by rw [hg, e])) (.slice Ar2 (op.hi.length + (FB.length + op.step.length)) cr2))
              have hw0P : w0.heap.size < P0 := by omega
              refine wpT_tail [_, _, _] 15 [16, 17] rfl (by kernel_rfl) ?_
              go_wp2_with fail
              refine bodyPost_ret (v := .tuple #[.agg #[(.slice Ar1 (op.lo.length + (FA.length + op.at_.length)) cr1), (.slice Ar2 (op.hi.length + (FB.length + op.step.length)) cr2), .slice Dv DF.length cdv, .int .i64 y, .int .i64 y4, .int .i64 y5, .int .i64 y6], .int .i64 0]) (by simp [results, Try.results39, go_sem, r0, r1, r2, r3, r4, r5, r6]) rfl ?_
              rw [HV.out, HVI.out, ← HY7.out]
              exact ⟨_, _, _, _, _, _, _, _, _, _, rfl, Vw.own_base (Ar.own_seven HOE.out hw0P _ _ _ _ _ _ _) (by omega), Ar.seven HBE.out (by omega) _ _ _ _ _ _ _⟩
            ·skip
             go_simp
             have HS1 := Lib.hid ((Below.refl W0.heap.size W0).alloc (Nat.le_refl _) (.cells #[.slice I op.hi.length ci, .slice Bv FB.length cvb, .slice S op.step.length cs] 23))
             have HB1 := Lib.hid (HB0.out.trans (HS1.out.mono HB0.out.size))
             have HK2 := Lib.hid (Blk.new W0 23 #[.slice I op.hi.length ci, .slice Bv FB.length cvb, .slice S op.step.length cs])
             have hz1 : W0.heap.size < (W0.alloc (.cells #[.slice I op.hi.length ci, .slice Bv FB.length cvb, .slice S op.step.length cs] 23)).heap.size := by simp
             have HG1 := Lib.hid (HSK.out _ HB1.out)
             refine hK.out _ _ ⟨HG1.out, trivial⟩ (fun hHeld2 => ?_)
             clear hK K hHeld
             have hHeld := hHeld2
             clear hHeld2
             try simp only [zA, zB, zC]
             generalize W0.alloc (.cells #[.slice I op.hi.length ci, .slice Bv FB.length cvb, .slice S op.step.length cs] 23) = W1 at HS1 HB1 HK2 hz1 HG1 hHeld ⊢
             have HL2 := Lib.hid (fun W (hb : Below W1.heap.size W1 W) => Ar.lists3 (HK2.out.below hb HK2.out.lt) (Nat.lt_of_lt_of_le HK2.out.lt hb.size) ((fun W (hb : Below wr.heap.size wr W) => (HL.out W (HBW7.out.trans (hb.mono HBW7.out.size))).2.2.1) W (HB1.out.trans (hb.mono HB1.out.size))) ((fun W (hb : Below wr.heap.size wr W) => ((Ar.sl_own HVB7.out).below hb).up hb.size) W (HB1.out.trans (hb.mono HB1.out.size))) ((fun W (hb : Below wr.heap.size wr W) => (HL.out W (HBW7.out.trans (hb.mono HBW7.out.size))).2.2.2) W (HB1.out.trans (hb.mono HB1.out.size))))
             refine wpT_one 5 (by kernel_rfl) (stepT_early rfl rfl (fun K hK => ?_))
             go_simp
             have HS2 := Lib.hid ((Below.refl W1.heap.size W1).alloc (Nat.le_refl _) (.cells #[.slice O op.lo.length co, .slice Av FA.length cva, .slice T op.at_.length ct] 23))
             have HB2 := Lib.hid (HB1.out.trans (HS2.out.mono HB1.out.size))
             have HK1 := Lib.hid (Blk.new W1 23 #[.slice O op.lo.length co, .slice Av FA.length cva, .slice T op.at_.length ct])
             have hz2 : W1.heap.size < (W1.alloc (.cells #[.slice O op.lo.length co, .slice Av FA.length cva, .slice T op.at_.length ct] 23)).heap.size := by simp
             have HG2 := Lib.hid (HSK.out _ HB2.out)
             refine hK.out _ _ ⟨HG2.out, trivial⟩ (fun hHeld2 => ?_)
             clear hK K hHeld
             have hHeld := hHeld2
             clear hHeld2
             try simp only [zA, zB, zC]
             generalize W1.alloc (.cells #[.slice O op.lo.length co, .slice Av FA.length cva, .slice T op.at_.length ct] 23) = W2 at HS2 HB2 HK1 hz2 HG2 hHeld ⊢
             have HL1 := Lib.hid (fun W (hb : Below W2.heap.size W2 W) => Ar.lists3 (HK1.out.below hb HK1.out.lt) (Nat.lt_of_lt_of_le HK1.out.lt hb.size) ((fun W (hb : Below wr.heap.size wr W) => (HL.out W (HBW7.out.trans (hb.mono HBW7.out.size))).1) W (HB2.out.trans (hb.mono HB2.out.size))) ((fun W (hb : Below wr.heap.size wr W) => ((Ar.sl_own HVA7.out).below hb).up hb.size) W (HB2.out.trans (hb.mono HB2.out.size))) ((fun W (hb : Below wr.heap.size wr W) => (HL.out W (HBW7.out.trans (hb.mono HBW7.out.size))).2.1) W (HB2.out.trans (hb.mono HB2.out.size))))
             refine wpT_one 6 (by kernel_rfl) (stepT_early rfl rfl (fun K hK => ?_))
             go_simp
             have HC1 := Lib.hid (Ar.concat3_any (W1.heap.size) (op.lo) (FA) (op.at_) W2 (by omega) (HL1.out W2 (Below.refl W2.heap.size W2)))
             ((with_reducible refine HC1.out.mono ?_); rintro e W3 ⟨v, rfl, ho, hb⟩)
             have HS3 := Lib.hid hb
             have HB3 := Lib.hid (HB2.out.trans (hb.mono HB2.out.size))
             have HV1 := Lib.hid (Ar.sl_own ho)
             obtain ⟨Ar1, cr1, hv1, _⟩ := Vw.own_any ho
             subst hv1
             have hz3 : W2.heap.size ≤ W3.heap.size := hb.size
             have HG3 := Lib.hid (HSK.out _ HB3.out)
             clear ho hb
             try go_simp
             refine hK.out _ _ ⟨HG3.out, trivial⟩ (fun hHeld2 => ?_)
             clear hK K hHeld
             have hHeld := hHeld2
             clear hHeld2
             try simp only [zA, zB, zC]
             refine wpT_one 13 (by kernel_rfl) (stepT_early rfl rfl (fun K hK => ?_))
             go_simp
             have HC2 := Lib.hid (Ar.concat3_any (W0.heap.size) (op.hi) (FB) (op.step) W3 (by omega) (HL2.out W3 (((Below.refl W1.heap.size W1).trans (HS2.out.mono (by omega))).trans (HS3.out.mono (by omega)))))
             ((with_reducible refine HC2.out.mono ?_); rintro e W4 ⟨v, rfl, ho, hb⟩)
             have HS4 := Lib.hid hb
             have HB4 := Lib.hid (HB3.out.trans (hb.mono HB3.out.size))
             have HV2 := Lib.hid (Ar.sl_own ho)
             obtain ⟨Ar2, cr2, hv2, _⟩ := Vw.own_any ho
             subst hv2
             have hz4 : W3.heap.size ≤ W4.heap.size := hb.size
             have HG4 := Lib.hid (HSK.out _ HB4.out)
             clear ho hb
             try go_simp
             refine hK.out _ _ ⟨HG4.out, trivial⟩ (fun hHeld2 => ?_)
             clear hK K hHeld
             have hHeld := hHeld2
             clear hHeld2
             try simp only [zA, zB, zC]
             have HV1 := Lib.hid (show Ar.SlAt W4 W4.heap.size _ _ from (HV1.out.below ((Below.refl W3.heap.size W3).trans (HS4.out.mono (by omega)))).up (by omega))
             refine wpT_one 14 (by kernel_rfl) (stepT_early rfl rfl (fun K hK => ?_))
             try go_simp
             refine hK.out _ _ ⟨HG4.out, trivial⟩ (fun hHeld2 => ?_)
             clear hK K hHeld
             have hHeld := hHeld2
             clear hHeld2
             try simp only [zA, zB, zC]
             have HPn := Lib.hid (HPG7.out.below HB4.out)
             have HRn := Lib.hid ((HR4.out.below (HB7.out.mono (by omega)) HR4.out.lt).below HB4.out (HR4.out.below (HB7.out.mono (by omega)) HR4.out.lt).lt)
             have HBn := Lib.hid (HBW7.out.trans (HB4.out.mono HBW7.out.size))
             have fz0 := HPn.out.blk.frozen 0
             have fz1 := HPn.out.blk.frozen 1
             have HPE := Lib.hid ((HPn.out.blk.set_ 0 (.slice Ar1 (op.lo.length + (FA.length + op.at_.length)) cr1)).set_ 1 (.slice Ar2 (op.hi.length + (FB.length + op.step.length)) cr2))
             have HRE := Lib.hid ((HRn.out.far (p := ⟨P0, 0, none⟩) (by simp; omega) (.slice Ar1 (op.lo.length + (FA.length + op.at_.length)) cr1)).far (p := ⟨P0, 1, none⟩) (by simp; omega) (.slice Ar2 (op.hi.length + (FB.length + op.step.length)) cr2))
             have HBE := Lib.hid ((HBn.out.setCell (p := ⟨P0, 0, none⟩) (by simp; omega) (.slice Ar1 (op.lo.length + (FA.length + op.at_.length)) cr1)).setCell (p := ⟨P0, 1, none⟩) (by simp; omega) (.slice Ar2 (op.hi.length + (FB.length + op.step.length)) cr2))
             clear hHeld
             obtain ⟨Dv, cdv, hdvv, _⟩ := Vw.own_any HPn.out.own
             subst hdvv
             have p0 : ((W4.setCell ⟨P0, 0, none⟩ (.slice Ar1 (op.lo.length + (FA.length + op.at_.length)) cr1)).setCell ⟨P0, 1, none⟩ (.slice Ar2 (op.hi.length + (FB.length + op.step.length)) cr2)).cell? ⟨P0, 0, none⟩ = some (.slice Ar1 (op.lo.length + (FA.length + op.at_.length)) cr1) := HPE.out.cell 0
             have p1 : ((W4.setCell ⟨P0, 0, none⟩ (.slice Ar1 (op.lo.length + (FA.length + op.at_.length)) cr1)).setCell ⟨P0, 1, none⟩ (.slice Ar2 (op.hi.length + (FB.length + op.step.length)) cr2)).cell? ⟨P0, 1, none⟩ = some (.slice Ar2 (op.hi.length + (FB.length + op.step.length)) cr2) := HPE.out.cell 1
             have p2 : ((W4.setCell ⟨P0, 0, none⟩ (.slice Ar1 (op.lo.length + (FA.length + op.at_.length)) cr1)).setCell ⟨P0, 1, none⟩ (.slice Ar2 (op.hi.length + (FB.length + op.step.length)) cr2)).cell? ⟨P0, 2, none⟩ = some (.slice Dv DF.length cdv) := HPE.out.cell 2
             have p3 : ((W4.setCell ⟨P0, 0, none⟩ (.slice Ar1 (op.lo.length + (FA.length + op.at_.length)) cr1)).setCell ⟨P0, 1, none⟩ (.slice Ar2 (op.hi.length + (FB.length + op.step.length)) cr2)).cell? ⟨P0, 3, none⟩ = some (.int .i64 y) := HPE.out.cell 3
             have p4 : ((W4.setCell ⟨P0, 0, none⟩ (.slice Ar1 (op.lo.length + (FA.length + op.at_.length)) cr1)).setCell ⟨P0, 1, none⟩ (.slice Ar2 (op.hi.length + (FB.length + op.step.length)) cr2)).cell? ⟨P0, 4, none⟩ = some (.int .i64 y4) := HPE.out.cell 4
             have p5 : ((W4.setCell ⟨P0, 0, none⟩ (.slice Ar1 (op.lo.length + (FA.length + op.at_.length)) cr1)).setCell ⟨P0, 1, none⟩ (.slice Ar2 (op.hi.length + (FB.length + op.step.length)) cr2)).cell? ⟨P0, 5, none⟩ = some (.int .i64 y5) := HPE.out.cell 5
             have p6 : ((W4.setCell ⟨P0, 0, none⟩ (.slice Ar1 (op.lo.length + (FA.length + op.at_.length)) cr1)).setCell ⟨P0, 1, none⟩ (.slice Ar2 (op.hi.length + (FB.length + op.step.length)) cr2)).cell? ⟨P0, 6, none⟩ = some (.int .i64 y6) := HPE.out.cell 6
             have s0 : W4.cell? ⟨P0, 0, none⟩ = some (.slice none 0 0) := HPn.out.blk.cell 0
             have s1 : (W4.setCell ⟨P0, 0, none⟩ (.slice Ar1 (op.lo.length + (FA.length + op.at_.length)) cr1)).cell? ⟨P0, 1, none⟩ = some (.slice none 0 0) := (HPn.out.blk.set_ 0 (.slice Ar1 (op.lo.length + (FA.length + op.at_.length)) cr1)).cell 1
             have fz2 := (HPn.out.blk.set_ 0 (.slice Ar1 (op.lo.length + (FA.length + op.at_.length)) cr1)).frozen 1
             have r0 := HRE.out.cell 0
             have r1 := HRE.out.cell 1
             have r2 := HRE.out.cell 2
             have r3 := HRE.out.cell 3
             have r4 := HRE.out.cell 4
             have r5 := HRE.out.cell 5
             have r6 := HRE.out.cell 6
             have f0 := HRE.out.frozen 0
             have f1 := HRE.out.frozen 1
             have f2 := HRE.out.frozen 2
             have f3 := HRE.out.frozen 3
             have f4 := HRE.out.frozen 4
             have f5 := HRE.out.frozen 5
             have f6 := HRE.out.frozen 6
             have hwP0 : w0.heap.size ≠ P0 := by omega
             have HOE := Lib.hid (Ar.own_set (Ar.own_set HPn.out.own (p := ⟨P0, 0, none⟩) (fun g hg e => HPn.out.apart (by rw [hg, e])) (.slice Ar1 (op.lo.length + (FA.length + op.at_.length)) cr1)) (p := ⟨P0, 1, none⟩) (fun g hg e => HPn.out.apart (by rw [hg, e])) (.slice Ar2 (op.hi.length + (FB.length + op.step.length)) cr2))
             have hw0P : w0.heap.size < P0 := by omega
             refine wpT_tail [_, _, _] 15 [16, 17] rfl (by kernel_rfl) ?_
             go_wp2_with fail
             refine bodyPost_ret (v := .tuple #[.agg #[(.slice Ar1 (op.lo.length + (FA.length + op.at_.length)) cr1), (.slice Ar2 (op.hi.length + (FB.length + op.step.length)) cr2), .slice Dv DF.length cdv, .int .i64 y, .int .i64 y4, .int .i64 y5, .int .i64 y6], .int .i64 0]) (by simp [results, Try.results39, go_sem, r0, r1, r2, r3, r4, r5, r6]) rfl ?_
             rw [HV.out, HVI.out, ← HY7.out]
             exact ⟨_, _, _, _, _, _, _, _, _, _, rfl, Vw.own_base (Ar.own_seven HOE.out hw0P _ _ _ _ _ _ _) (by omega), Ar.seven HBE.out (by omega) _ _ _ _ _ _ _⟩
   ·have d2 : ((op.lo.length : Int) != (op.hi.length : Int)) = true := by simp; omega
    have HV := Lib.hid (show AdjD.pairDims op a b = ([], 6) by rw [HE.out]; exact if_pos (.inr (.inl c2)))
    have HVI := Lib.hid (show Ar.pairInner op a b = 0 by unfold Ar.pairInner; rw [HV.out]; rfl)
    have r0 := HR1.out.cell 0
    have r1 := HR1.out.cell 1
    have r2 := HR1.out.cell 2
    have r3 := HR1.out.cell 3
    have r4 := HR1.out.cell 4
    have r5 := HR1.out.cell 5
    have r6 := HR1.out.cell 6
    have f0 := HR1.out.frozen 0
    have f1 := HR1.out.frozen 1
    have f2 := HR1.out.frozen 2
    have f3 := HR1.out.frozen 3
    have f4 := HR1.out.frozen 4
    have f5 := HR1.out.frozen 5
    have f6 := HR1.out.frozen 6
    go_wp2_with fail
    refine bodyPost_ret (v := .tuple #[.agg #[.slice none 0 0, .slice none 0 0, .slice none 0 0, .int .i64 0, .int .i64 0, .int .i64 0, .int .i64 0], .int .i64 6]) (by simp [results, Try.results39, go_sem, r0, r1, r2, r3, r4, r5, r6]) rfl ?_
    rw [HV.out, HVI.out]
    exact ⟨_, _, _, _, _, _, _, _, _, _, rfl, ⟨rfl, .inl ⟨rfl, rfl⟩⟩, Ar.seven HBW.out (by omega) _ _ _ _ _ _ _⟩
  ·have d1 : ((op.at_.length : Int) != (op.step.length : Int)) = true := by simp; omega
   have HV := Lib.hid (show AdjD.pairDims op a b = ([], 6) by rw [HE.out]; exact if_pos (.inl c1))
   have HVI := Lib.hid (show Ar.pairInner op a b = 0 by unfold Ar.pairInner; rw [HV.out]; rfl)
   have r0 := HR1.out.cell 0
   have r1 := HR1.out.cell 1
   have r2 := HR1.out.cell 2
   have r3 := HR1.out.cell 3
   have r4 := HR1.out.cell 4
   have r5 := HR1.out.cell 5
   have r6 := HR1.out.cell 6
   have f0 := HR1.out.frozen 0
   have f1 := HR1.out.frozen 1
   have f2 := HR1.out.frozen 2
   have f3 := HR1.out.frozen 3
   have f4 := HR1.out.frozen 4
   have f5 := HR1.out.frozen 5
   have f6 := HR1.out.frozen 6
   go_wp2_with fail
   refine bodyPost_ret (v := .tuple #[.agg #[.slice none 0 0, .slice none 0 0, .slice none 0 0, .int .i64 0, .int .i64 0, .int .i64 0, .int .i64 0], .int .i64 6]) (by simp [results, Try.results39, go_sem, r0, r1, r2, r3, r4, r5, r6]) rfl ?_
   rw [HV.out, HVI.out]
   exact ⟨_, _, _, _, _, _, _, _, _, _, rfl, ⟨rfl, .inl ⟨rfl, rfl⟩⟩, Ar.seven HBW.out (by omega) _ _ _ _ _ _ _⟩
end Go.Proofs.Ytapedmpbkffopaa
end
