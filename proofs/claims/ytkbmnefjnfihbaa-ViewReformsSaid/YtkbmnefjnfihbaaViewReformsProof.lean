/-
  PROVED: ViewReformsSaid: for every view and every list of dimensions the law ViewReforms returns true: Reform answers what the reference's answers. No condition.
-/
import Derived.Test.YtkbmnefjnfihbaaViewZ
import Derived.Test.YtkbmnefjnfihbaaViewOpen
import Derived.Test.YtkbmnefjnfihbaaLawRow
namespace Go.Proofs.Ytkbmnefjnfihbaa.viewReforms
open Go.ChangeShapes Go.WideShapes Go.ChangeAt Go.RowKit
set_option linter.unusedVariables false

theorem trodAll_two {H : Type} {enc : TypeId × Value → H} {P : Program} {w : World} {base : Nat} {spare : Bool} {held : Nat → Bool} {t0 t1 : TypeId} {args : Array Value} {ds : List (DataW H)} {ps : List MemPlace} (h : DataW.TrodAll enc P w base held spare [t0, t1] args.toList ds ps) :
    ∃ v0 v1 d0 d1 p0 p1, args = #[v0, v1] ∧ ds = [d0, d1] ∧ ps = p0 ++ p1 ∧ DataW.Trod enc P w base held spare t0 v0 d0 p0 ∧ DataW.Trod enc P w base held spare t1 v1 d1 p1 := by
  obtain ⟨v, vs, d, ds', p, q, hargs, rfl, rfl, hd, hrest⟩ := trodAll_cons h
  obtain ⟨v1, vs1, d1, ds1, p1, q1, rfl, rfl, rfl, hd1, hrest1⟩ := trodAll_cons hrest
  obtain ⟨rfl, rfl, rfl⟩ := trodAll_nil hrest1
  exact ⟨v, v1, d, d1, p, p1, by cases args; simp_all, rfl, by simp, hd, hd1⟩

theorem own : ownKnob Try.prog.godebug = none := by kernel_rfl
theorem laid : laidOutB Try.prog = true := by kernel_rfl

set_option maxRecDepth 100000 in
set_option maxHeartbeats 4000000 in
theorem walk (val : Value) (v : AdjV.V) (DA : Option Addr) (cdi : Nat) (dims : List Int) (w : World) (hv : Vw.ViewAt w w.heap.size val v) (md : dims.length ≤ cdi) (md2 : cdi ≤ 9223372036854775807) (hdi : Vw.IntsAt w w.heap.size DA dims) :
    Calls Try.prog 8 #[val, .slice DA dims.length cdi] w fun e w' => e = .returned (.bool true) ∧ Below w.heap.size w w' := by
  have HT := Lib.hid (fun (W : World) (hb : Below w.heap.size w W) => Reform_any val v DA cdi dims w.heap.size W hb.size (hv.below hb) (hdi.below hb) md md2)
  have HT' := Lib.hid (fun (W : World) (hb : Below w.heap.size w W) => refReform_any val v DA cdi dims w.heap.size W hb.size (hv.below hb) (hdi.below hb) md md2)
  have HS := Lib.hid (fun (a b : Value) (u : AdjV.V) (W : World) (ha : Vw.ViewAt W W.heap.size a u) (hb : Vw.ViewAt W W.heap.size b u) => sameView_eq a b u W.heap.size W (Nat.le_refl _) ha hb)
  obtain ⟨D, dn, D', dn', rfl, _, _, _⟩ := hv
  clear hdi
  have HB0 := Lib.hid (((Below.refl w.heap.size w).alloc (Nat.le_refl _) (.cells #[.int .i64 v.st, .slice D v.dims.length dn, .slice D' v.steps.length dn'] 34)))
  go_enter Try.func8, Try.ntmps8
  go_wp2_with fail
  refine (HT.out _ HB0.out).mono ?_
  rintro e w1 ⟨⟨val1, rfl, hv1, _⟩, hb1⟩
  have hX := (Adj.Blk.new w 34 #[.int .i64 v.st, .slice D v.dims.length dn, .slice D' v.steps.length dn']).below hb1 (by simp)
  have HX1 := Lib.hid hX
  have HB1 := Lib.hid (HB0.out.trans (hb1.mono HB0.out.size))
  have HV1 := Lib.hid hv1
  obtain ⟨E1, en1, E1', en1', rfl, _, _, _⟩ := hv1
  have hlt1 : w.heap.size < w1.heap.size := hX.lt
  clear hX hb1
  generalize hr1 : AdjV.reform v dims = r1 at *
  clear hr1
  have a0 : ∀ o, (w1.alloc o).cell? ⟨w.heap.size, 0, none⟩ = some (.int .i64 v.st) := fun o => (HX1.out.alloc o).cell 0
  have a1 : ∀ o, (w1.alloc o).cell? ⟨w.heap.size, 1, none⟩ = some (.slice D v.dims.length dn) := fun o => (HX1.out.alloc o).cell 1
  have a2 : ∀ o, (w1.alloc o).cell? ⟨w.heap.size, 2, none⟩ = some (.slice D' v.steps.length dn') := fun o => (HX1.out.alloc o).cell 2
  go_wp2_with fail
  refine (HT'.out _ (HB1.out.alloc (Nat.le_of_lt hlt1) _)).mono ?_
  rintro e w2 ⟨⟨val2, rfl, hv2, _⟩, hb2⟩
  have hY := (Adj.Blk.new w1 34 #[.int .i64 r1.1.st, .slice E1 r1.1.dims.length en1, .slice E1' r1.1.steps.length en1']).below hb2 (by simp)
  have hX2 := (HX1.out.alloc (.cells #[.int .i64 r1.1.st, .slice E1 r1.1.dims.length en1, .slice E1' r1.1.steps.length en1'] 34)).below hb2 (by simp; omega)
  have HB12 := Lib.hid (((Below.refl w1.heap.size w1).alloc (Nat.le_refl _) (.cells #[.int .i64 r1.1.st, .slice E1 r1.1.dims.length en1, .slice E1' r1.1.steps.length en1'] 34)).trans (hb2.mono (by simp)))
  have HV2 := Lib.hid hv2
  obtain ⟨E2, en2, E2', en2', rfl, _, _, _⟩ := hv2
  have hlt2 : w1.heap.size < w2.heap.size := hY.lt
  have HY2 := Lib.hid hY
  have HX2 := Lib.hid hX2
  clear hY hX2 hb2 a0 a1 a2
  have b0 : ∀ o, (w2.alloc o).cell? ⟨w1.heap.size, 0, none⟩ = some (.int .i64 r1.1.st) := fun o => (HY2.out.alloc o).cell 0
  have b1 : ∀ o, (w2.alloc o).cell? ⟨w1.heap.size, 1, none⟩ = some (.slice E1 r1.1.dims.length en1) := fun o => (HY2.out.alloc o).cell 1
  have b2 : ∀ o, (w2.alloc o).cell? ⟨w1.heap.size, 2, none⟩ = some (.slice E1' r1.1.steps.length en1') := fun o => (HY2.out.alloc o).cell 2
  go_wp2_with fail
  obtain ⟨W2, hW2⟩ : ∃ W2, w2.alloc (.cells #[.int .i64 r1.1.st, .slice E2 r1.1.dims.length en2, .slice E2' r1.1.steps.length en2'] 34) = W2 := ⟨_, rfl⟩
  have HA := Lib.hid (show Vw.ViewAt W2 W2.heap.size (.agg #[.int .i64 r1.1.st, .slice E1 r1.1.dims.length en1, .slice E1' r1.1.steps.length en1']) r1.1 by
    rw [← hW2]; exact ((HV1.out.below HB12.out).up (by omega) : Vw.ViewAt w2 w2.heap.size _ _).below ((Below.refl _ _).alloc (Nat.le_refl _) _) |>.up (by simp))
  have HZ := Lib.hid (show Vw.ViewAt W2 W2.heap.size (.agg #[.int .i64 r1.1.st, .slice E2 r1.1.dims.length en2, .slice E2' r1.1.steps.length en2']) r1.1 by
    rw [← hW2]; exact (HV2.out.below ((Below.refl _ _).alloc (Nat.le_refl _) _)).up (by simp))
  have HX3 := Lib.hid (show Adj.Blk W2 w.heap.size 34 #[.int .i64 v.st, .slice D v.dims.length dn, .slice D' v.steps.length dn'] by rw [← hW2]; exact HX2.out.alloc _)
  have HY3 := Lib.hid (show Adj.Blk W2 w1.heap.size 34 #[.int .i64 r1.1.st, .slice E1 r1.1.dims.length en1, .slice E1' r1.1.steps.length en1'] by rw [← hW2]; exact HY2.out.alloc _)
  have HZ3 := Lib.hid (show Adj.Blk W2 w2.heap.size 34 #[.int .i64 r1.1.st, .slice E2 r1.1.dims.length en2, .slice E2' r1.1.steps.length en2'] by rw [← hW2]; exact Adj.Blk.new _ _ _)
  have HB2 := Lib.hid (show Below w.heap.size w W2 by rw [← hW2]; exact (HB1.out.trans (HB12.out.mono (Nat.le_of_lt hlt1))).alloc (by omega) _)
  rw [hW2]
  clear hW2 b0 b1 b2
  refine (HS.out _ _ _ _ HA.out HZ.out).mono ?_
  rintro e w3 ⟨rfl, hb3⟩
  have hq : (r1.2 == r1.2) = true := by simp
  have HB3 := Lib.hid (HB2.out.trans (hb3.mono HB2.out.size))
  clear hb3
  go_wp2_with fail
  go_ret
  exact ⟨rfl, HB3.out⟩

theorem lifted (os : Os) (started : os.Started) (H : Type) (enc : TypeId × Value → H) :
    ReturnsInHanded {} Try.checked os 8 .any (Rows.viewReformsSpec.pre6 enc Try.prog Try.f8 Rows.viewReformsRow.domain false) (Rows.viewReformsSpec.post enc Try.prog Try.f8 false true false false) := by
  refine Adj.law_lifted (C := Try.checked) (s := Rows.viewReformsSpec) own started (by kernel_rfl) Try.func8 laid rfl rfl Try.underlying4
      (by rw [Try.params8]; intro t ht; simp only [List.mem_cons, List.not_mem_nil, or_false] at ht; rcases ht with rfl | rfl <;> exact ⟨by kernel_rfl, of_decide_eq_true (by kernel_rfl)⟩)
      (by intro ds hd; match ds, hd with | [d1, d2], _ => exact ⟨rfl, rfl, rfl⟩)
      (ChangeSpec.witness6 (enc := enc) (C := Try.checked) false ⟨#[], #[.agg #[.int .i64 0, .slice none 0 0, .slice none 0 0], .slice none 0 0], []⟩ 8 (by kernel_rfl) (by kernel_rfl) (by kernel_rfl) (by kernel_rfl)) ?_
  intro W base args ds before hval0 hA0 _ hz0
  have hval : ∀ (j : Nat) t v, Try.f8.params[j]? = some t → args[j]? = some v → Value.okWide Try.prog W .any base t v := hval0
  have hA : DataW.TrodAll enc Try.prog W 0 (fun _ => true) true Try.f8.params.toList args.toList ds before := hA0
  rw [Try.params8] at hA hval
  obtain ⟨v0, v1, d0, d1, p0, p1, rfl, rfl, rfl, h0, h1⟩ := trodAll_two hA
  obtain ⟨u, hu⟩ := open_view (hval 0 34 v0 rfl rfl) h0
  obtain ⟨A1, l1, c1, rfl, hm1, hb1, hd1⟩ := open_list (hval 1 22 v1 rfl rfl) h1
  exact walk v0 u A1 c1 l1 W hu hb1 hd1 hm1

theorem proved : Rows.ViewReformsSaid :=
  OpenClaim.holds_of_wide 8 Try.f8 rfl rfl rfl rfl rfl rfl rfl ⟨rfl, rfl, rfl, rfl, rfl⟩ rfl rfl rfl rfl rfl (by kernel_rfl) Try.func8 (by kernel_rfl)
    (of_decide_eq_true (by kernel_rfl)) (by unfold Func.isWrapper; first | (rw [if_pos (by decide +kernel)]; kernel_rfl) | (rw [if_neg (by decide +kernel)]; exact ⟨rfl, rfl⟩))
    (fun os started H enc _ => lifted os started H enc)
#print axioms proved
end Go.Proofs.Ytkbmnefjnfihbaa.viewReforms
