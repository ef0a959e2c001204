/-
  PROVED: ViewPlacesSaid: for all dimensions, every index and every place the law ViewPlaces returns true: Size, Place and Index answer what the reference's answer. No condition.
-/
import Derived.Test.YtkbmnefjnfihbaaViewH
import Derived.Test.YtkbmnefjnfihbaaLawRow
namespace Go.Proofs.Ytkbmnefjnfihbaa.viewPlaces
open Go.ChangeShapes Go.WideShapes Go.ChangeAt Go.RowKit

theorem own : ownKnob Try.prog.godebug = none := by kernel_rfl
theorem laid : laidOutB Try.prog = true := by kernel_rfl

set_option maxHeartbeats 2000000 in
theorem walk (A A' : Option Addr) (cap cap' : Nat) (l m : List Int) (p : Int) (w : World) (h1 : l.length ≤ cap) (h2 : cap ≤ 9223372036854775807) (h1' : m.length ≤ cap') (h2' : cap' ≤ 9223372036854775807) (hm : Vw.IntsAt w w.heap.size A l) (hm' : Vw.IntsAt w w.heap.size A' m) :
    Calls Try.prog 3 #[.slice A l.length cap, .slice A' m.length cap', .int .i64 p] w fun e w' => e = .returned (.bool true) ∧ Below w.heap.size w w' := by
  have H1 := Lib.hid (Size_any A cap l _ w (by omega) hm)
  have H2 := Lib.hid (refSize_any A cap l _ w (by omega) hm)
  have H3 := Lib.hid (Place_any A A' cap cap' l m _ _ w (by omega) (by omega) hm hm')
  have H4 := Lib.hid (fun W (hb : Below w.heap.size w W) => refPlace_any A A' cap cap' l m w.heap.size w.heap.size W h1 h2 (by omega) hb.size hb.size (hm.below hb) (hm'.below hb))
  have H5 := Lib.hid (fun W (hb : Below w.heap.size w W) => viewIndex_any A cap l p w.heap.size W h1 h2 hb.size (hm.below hb))
  have H6 := Lib.hid (fun W (hb : Below w.heap.size w W) => refIndex_ints A cap l p w.heap.size W h1 h2 hb.size (hm.below hb))
  have HS := Lib.hid (index_short l p)
  clear hm hm'
  go_enter Try.func3, Try.ntmps3
  go_wp2_with fail
  refine H1.out.mono ?_
  rintro e w1 ⟨rfl, rfl⟩
  unfold Vw.sizeR
  go_wp2_with fail
  refine H2.out.mono ?_
  rintro e w1 ⟨rfl, rfl⟩
  unfold Vw.sizeR
  go_wp2_with fail
  refine H3.out.mono ?_
  rintro e w1 ⟨rfl, hb1⟩
  go_wp2_with fail
  refine (H4.out w1 hb1).mono ?_
  rintro e w2 ⟨rfl, hb2⟩
  have hb12 := hb1.trans (hb2.mono hb1.size)
  clear hb1 hb2
  go_wp2_with fail
  refine (H5.out w2 hb12).mono ?_
  rintro e w3 ⟨A3, c3, rfl, hb3, hi3⟩
  have hb13 := hb12.trans (hb3.mono hb12.size)
  have HI3 := Lib.hid hi3
  clear hb12 hb3 hi3
  go_wp2_with fail
  refine (H6.out w3 hb13).mono ?_
  rintro e w4 ⟨A4, c4, rfl, hb4, hi4⟩
  have hb14 := hb13.trans (hb4.mono hb13.size)
  have HI4 := Lib.hid hi4
  have HI3' := Lib.hid (HI3.out.below hb4)
  clear hb13 hb4 hi4
  go_wp2_with fail
  refine (same_any A3 A4 c3 c4 (AdjV.index l p).1 (AdjV.index l p).1 _ _ w4 (by have := HS.out; omega) (by have := HS.out; omega) HI3'.out HI4.out).mono ?_
  rintro e w5 ⟨rfl, hb5⟩
  rw [decide_eq_true (rfl : (AdjV.index l p).1 = (AdjV.index l p).1)]
  go_wp2_with fail
  go_ret
  exact ⟨rfl, hb14.trans (hb5.mono hb14.size)⟩

theorem lifted (os : Os) (started : os.Started) (H : Type) (enc : TypeId × Value → H) :
    ReturnsInHanded {} Try.checked os 3 .any (Rows.viewPlacesSpec.pre6 enc Try.prog Try.f3 Rows.viewPlacesRow.domain false) (Rows.viewPlacesSpec.post enc Try.prog Try.f3 false true false false) := by
  refine Adj.law_lifted (C := Try.checked) (s := Rows.viewPlacesSpec) own started (by kernel_rfl) Try.func3 laid rfl rfl Try.underlying4
      (by rw [Try.params3]; intro t ht; simp only [List.mem_cons, List.not_mem_nil, or_false] at ht; rcases ht with rfl | rfl | rfl <;> exact ⟨by kernel_rfl, of_decide_eq_true (by kernel_rfl)⟩)
      (by intro ds hd; match ds, hd with | [d1, d2, d3], _ => exact ⟨rfl, rfl, rfl⟩)
      (ChangeSpec.witness6 (enc := enc) (C := Try.checked) false ⟨#[], #[.slice none 0 0, .slice none 0 0, .int .i64 0], []⟩ 8 (by kernel_rfl) (by kernel_rfl) (by kernel_rfl) (by kernel_rfl)) ?_
  intro W base args ds before hval0 hA0 _ hz0
  have hval : ∀ (j : Nat) t v, Try.f3.params[j]? = some t → args[j]? = some v → Value.okWide Try.prog W .any base t v := hval0
  have hA : DataW.TrodAll enc Try.prog W 0 (fun _ => true) true Try.f3.params.toList args.toList ds before := hA0
  have hz : (DataW.weightsEach Try.prog (Try.f3.params.toList ++ []) (ds ++ [])).all (· ≤ reachBytes) = true := hz0
  rw [Try.params3] at hA hval hz
  obtain ⟨v0, v1, v2, d0, d1, d2, p0, p1, p2, rfl, rfl, rfl, h0, h1, h2⟩ := trodAll_three hA
  obtain ⟨A, l, cap, rfl, hm, hc1, hc2⟩ := open_list (hval 0 22 v0 rfl rfl) h0
  obtain ⟨A', m, cap', rfl, hm', hc1', hc2'⟩ := open_list (hval 1 22 v1 rfl rfl) h1
  obtain ⟨a2, rfl, rfl, rfl, w2⟩ := open_int Try.underlying3 (hval 2 3 v2 rfl rfl) h2
  exact walk A A' cap cap' l m a2 W hc1 hc2 hc1' hc2' hm hm'

theorem proved : Rows.ViewPlacesSaid :=
  OpenClaim.holds_of_wide 3 Try.f3 rfl rfl rfl rfl rfl rfl rfl ⟨rfl, rfl, rfl, rfl, rfl⟩ rfl rfl rfl rfl rfl (by kernel_rfl) Try.func3 (by kernel_rfl)
    (of_decide_eq_true (by kernel_rfl)) (by unfold Func.isWrapper; first | (rw [if_pos (by decide +kernel)]; kernel_rfl) | (rw [if_neg (by decide +kernel)]; exact ⟨rfl, rfl⟩))
    (fun os started H enc _ => lifted os started H enc)
#print axioms proved
end Go.Proofs.Ytkbmnefjnfihbaa.viewPlaces
