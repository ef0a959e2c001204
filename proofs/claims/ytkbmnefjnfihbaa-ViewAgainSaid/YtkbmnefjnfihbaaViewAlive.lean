/-
  The walk of alive: true. No condition.
-/
import Derived.Test.YtkbmnefjnfihbaaViewH
namespace Go.Proofs.Ytkbmnefjnfihbaa
open Go.RowKit Adj
set_option linter.unusedVariables false

theorem two_three (w : World) : Vw.IntsAt (w.alloc (.cells #[.int .i64 2, .int .i64 3] 3)) (w.heap.size + 1) (some ⟨w.heap.size, 0, none⟩) [2, 3] := fun _ => by
  refine ⟨w.heap.size, 0, rfl, by omega, fun i hi => ?_⟩
  have hb := Adj.Blk.new w 3 #[.int .i64 2, .int .i64 3]
  match i, hi with
  | 0, _ => exact hb.cell 0
  | 1, _ => exact hb.cell 1

theorem alive (w : World) : Calls Try.prog 18 #[] w fun e w' => e = .returned (.bool true) ∧ Below w.heap.size w w' := by
  have HS := Lib.hid (Size_any (some ⟨w.heap.size, 0, none⟩) 2 [2, 3] _ (w.alloc (.cells #[.int .i64 2, .int .i64 3] 3)) (by decide) (two_three w))
  have HR := Lib.hid (show Vw.sizeR [2, 3] = .tuple #[.int .i64 6, .int .i64 0] by unfold Vw.sizeR; rw [show AdjV.size [2, 3] = (6, 0) by decide +kernel])
  have HB := Lib.hid ((Below.refl w.heap.size w).alloc (Nat.le_refl _) (.cells #[.int .i64 2, .int .i64 3] 3))
  go_enter Try.func18, Try.ntmps18
  go_wp2_with fail
  refine HS.out.mono ?_
  rintro e w1 ⟨rfl, rfl⟩
  rw [HR.out]
  go_wp2_with fail
  go_ret
  exact ⟨rfl, HB.out⟩

end Go.Proofs.Ytkbmnefjnfihbaa
