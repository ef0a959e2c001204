/-
  The walk of alive. No condition.
-/
import Derived.Test.YtkopkicdmbnpgaaRoomU
namespace Go.Proofs.Ytkopkicdmbnpgaa
set_option linter.unusedVariables false
open Go.RowKit Adj

set_option maxRecDepth 100000 in
theorem alive_any (w : World) : Calls Try.prog 16 #[] w fun e w' => e = .returned (.bool true) ∧ Below w.heap.size w w' := by
  have HX := Lib.hid (Blk.new w 37 #[.int .i64 0, .int .i64 1, .int .i64 5])
  have HB0 := Lib.hid ((Below.refl w.heap.size w).alloc (Nat.le_refl _) (.cells #[.int .i64 0, .int .i64 1, .int .i64 5] 37))
  have HI := Lib.hid (show IntsAt (w.alloc (.cells #[.int .i64 0, .int .i64 1, .int .i64 5] 37)) (w.alloc (.cells #[.int .i64 0, .int .i64 1, .int .i64 5] 37)).heap.size (some ⟨w.heap.size, 0, none⟩) (AdjL.flat [⟨0, 1, 5⟩]) from IntsAt.of_blk (t := 37) HX.out)
  have HL := Lib.hid (Load_any (w.alloc (.cells #[.int .i64 0, .int .i64 1, .int .i64 5] 37)) [⟨0, 1, 5⟩] _ 1 1 rfl HI.out)
  have e1 : AdjL.wrong [⟨0, 1, 5⟩] = 0 := by decide
  have e2 : AdjL.load [⟨0, 1, 5⟩] = 5 := by decide
  rw [e1, if_pos rfl, e2] at HL
  clear e1 e2
  go_enter Try.func16, Try.ntmps16
  go_wp2_with fail
  ((with_reducible refine HL.out.mono ?_); rintro e w1 ⟨rfl, hb1⟩)
  have HB1 := Lib.hid (HB0.out.trans (hb1.mono HB0.out.size))
  clear hb1
  go_wp2_with fail
  go_ret
  exact ⟨rfl, HB1.out⟩
end Go.Proofs.Ytkopkicdmbnpgaa
