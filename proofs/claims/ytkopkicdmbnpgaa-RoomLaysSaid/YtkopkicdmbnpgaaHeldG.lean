/-
  A step of a region that draws its order: a guarded operation that is wanted. No program in sight. No condition.
-/
import Derived.Test.YtkopkicdmbnpgaaHeld
namespace Adj
open Go
set_option linter.unusedVariables false
variable {P : Program} {ops : Array Oper} {Q : Exit → Act → World → Prop} {md : Region.Mode} {S R : World → Prop} {t0 t1 : Nat}
/-- A guarded one that is wanted; S and R are to be shown. -/
theorem stepT_wanted {fuel : Nat} {listed : Array Bool} {a : Act} {w : World} {i : Nat} {o : Oper} (ho : ops[i]? = some o) (hw : Region.wanted o (yielded ops a.tmps) = true)
    (h : ∀ K : Act → World → Prop, Shut (∀ a w, S w ∧ R w → (S w ∧ R w → wpT P md ops Q S t0 R t1 fuel (listed.setIfInBounds i true) a w) → K a w) → Oper.wp P o a w K Q) : StepT P md ops Q S t0 R t1 fuel listed a w i := by
  unfold StepT wpOp
  rw [ho]
  simp only [hw, if_true]
  exact .inl (h _ (fun a w hSR hW => ⟨⟨fun _ => hSR.1, fun _ => hSR.2⟩, hW hSR⟩))
end Adj
