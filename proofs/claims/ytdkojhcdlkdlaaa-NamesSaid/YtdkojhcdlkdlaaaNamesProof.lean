/-
  PROVED: NamesSaid: the law Names returns true: each constant of package api has its value. No condition.
-/
import Derived.Test.YtdkojhcdlkdlaaaRows
import Derived.Test.YtdkojhcdlkdlaaaLawRow
import Derived.Lib.Hide
namespace Go.Proofs.Ytdkojhcdlkdlaaa.names
open Go.ChangeShapes Go.WideShapes Go.ChangeAt Go.RowKit

theorem own : ownKnob Try.prog.godebug = none := by kernel_rfl
theorem laid : laidOutB Try.prog = true := by kernel_rfl

theorem walk (w : World) :
    Calls Try.prog 3 #[] w fun e w' => e = .returned (.bool true) ∧ Below w.heap.size w w' := by
  go_enter Try.func3, Try.ntmps3
  go_wp2_with fail
  go_ret
  exact ⟨rfl, Below.refl _ _⟩

theorem lifted (os : Os) (started : os.Started) (H : Type) (enc : TypeId × Value → H) :
    ReturnsInHanded {} Try.checked os 3 .any (Rows.namesSpec.pre6 enc Try.prog Try.f3 Rows.namesRow.domain false) (Rows.namesSpec.post enc Try.prog Try.f3 false true false false) := by
  refine Adj.law_lifted (C := Try.checked) (s := Rows.namesSpec) own started (by kernel_rfl) Try.func3 laid rfl rfl Try.underlying4
      (by rw [Try.params3]; intro t ht; simp at ht)
      (by intro ds hd; match ds, hd with | [], _ => exact ⟨rfl, rfl, rfl⟩)
      (ChangeSpec.witness6 (enc := enc) (C := Try.checked) false ⟨#[], #[], []⟩ 8 (by kernel_rfl) (by kernel_rfl) (by kernel_rfl) (by kernel_rfl)) ?_
  intro W base args ds before hval0 hA0 _ _
  have hA : DataW.TrodAll enc Try.prog W 0 (fun _ => true) true Try.f3.params.toList args.toList ds before := hA0
  rw [Try.params3] at hA
  have hargs : args = #[] := by
    match hl : args.toList, ds, hA with
    | [], [], _ => exact Array.toList_eq_nil_iff.1 hl
    | _ :: _, _, h => exact absurd h (by intro h; cases ds <;> exact h.elim)
    | [], _ :: _, h => exact h.elim
  subst hargs
  exact walk W

theorem proved : Rows.NamesSaid :=
  OpenClaim.holds_of_wide 3 Try.f3 rfl rfl rfl rfl rfl rfl rfl ⟨rfl, rfl, rfl, rfl, rfl⟩ rfl rfl rfl rfl rfl (by kernel_rfl) Try.func3 (by kernel_rfl)
    (of_decide_eq_true (by kernel_rfl)) (by unfold Func.isWrapper; first | (rw [if_pos (by decide +kernel)]; kernel_rfl) | (rw [if_neg (by decide +kernel)]; exact ⟨rfl, rfl⟩))
    (fun os started H enc _ => lifted os started H enc)
#print axioms proved
end Go.Proofs.Ytdkojhcdlkdlaaa.names
