/-
  No cell of these rows narrows 'for every input' (looked for: loops, veiled, ifaces, maps, wideKeys, modest, calm, conditions, laid).
  DERIVED. THE GIVEN ROWS OF THIS SEAT. 8 by the template 'for every input the law returns true; each argument reads behind the call as it read before'; 0 by the template 'total and deterministic' (their statements: YtkbmnefjnfihbaaTotals.lean).
  GIVEN WITH THE SEED: the statements are not yours to turn. If you find one false, say at which input.
  Laid BY PROGRAM, IN A SANDBOX (cutbox-rows.mjs): the forced cells as the released guide's own fill.sh prints them over the translation 310531520521e43f… (all of the seat's roots in one cut). By AI agents, Wed Nov 11 2026. No macro, syntax, notation, axiom, sorry.
-/
import Derived.Test.YtkbmnefjnfihbaaChecked
import GoSem.Claim
import GoSem.ClaimJoined
import GoSem.ClaimMapViews
import Derived.JoinedTies
import Derived.KernelRfl
namespace Go.Proofs.Ytkbmnefjnfihbaa
/- THE CELL 'sum', in the pinned program and in every row, IS THE sha256 OF THE DUMP (.gsa) THAT YtkbmnefjnfihbaaProg.lean LOADS. Nothing in Lean hashes anything: it is a label: what it is worth is what the hold of that sum in a sandbox is worth. -/
noncomputable def Try.pinned : Pinned := { name := "ytkbmnefjnfihbaa", sum := "310531520521e43f94d81cc8d7ed5a8324ef2f0a16bb899549fe2348b394d482", checked := Try.checked }
namespace Rows
def none {H : Type} : Left H := { results := [], args := [] }

/-- 'adjointlaw1.ViewPlaces': WHATEVER THE INPUT: true; the input reads as it did. -/
def viewPlacesSpec : ChangeSpec := { name := "viewPlaces", fn := fun _ => fun
  | [d1, d2, d3] => { results := [.lit (.bool true)], args := [d1, d2, d3] }
  | _ => none }
def viewPlacesRow : OpenClaim := { program := "ytkbmnefjnfihbaa", sum := "310531520521e43f94d81cc8d7ed5a8324ef2f0a16bb899549fe2348b394d482", func := "adjoint/adjointlaw1.ViewPlaces", spec := "viewPlaces", unfollowed := true, recurses := true, apart := false }
def ViewPlacesSaid : Prop := viewPlacesRow.holds Try.pinned (OpenSpec.ofChange viewPlacesSpec)

/-- ITS FALSE NEIGHBOUR: 'it returns false'. Refute it at one input. -/
def viewPlacesWrong : ChangeSpec := { name := "viewPlaces", fn := fun _ => fun
  | [d1, d2, d3] => { results := [.lit (.bool false)], args := [d1, d2, d3] }
  | _ => none }
def ViewPlacesWrongFalsely : Prop := viewPlacesRow.holds Try.pinned (OpenSpec.ofChange viewPlacesWrong)

/-- 'adjointlaw1.ViewBack': WHATEVER THE INPUT: true; the input reads as it did. -/
def viewBackSpec : ChangeSpec := { name := "viewBack", fn := fun _ => fun
  | [d1, d2, d3] => { results := [.lit (.bool true)], args := [d1, d2, d3] }
  | _ => none }
def viewBackRow : OpenClaim := { program := "ytkbmnefjnfihbaa", sum := "310531520521e43f94d81cc8d7ed5a8324ef2f0a16bb899549fe2348b394d482", func := "adjoint/adjointlaw1.ViewBack", spec := "viewBack", unfollowed := true, recurses := true, apart := false }
def ViewBackSaid : Prop := viewBackRow.holds Try.pinned (OpenSpec.ofChange viewBackSpec)

/-- ITS FALSE NEIGHBOUR: 'it returns false'. Refute it at one input. -/
def viewBackWrong : ChangeSpec := { name := "viewBack", fn := fun _ => fun
  | [d1, d2, d3] => { results := [.lit (.bool false)], args := [d1, d2, d3] }
  | _ => none }
def ViewBackWrongFalsely : Prop := viewBackRow.holds Try.pinned (OpenSpec.ofChange viewBackWrong)

/-- 'adjointlaw1.ViewReads': WHATEVER THE INPUT: true; the input reads as it did. -/
def viewReadsSpec : ChangeSpec := { name := "viewReads", fn := fun _ => fun
  | [d] => { results := [.lit (.bool true)], args := [d] }
  | _ => none }
def viewReadsRow : OpenClaim := { program := "ytkbmnefjnfihbaa", sum := "310531520521e43f94d81cc8d7ed5a8324ef2f0a16bb899549fe2348b394d482", func := "adjoint/adjointlaw1.ViewReads", spec := "viewReads", unfollowed := true, recurses := true, apart := false }
def ViewReadsSaid : Prop := viewReadsRow.holds Try.pinned (OpenSpec.ofChange viewReadsSpec)

/-- ITS FALSE NEIGHBOUR: 'it returns false'. Refute it at one input. -/
def viewReadsWrong : ChangeSpec := { name := "viewReads", fn := fun _ => fun
  | [d] => { results := [.lit (.bool false)], args := [d] }
  | _ => none }
def ViewReadsWrongFalsely : Prop := viewReadsRow.holds Try.pinned (OpenSpec.ofChange viewReadsWrong)

/-- 'adjointlaw1.ViewTurns': WHATEVER THE INPUT: true; the input reads as it did. -/
def viewTurnsSpec : ChangeSpec := { name := "viewTurns", fn := fun _ => fun
  | [d1, d2, d3] => { results := [.lit (.bool true)], args := [d1, d2, d3] }
  | _ => none }
def viewTurnsRow : OpenClaim := { program := "ytkbmnefjnfihbaa", sum := "310531520521e43f94d81cc8d7ed5a8324ef2f0a16bb899549fe2348b394d482", func := "adjoint/adjointlaw1.ViewTurns", spec := "viewTurns", unfollowed := true, recurses := true, apart := false }
def ViewTurnsSaid : Prop := viewTurnsRow.holds Try.pinned (OpenSpec.ofChange viewTurnsSpec)

/-- ITS FALSE NEIGHBOUR: 'it returns false'. Refute it at one input. -/
def viewTurnsWrong : ChangeSpec := { name := "viewTurns", fn := fun _ => fun
  | [d1, d2, d3] => { results := [.lit (.bool false)], args := [d1, d2, d3] }
  | _ => none }
def ViewTurnsWrongFalsely : Prop := viewTurnsRow.holds Try.pinned (OpenSpec.ofChange viewTurnsWrong)

/-- 'adjointlaw1.ViewCuts': WHATEVER THE INPUT: true; the input reads as it did. -/
def viewCutsSpec : ChangeSpec := { name := "viewCuts", fn := fun _ => fun
  | [d1, d2, d3, d4, d5, d6] => { results := [.lit (.bool true)], args := [d1, d2, d3, d4, d5, d6] }
  | _ => none }
def viewCutsRow : OpenClaim := { program := "ytkbmnefjnfihbaa", sum := "310531520521e43f94d81cc8d7ed5a8324ef2f0a16bb899549fe2348b394d482", func := "adjoint/adjointlaw1.ViewCuts", spec := "viewCuts", unfollowed := true, recurses := true, apart := false }
def ViewCutsSaid : Prop := viewCutsRow.holds Try.pinned (OpenSpec.ofChange viewCutsSpec)

/-- ITS FALSE NEIGHBOUR: 'it returns false'. Refute it at one input. -/
def viewCutsWrong : ChangeSpec := { name := "viewCuts", fn := fun _ => fun
  | [d1, d2, d3, d4, d5, d6] => { results := [.lit (.bool false)], args := [d1, d2, d3, d4, d5, d6] }
  | _ => none }
def ViewCutsWrongFalsely : Prop := viewCutsRow.holds Try.pinned (OpenSpec.ofChange viewCutsWrong)

/-- 'adjointlaw1.ViewReforms': WHATEVER THE INPUT: true; the input reads as it did. -/
def viewReformsSpec : ChangeSpec := { name := "viewReforms", fn := fun _ => fun
  | [d1, d2] => { results := [.lit (.bool true)], args := [d1, d2] }
  | _ => none }
def viewReformsRow : OpenClaim := { program := "ytkbmnefjnfihbaa", sum := "310531520521e43f94d81cc8d7ed5a8324ef2f0a16bb899549fe2348b394d482", func := "adjoint/adjointlaw1.ViewReforms", spec := "viewReforms", unfollowed := true, recurses := true, apart := false }
def ViewReformsSaid : Prop := viewReformsRow.holds Try.pinned (OpenSpec.ofChange viewReformsSpec)

/-- ITS FALSE NEIGHBOUR: 'it returns false'. Refute it at one input. -/
def viewReformsWrong : ChangeSpec := { name := "viewReforms", fn := fun _ => fun
  | [d1, d2] => { results := [.lit (.bool false)], args := [d1, d2] }
  | _ => none }
def ViewReformsWrongFalsely : Prop := viewReformsRow.holds Try.pinned (OpenSpec.ofChange viewReformsWrong)

/-- 'adjointlaw1.ViewAgain': WHATEVER THE INPUT: true; the input reads as it did. -/
def viewAgainSpec : ChangeSpec := { name := "viewAgain", fn := fun _ => fun
  | [d1, d2, d3, d4] => { results := [.lit (.bool true)], args := [d1, d2, d3, d4] }
  | _ => none }
def viewAgainRow : OpenClaim := { program := "ytkbmnefjnfihbaa", sum := "310531520521e43f94d81cc8d7ed5a8324ef2f0a16bb899549fe2348b394d482", func := "adjoint/adjointlaw1.ViewAgain", spec := "viewAgain", unfollowed := true, recurses := true, apart := false }
def ViewAgainSaid : Prop := viewAgainRow.holds Try.pinned (OpenSpec.ofChange viewAgainSpec)

/-- ITS FALSE NEIGHBOUR: 'it returns false'. Refute it at one input. -/
def viewAgainWrong : ChangeSpec := { name := "viewAgain", fn := fun _ => fun
  | [d1, d2, d3, d4] => { results := [.lit (.bool false)], args := [d1, d2, d3, d4] }
  | _ => none }
def ViewAgainWrongFalsely : Prop := viewAgainRow.holds Try.pinned (OpenSpec.ofChange viewAgainWrong)

/-- 'adjointlaw1.ViewThrough': WHATEVER THE INPUT: true; the input reads as it did. -/
def viewThroughSpec : ChangeSpec := { name := "viewThrough", fn := fun _ => fun
  | [d1, d2, d3, d4, d5] => { results := [.lit (.bool true)], args := [d1, d2, d3, d4, d5] }
  | _ => none }
def viewThroughRow : OpenClaim := { program := "ytkbmnefjnfihbaa", sum := "310531520521e43f94d81cc8d7ed5a8324ef2f0a16bb899549fe2348b394d482", func := "adjoint/adjointlaw1.ViewThrough", spec := "viewThrough", unfollowed := true, recurses := true, apart := false }
def ViewThroughSaid : Prop := viewThroughRow.holds Try.pinned (OpenSpec.ofChange viewThroughSpec)

/-- ITS FALSE NEIGHBOUR: 'it returns false'. Refute it at one input. -/
def viewThroughWrong : ChangeSpec := { name := "viewThrough", fn := fun _ => fun
  | [d1, d2, d3, d4, d5] => { results := [.lit (.bool false)], args := [d1, d2, d3, d4, d5] }
  | _ => none }
def ViewThroughWrongFalsely : Prop := viewThroughRow.holds Try.pinned (OpenSpec.ofChange viewThroughWrong)

/- THE SECOND FORM. 'bulk': how many values and letters a reading holds, each counted each time it is reached (what is shared counts as often as it is met; a slice's spare places count too). A statement '..UptoSaid' is the law's where the arguments, and the package variables that the reading takes, are together of bulk at most 1048576: NARROWER than '..Said'. Prove '..Said' where nothing that the law and all that it calls make is longer than what came in: it says more and counts as full. Else prove '..UptoSaid'. A law counts once. -/
mutual
def uptoBulk {H : Type} : DataW H → Nat
  | .lit (.string bytes) => bytes.length + 1
  | .lit _ => 1
  | .nil => 1
  | .ptr d => uptoBulk d + 1
  | .slice elems spare => uptoBulkAll elems + uptoBulkAll spare + 1
  | .agg parts => uptoBulkAll parts + 1
  | .iface _ d => uptoBulk d + 1
  | .map entries => uptoBulkEntries entries + 1
  | .held _ => 1
def uptoBulkAll {H : Type} : List (DataW H) → Nat
  | [] => 0
  | d :: r => uptoBulk d + uptoBulkAll r
def uptoBulkEntries {H : Type} : List (Lit × DataW H) → Nat
  | [] => 0
  | x :: r => uptoBulkEntry x + uptoBulkEntries r
def uptoBulkEntry {H : Type} : Lit × DataW H → Nat
  | (.string bytes, d) => bytes.length + uptoBulk d + 1
  | (_, d) => uptoBulk d + 1
 end
def uptoSmall : (H : Type) → List (DataW H) → Bool := fun _ ds => decide (uptoBulkAll ds ≤ 1048576)
def OpenSpec.upto (s : _root_.Go.ChangeSpec) : _root_.Go.OpenSpec := { _root_.Go.OpenSpec.ofChange s with cond := some uptoSmall }

/-- 'adjointlaw1.ViewPlaces', WHERE WHAT IT READS IS OF BULK AT MOST 1048576: true; the input reads as it did. -/
def viewPlacesUptoRow : OpenClaim := { program := "ytkbmnefjnfihbaa", sum := "310531520521e43f94d81cc8d7ed5a8324ef2f0a16bb899549fe2348b394d482", func := "adjoint/adjointlaw1.ViewPlaces", spec := "viewPlaces", unfollowed := true, recurses := true, apart := false, narrowed := true }
def ViewPlacesUptoSaid : Prop := viewPlacesUptoRow.holds Try.pinned (OpenSpec.upto viewPlacesSpec)

/-- 'adjointlaw1.ViewBack', WHERE WHAT IT READS IS OF BULK AT MOST 1048576: true; the input reads as it did. -/
def viewBackUptoRow : OpenClaim := { program := "ytkbmnefjnfihbaa", sum := "310531520521e43f94d81cc8d7ed5a8324ef2f0a16bb899549fe2348b394d482", func := "adjoint/adjointlaw1.ViewBack", spec := "viewBack", unfollowed := true, recurses := true, apart := false, narrowed := true }
def ViewBackUptoSaid : Prop := viewBackUptoRow.holds Try.pinned (OpenSpec.upto viewBackSpec)

/-- 'adjointlaw1.ViewReads', WHERE WHAT IT READS IS OF BULK AT MOST 1048576: true; the input reads as it did. -/
def viewReadsUptoRow : OpenClaim := { program := "ytkbmnefjnfihbaa", sum := "310531520521e43f94d81cc8d7ed5a8324ef2f0a16bb899549fe2348b394d482", func := "adjoint/adjointlaw1.ViewReads", spec := "viewReads", unfollowed := true, recurses := true, apart := false, narrowed := true }
def ViewReadsUptoSaid : Prop := viewReadsUptoRow.holds Try.pinned (OpenSpec.upto viewReadsSpec)

/-- 'adjointlaw1.ViewTurns', WHERE WHAT IT READS IS OF BULK AT MOST 1048576: true; the input reads as it did. -/
def viewTurnsUptoRow : OpenClaim := { program := "ytkbmnefjnfihbaa", sum := "310531520521e43f94d81cc8d7ed5a8324ef2f0a16bb899549fe2348b394d482", func := "adjoint/adjointlaw1.ViewTurns", spec := "viewTurns", unfollowed := true, recurses := true, apart := false, narrowed := true }
def ViewTurnsUptoSaid : Prop := viewTurnsUptoRow.holds Try.pinned (OpenSpec.upto viewTurnsSpec)

/-- 'adjointlaw1.ViewCuts', WHERE WHAT IT READS IS OF BULK AT MOST 1048576: true; the input reads as it did. -/
def viewCutsUptoRow : OpenClaim := { program := "ytkbmnefjnfihbaa", sum := "310531520521e43f94d81cc8d7ed5a8324ef2f0a16bb899549fe2348b394d482", func := "adjoint/adjointlaw1.ViewCuts", spec := "viewCuts", unfollowed := true, recurses := true, apart := false, narrowed := true }
def ViewCutsUptoSaid : Prop := viewCutsUptoRow.holds Try.pinned (OpenSpec.upto viewCutsSpec)

/-- 'adjointlaw1.ViewReforms', WHERE WHAT IT READS IS OF BULK AT MOST 1048576: true; the input reads as it did. -/
def viewReformsUptoRow : OpenClaim := { program := "ytkbmnefjnfihbaa", sum := "310531520521e43f94d81cc8d7ed5a8324ef2f0a16bb899549fe2348b394d482", func := "adjoint/adjointlaw1.ViewReforms", spec := "viewReforms", unfollowed := true, recurses := true, apart := false, narrowed := true }
def ViewReformsUptoSaid : Prop := viewReformsUptoRow.holds Try.pinned (OpenSpec.upto viewReformsSpec)

/-- 'adjointlaw1.ViewAgain', WHERE WHAT IT READS IS OF BULK AT MOST 1048576: true; the input reads as it did. -/
def viewAgainUptoRow : OpenClaim := { program := "ytkbmnefjnfihbaa", sum := "310531520521e43f94d81cc8d7ed5a8324ef2f0a16bb899549fe2348b394d482", func := "adjoint/adjointlaw1.ViewAgain", spec := "viewAgain", unfollowed := true, recurses := true, apart := false, narrowed := true }
def ViewAgainUptoSaid : Prop := viewAgainUptoRow.holds Try.pinned (OpenSpec.upto viewAgainSpec)

/-- 'adjointlaw1.ViewThrough', WHERE WHAT IT READS IS OF BULK AT MOST 1048576: true; the input reads as it did. -/
def viewThroughUptoRow : OpenClaim := { program := "ytkbmnefjnfihbaa", sum := "310531520521e43f94d81cc8d7ed5a8324ef2f0a16bb899549fe2348b394d482", func := "adjoint/adjointlaw1.ViewThrough", spec := "viewThrough", unfollowed := true, recurses := true, apart := false, narrowed := true }
def ViewThroughUptoSaid : Prop := viewThroughUptoRow.holds Try.pinned (OpenSpec.upto viewThroughSpec)

end Rows
end Go.Proofs.Ytkbmnefjnfihbaa
