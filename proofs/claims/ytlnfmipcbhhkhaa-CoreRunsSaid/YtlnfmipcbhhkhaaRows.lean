/-
  No cell of these rows narrows 'for every input' (looked for: loops, veiled, ifaces, maps, wideKeys, modest, calm, conditions, laid).
  DERIVED. THE GIVEN ROWS OF THIS SEAT. 3 by the template 'for every input the law returns true; each argument reads behind the call as it read before'; 0 by the template 'total and deterministic' (their statements: YtlnfmipcbhhkhaaTotals.lean).
  GIVEN WITH THE SEED: the statements are not yours to turn. If you find one false, say at which input.
  Laid BY PROGRAM, IN A SANDBOX (cutbox-rows.mjs): the forced cells as the released guide's own fill.sh prints them over the translation 1bb568b7098ac880… (all of the seat's roots in one cut). By AI agents, Wed Nov 11 2026. No macro, syntax, notation, axiom, sorry.
-/
import Derived.Test.YtlnfmipcbhhkhaaChecked
import GoSem.Claim
import GoSem.ClaimJoined
import GoSem.ClaimMapViews
import Derived.JoinedTies
import Derived.KernelRfl
namespace Go.Proofs.Ytlnfmipcbhhkhaa
/- THE CELL 'sum', in the pinned program and in every row, IS THE sha256 OF THE DUMP (.gsa) THAT YtlnfmipcbhhkhaaProg.lean LOADS. Nothing in Lean hashes anything: it is a label: what it is worth is what the hold of that sum in a sandbox is worth. -/
noncomputable def Try.pinned : Pinned := { name := "ytlnfmipcbhhkhaa", sum := "1bb568b7098ac8800e28d60cdda4169a570091247b55cb0d9fe4af7bdaddc42f", checked := Try.checked }
namespace Rows
def none {H : Type} : Left H := { results := [], args := [] }

/-- 'adjointlaw13.CoreRaces': WHATEVER THE INPUT: true; the input reads as it did. -/
def coreRacesSpec : ChangeSpec := { name := "coreRaces", fn := fun _ => fun
  | [d] => { results := [.lit (.bool true)], args := [d] }
  | _ => none }
def coreRacesRow : OpenClaim := { program := "ytlnfmipcbhhkhaa", sum := "1bb568b7098ac8800e28d60cdda4169a570091247b55cb0d9fe4af7bdaddc42f", func := "adjoint/adjointlaw13.CoreRaces", spec := "coreRaces", unfollowed := true, recurses := true, apart := false }
def CoreRacesSaid : Prop := coreRacesRow.holds Try.pinned (OpenSpec.ofChange coreRacesSpec)

/-- ITS FALSE NEIGHBOUR: 'it returns false'. Refute it at one input. -/
def coreRacesWrong : ChangeSpec := { name := "coreRaces", fn := fun _ => fun
  | [d] => { results := [.lit (.bool false)], args := [d] }
  | _ => none }
def CoreRacesWrongFalsely : Prop := coreRacesRow.holds Try.pinned (OpenSpec.ofChange coreRacesWrong)

/-- 'adjointlaw13.CoreRuns': WHATEVER THE INPUT: true; the input reads as it did. -/
def coreRunsSpec : ChangeSpec := { name := "coreRuns", fn := fun _ => fun
  | [d1, d2, d3] => { results := [.lit (.bool true)], args := [d1, d2, d3] }
  | _ => none }
def coreRunsRow : OpenClaim := { program := "ytlnfmipcbhhkhaa", sum := "1bb568b7098ac8800e28d60cdda4169a570091247b55cb0d9fe4af7bdaddc42f", func := "adjoint/adjointlaw13.CoreRuns", spec := "coreRuns", unfollowed := true, recurses := true, apart := false }
def CoreRunsSaid : Prop := coreRunsRow.holds Try.pinned (OpenSpec.ofChange coreRunsSpec)

/-- ITS FALSE NEIGHBOUR: 'it returns false'. Refute it at one input. -/
def coreRunsWrong : ChangeSpec := { name := "coreRuns", fn := fun _ => fun
  | [d1, d2, d3] => { results := [.lit (.bool false)], args := [d1, d2, d3] }
  | _ => none }
def CoreRunsWrongFalsely : Prop := coreRunsRow.holds Try.pinned (OpenSpec.ofChange coreRunsWrong)

/-- 'adjointlaw13.CoreCalm': WHATEVER THE INPUT: true; the input reads as it did. -/
def coreCalmSpec : ChangeSpec := { name := "coreCalm", fn := fun _ => fun
  | [d1, d2, d3, d4] => { results := [.lit (.bool true)], args := [d1, d2, d3, d4] }
  | _ => none }
def coreCalmRow : OpenClaim := { program := "ytlnfmipcbhhkhaa", sum := "1bb568b7098ac8800e28d60cdda4169a570091247b55cb0d9fe4af7bdaddc42f", func := "adjoint/adjointlaw13.CoreCalm", spec := "coreCalm", unfollowed := true, recurses := true, apart := false }
def CoreCalmSaid : Prop := coreCalmRow.holds Try.pinned (OpenSpec.ofChange coreCalmSpec)

/-- ITS FALSE NEIGHBOUR: 'it returns false'. Refute it at one input. -/
def coreCalmWrong : ChangeSpec := { name := "coreCalm", fn := fun _ => fun
  | [d1, d2, d3, d4] => { results := [.lit (.bool false)], args := [d1, d2, d3, d4] }
  | _ => none }
def CoreCalmWrongFalsely : Prop := coreCalmRow.holds Try.pinned (OpenSpec.ofChange coreCalmWrong)

/- THE SECOND FORM. 'bulk': how many values and letters a reading holds, each counted each time it is reached (what is shared counts as often as it is met; a slice's spare places count too). A statement '..UptoSaid' is the law's where the arguments, and the package variables that the reading takes, are together of bulk at most 1048576: NARROWER than '..Said'. Prove '..Said' where nothing that the law and all that it calls make is longer than what came in: it says more and counts as full. Else prove '..UptoSaid'. A law counts once. -/
mutual
def uptoBulk {H : Type} : DataW H → Nat
  | .lit (.string bytes) => bytes.length + 1
  | .lit _ => 1
  | .nil => 1
  | .ptr d => uptoBulk d + 1
  | .slice elems spare => uptoBulkAll elems + uptoBulkAll spare + 1
  | .agg parts => uptoBulkAll parts + 1
  | .iface _ d => uptoBulk d + 1
  | .map entries => uptoBulkEntries entries + 1
  | .held _ => 1
def uptoBulkAll {H : Type} : List (DataW H) → Nat
  | [] => 0
  | d :: r => uptoBulk d + uptoBulkAll r
def uptoBulkEntries {H : Type} : List (Lit × DataW H) → Nat
  | [] => 0
  | x :: r => uptoBulkEntry x + uptoBulkEntries r
def uptoBulkEntry {H : Type} : Lit × DataW H → Nat
  | (.string bytes, d) => bytes.length + uptoBulk d + 1
  | (_, d) => uptoBulk d + 1
 end
def uptoSmall : (H : Type) → List (DataW H) → Bool := fun _ ds => decide (uptoBulkAll ds ≤ 1048576)
def OpenSpec.upto (s : _root_.Go.ChangeSpec) : _root_.Go.OpenSpec := { _root_.Go.OpenSpec.ofChange s with cond := some uptoSmall }

/-- 'adjointlaw13.CoreRaces', WHERE WHAT IT READS IS OF BULK AT MOST 1048576: true; the input reads as it did. -/
def coreRacesUptoRow : OpenClaim := { program := "ytlnfmipcbhhkhaa", sum := "1bb568b7098ac8800e28d60cdda4169a570091247b55cb0d9fe4af7bdaddc42f", func := "adjoint/adjointlaw13.CoreRaces", spec := "coreRaces", unfollowed := true, recurses := true, apart := false, narrowed := true }
def CoreRacesUptoSaid : Prop := coreRacesUptoRow.holds Try.pinned (OpenSpec.upto coreRacesSpec)

/-- 'adjointlaw13.CoreRuns', WHERE WHAT IT READS IS OF BULK AT MOST 1048576: true; the input reads as it did. -/
def coreRunsUptoRow : OpenClaim := { program := "ytlnfmipcbhhkhaa", sum := "1bb568b7098ac8800e28d60cdda4169a570091247b55cb0d9fe4af7bdaddc42f", func := "adjoint/adjointlaw13.CoreRuns", spec := "coreRuns", unfollowed := true, recurses := true, apart := false, narrowed := true }
def CoreRunsUptoSaid : Prop := coreRunsUptoRow.holds Try.pinned (OpenSpec.upto coreRunsSpec)

/-- 'adjointlaw13.CoreCalm', WHERE WHAT IT READS IS OF BULK AT MOST 1048576: true; the input reads as it did. -/
def coreCalmUptoRow : OpenClaim := { program := "ytlnfmipcbhhkhaa", sum := "1bb568b7098ac8800e28d60cdda4169a570091247b55cb0d9fe4af7bdaddc42f", func := "adjoint/adjointlaw13.CoreCalm", spec := "coreCalm", unfollowed := true, recurses := true, apart := false, narrowed := true }
def CoreCalmUptoSaid : Prop := coreCalmUptoRow.holds Try.pinned (OpenSpec.upto coreCalmSpec)

end Rows
end Go.Proofs.Ytlnfmipcbhhkhaa
