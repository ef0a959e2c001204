/-
  No cell of these rows narrows 'for every input' (looked for: loops, veiled, ifaces, maps, wideKeys, modest, calm, conditions, laid).
  DERIVED. THE GIVEN ROWS OF THIS SEAT. 6 by the template 'for every input the law returns true; each argument reads behind the call as it read before'; 0 by the template 'total and deterministic' (their statements: YtebekdnihncenaaTotals.lean).
  GIVEN WITH THE SEED: the statements are not yours to turn. If you find one false, say at which input.
  Laid BY PROGRAM, IN A SANDBOX (cutbox-rows.mjs): the forced cells as the released guide's own fill.sh prints them over the translation 03498ba230b43eae… (all of the seat's roots in one cut). By AI agents, Wed Nov 11 2026. No macro, syntax, notation, axiom, sorry.
-/
import Derived.Test.YtebekdnihncenaaChecked
import GoSem.Claim
import GoSem.ClaimJoined
import GoSem.ClaimMapViews
import Derived.JoinedTies
import Derived.KernelRfl
namespace Go.Proofs.Ytebekdnihncenaa
/- THE CELL 'sum', in the pinned program and in every row, IS THE sha256 OF THE DUMP (.gsa) THAT YtebekdnihncenaaProg.lean LOADS. Nothing in Lean hashes anything: it is a label: what it is worth is what the hold of that sum in a sandbox is worth. -/
noncomputable def Try.pinned : Pinned := { name := "ytebekdnihncenaa", sum := "03498ba230b43eaef2cc8547080b06e3fd864a11237df4fadd35b7522d8c8ea4", checked := Try.checked }
namespace Rows
def none {H : Type} : Left H := { results := [], args := [] }

/-- 'adjointlaw8.ReplayLeast': WHATEVER THE INPUT: true; the input reads as it did. -/
def replayLeastSpec : ChangeSpec := { name := "replayLeast", fn := fun _ => fun
  | [d1, d2] => { results := [.lit (.bool true)], args := [d1, d2] }
  | _ => none }
def replayLeastRow : OpenClaim := { program := "ytebekdnihncenaa", sum := "03498ba230b43eaef2cc8547080b06e3fd864a11237df4fadd35b7522d8c8ea4", func := "adjoint/adjointlaw8.ReplayLeast", spec := "replayLeast", apart := false }
def ReplayLeastSaid : Prop := replayLeastRow.holds Try.pinned (OpenSpec.ofChange replayLeastSpec)

/-- ITS FALSE NEIGHBOUR: 'it returns false'. Refute it at one input. -/
def replayLeastWrong : ChangeSpec := { name := "replayLeast", fn := fun _ => fun
  | [d1, d2] => { results := [.lit (.bool false)], args := [d1, d2] }
  | _ => none }
def ReplayLeastWrongFalsely : Prop := replayLeastRow.holds Try.pinned (OpenSpec.ofChange replayLeastWrong)

/-- 'adjointlaw8.ReplayBinomial': WHATEVER THE INPUT: true; the input reads as it did. -/
def replayBinomialSpec : ChangeSpec := { name := "replayBinomial", fn := fun _ => fun
  | [d1, d2] => { results := [.lit (.bool true)], args := [d1, d2] }
  | _ => none }
def replayBinomialRow : OpenClaim := { program := "ytebekdnihncenaa", sum := "03498ba230b43eaef2cc8547080b06e3fd864a11237df4fadd35b7522d8c8ea4", func := "adjoint/adjointlaw8.ReplayBinomial", spec := "replayBinomial", apart := false }
def ReplayBinomialSaid : Prop := replayBinomialRow.holds Try.pinned (OpenSpec.ofChange replayBinomialSpec)

/-- ITS FALSE NEIGHBOUR: 'it returns false'. Refute it at one input. -/
def replayBinomialWrong : ChangeSpec := { name := "replayBinomial", fn := fun _ => fun
  | [d1, d2] => { results := [.lit (.bool false)], args := [d1, d2] }
  | _ => none }
def ReplayBinomialWrongFalsely : Prop := replayBinomialRow.holds Try.pinned (OpenSpec.ofChange replayBinomialWrong)

/-- 'adjointlaw8.ReplayRuns': WHATEVER THE INPUT: true; the input reads as it did. -/
def replayRunsSpec : ChangeSpec := { name := "replayRuns", fn := fun _ => fun
  | [d1, d2, d3] => { results := [.lit (.bool true)], args := [d1, d2, d3] }
  | _ => none }
def replayRunsRow : OpenClaim := { program := "ytebekdnihncenaa", sum := "03498ba230b43eaef2cc8547080b06e3fd864a11237df4fadd35b7522d8c8ea4", func := "adjoint/adjointlaw8.ReplayRuns", spec := "replayRuns", unfollowed := true, recurses := true, apart := false }
def ReplayRunsSaid : Prop := replayRunsRow.holds Try.pinned (OpenSpec.ofChange replayRunsSpec)

/-- ITS FALSE NEIGHBOUR: 'it returns false'. Refute it at one input. -/
def replayRunsWrong : ChangeSpec := { name := "replayRuns", fn := fun _ => fun
  | [d1, d2, d3] => { results := [.lit (.bool false)], args := [d1, d2, d3] }
  | _ => none }
def ReplayRunsWrongFalsely : Prop := replayRunsRow.holds Try.pinned (OpenSpec.ofChange replayRunsWrong)

/-- 'adjointlaw8.ReplayPlays': WHATEVER THE INPUT: true; the input reads as it did. -/
def replayPlaysSpec : ChangeSpec := { name := "replayPlays", fn := fun _ => fun
  | [d1, d2, d3] => { results := [.lit (.bool true)], args := [d1, d2, d3] }
  | _ => none }
def replayPlaysRow : OpenClaim := { program := "ytebekdnihncenaa", sum := "03498ba230b43eaef2cc8547080b06e3fd864a11237df4fadd35b7522d8c8ea4", func := "adjoint/adjointlaw8.ReplayPlays", spec := "replayPlays", apart := false }
def ReplayPlaysSaid : Prop := replayPlaysRow.holds Try.pinned (OpenSpec.ofChange replayPlaysSpec)

/-- ITS FALSE NEIGHBOUR: 'it returns false'. Refute it at one input. -/
def replayPlaysWrong : ChangeSpec := { name := "replayPlays", fn := fun _ => fun
  | [d1, d2, d3] => { results := [.lit (.bool false)], args := [d1, d2, d3] }
  | _ => none }
def ReplayPlaysWrongFalsely : Prop := replayPlaysRow.holds Try.pinned (OpenSpec.ofChange replayPlaysWrong)

/-- 'adjointlaw8.ReplayNoLess': WHATEVER THE INPUT: true; the input reads as it did. -/
def replayNoLessSpec : ChangeSpec := { name := "replayNoLess", fn := fun _ => fun
  | [d1, d2, d3] => { results := [.lit (.bool true)], args := [d1, d2, d3] }
  | _ => none }
def replayNoLessRow : OpenClaim := { program := "ytebekdnihncenaa", sum := "03498ba230b43eaef2cc8547080b06e3fd864a11237df4fadd35b7522d8c8ea4", func := "adjoint/adjointlaw8.ReplayNoLess", spec := "replayNoLess", apart := false }
def ReplayNoLessSaid : Prop := replayNoLessRow.holds Try.pinned (OpenSpec.ofChange replayNoLessSpec)

/-- ITS FALSE NEIGHBOUR: 'it returns false'. Refute it at one input. -/
def replayNoLessWrong : ChangeSpec := { name := "replayNoLess", fn := fun _ => fun
  | [d1, d2, d3] => { results := [.lit (.bool false)], args := [d1, d2, d3] }
  | _ => none }
def ReplayNoLessWrongFalsely : Prop := replayNoLessRow.holds Try.pinned (OpenSpec.ofChange replayNoLessWrong)

/-- 'adjointlaw8.ReplayPlans': WHATEVER THE INPUT: true; the input reads as it did. -/
def replayPlansSpec : ChangeSpec := { name := "replayPlans", fn := fun _ => fun
  | [d1, d2] => { results := [.lit (.bool true)], args := [d1, d2] }
  | _ => none }
def replayPlansRow : OpenClaim := { program := "ytebekdnihncenaa", sum := "03498ba230b43eaef2cc8547080b06e3fd864a11237df4fadd35b7522d8c8ea4", func := "adjoint/adjointlaw8.ReplayPlans", spec := "replayPlans", unfollowed := true, recurses := true, apart := false }
def ReplayPlansSaid : Prop := replayPlansRow.holds Try.pinned (OpenSpec.ofChange replayPlansSpec)

/-- ITS FALSE NEIGHBOUR: 'it returns false'. Refute it at one input. -/
def replayPlansWrong : ChangeSpec := { name := "replayPlans", fn := fun _ => fun
  | [d1, d2] => { results := [.lit (.bool false)], args := [d1, d2] }
  | _ => none }
def ReplayPlansWrongFalsely : Prop := replayPlansRow.holds Try.pinned (OpenSpec.ofChange replayPlansWrong)

/- THE SECOND FORM. 'bulk': how many values and letters a reading holds, each counted each time it is reached (what is shared counts as often as it is met; a slice's spare places count too). A statement '..UptoSaid' is the law's where the arguments, and the package variables that the reading takes, are together of bulk at most 1048576: NARROWER than '..Said'. Prove '..Said' where nothing that the law and all that it calls make is longer than what came in: it says more and counts as full. Else prove '..UptoSaid'. A law counts once. -/
mutual
def uptoBulk {H : Type} : DataW H → Nat
  | .lit (.string bytes) => bytes.length + 1
  | .lit _ => 1
  | .nil => 1
  | .ptr d => uptoBulk d + 1
  | .slice elems spare => uptoBulkAll elems + uptoBulkAll spare + 1
  | .agg parts => uptoBulkAll parts + 1
  | .iface _ d => uptoBulk d + 1
  | .map entries => uptoBulkEntries entries + 1
  | .held _ => 1
def uptoBulkAll {H : Type} : List (DataW H) → Nat
  | [] => 0
  | d :: r => uptoBulk d + uptoBulkAll r
def uptoBulkEntries {H : Type} : List (Lit × DataW H) → Nat
  | [] => 0
  | x :: r => uptoBulkEntry x + uptoBulkEntries r
def uptoBulkEntry {H : Type} : Lit × DataW H → Nat
  | (.string bytes, d) => bytes.length + uptoBulk d + 1
  | (_, d) => uptoBulk d + 1
 end
def uptoSmall : (H : Type) → List (DataW H) → Bool := fun _ ds => decide (uptoBulkAll ds ≤ 1048576)
def OpenSpec.upto (s : _root_.Go.ChangeSpec) : _root_.Go.OpenSpec := { _root_.Go.OpenSpec.ofChange s with cond := some uptoSmall }

/-- 'adjointlaw8.ReplayLeast', WHERE WHAT IT READS IS OF BULK AT MOST 1048576: true; the input reads as it did. -/
def replayLeastUptoRow : OpenClaim := { program := "ytebekdnihncenaa", sum := "03498ba230b43eaef2cc8547080b06e3fd864a11237df4fadd35b7522d8c8ea4", func := "adjoint/adjointlaw8.ReplayLeast", spec := "replayLeast", apart := false, narrowed := true }
def ReplayLeastUptoSaid : Prop := replayLeastUptoRow.holds Try.pinned (OpenSpec.upto replayLeastSpec)

/-- 'adjointlaw8.ReplayBinomial', WHERE WHAT IT READS IS OF BULK AT MOST 1048576: true; the input reads as it did. -/
def replayBinomialUptoRow : OpenClaim := { program := "ytebekdnihncenaa", sum := "03498ba230b43eaef2cc8547080b06e3fd864a11237df4fadd35b7522d8c8ea4", func := "adjoint/adjointlaw8.ReplayBinomial", spec := "replayBinomial", apart := false, narrowed := true }
def ReplayBinomialUptoSaid : Prop := replayBinomialUptoRow.holds Try.pinned (OpenSpec.upto replayBinomialSpec)

/-- 'adjointlaw8.ReplayRuns', WHERE WHAT IT READS IS OF BULK AT MOST 1048576: true; the input reads as it did. -/
def replayRunsUptoRow : OpenClaim := { program := "ytebekdnihncenaa", sum := "03498ba230b43eaef2cc8547080b06e3fd864a11237df4fadd35b7522d8c8ea4", func := "adjoint/adjointlaw8.ReplayRuns", spec := "replayRuns", unfollowed := true, recurses := true, apart := false, narrowed := true }
def ReplayRunsUptoSaid : Prop := replayRunsUptoRow.holds Try.pinned (OpenSpec.upto replayRunsSpec)

/-- 'adjointlaw8.ReplayPlays', WHERE WHAT IT READS IS OF BULK AT MOST 1048576: true; the input reads as it did. -/
def replayPlaysUptoRow : OpenClaim := { program := "ytebekdnihncenaa", sum := "03498ba230b43eaef2cc8547080b06e3fd864a11237df4fadd35b7522d8c8ea4", func := "adjoint/adjointlaw8.ReplayPlays", spec := "replayPlays", apart := false, narrowed := true }
def ReplayPlaysUptoSaid : Prop := replayPlaysUptoRow.holds Try.pinned (OpenSpec.upto replayPlaysSpec)

/-- 'adjointlaw8.ReplayNoLess', WHERE WHAT IT READS IS OF BULK AT MOST 1048576: true; the input reads as it did. -/
def replayNoLessUptoRow : OpenClaim := { program := "ytebekdnihncenaa", sum := "03498ba230b43eaef2cc8547080b06e3fd864a11237df4fadd35b7522d8c8ea4", func := "adjoint/adjointlaw8.ReplayNoLess", spec := "replayNoLess", apart := false, narrowed := true }
def ReplayNoLessUptoSaid : Prop := replayNoLessUptoRow.holds Try.pinned (OpenSpec.upto replayNoLessSpec)

/-- 'adjointlaw8.ReplayPlans', WHERE WHAT IT READS IS OF BULK AT MOST 1048576: true; the input reads as it did. -/
def replayPlansUptoRow : OpenClaim := { program := "ytebekdnihncenaa", sum := "03498ba230b43eaef2cc8547080b06e3fd864a11237df4fadd35b7522d8c8ea4", func := "adjoint/adjointlaw8.ReplayPlans", spec := "replayPlans", unfollowed := true, recurses := true, apart := false, narrowed := true }
def ReplayPlansUptoSaid : Prop := replayPlansUptoRow.holds Try.pinned (OpenSpec.upto replayPlansSpec)

end Rows
end Go.Proofs.Ytebekdnihncenaa
