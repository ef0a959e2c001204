/-
  No cell of these rows narrows 'for every input' (looked for: loops, veiled, ifaces, maps, wideKeys, modest, calm, conditions, laid).
  DERIVED. THE GIVEN ROWS OF THIS SEAT. 6 by the template 'for every input the law returns true; each argument reads behind the call as it read before'; 0 by the template 'total and deterministic' (their statements: YtkopkicdmbnpgaaTotals.lean).
  GIVEN WITH THE SEED: the statements are not yours to turn. If you find one false, say at which input.
  Laid BY PROGRAM, IN A SANDBOX (cutbox-rows.mjs): the forced cells as the released guide's own fill.sh prints them over the translation 9168819eb119d634… (all of the seat's roots in one cut). By AI agents, Wed Nov 11 2026. No macro, syntax, notation, axiom, sorry.
-/
import Derived.Test.YtkopkicdmbnpgaaChecked
import GoSem.Claim
import GoSem.ClaimJoined
import GoSem.ClaimMapViews
import Derived.JoinedTies
import Derived.KernelRfl
namespace Go.Proofs.Ytkopkicdmbnpgaa
/- THE CELL 'sum', in the pinned program and in every row, IS THE sha256 OF THE DUMP (.gsa) THAT YtkopkicdmbnpgaaProg.lean LOADS. Nothing in Lean hashes anything: it is a label: what it is worth is what the hold of that sum in a sandbox is worth. -/
noncomputable def Try.pinned : Pinned := { name := "ytkopkicdmbnpgaa", sum := "9168819eb119d63416fa0e1425269d7dd056e6ef4258608bd6a3ccb357f910d7", checked := Try.checked }
namespace Rows
def none {H : Type} : Left H := { results := [], args := [] }

/-- 'adjointlaw12.RoomClimbs': WHATEVER THE INPUT: true; the input reads as it did. -/
def roomClimbsSpec : ChangeSpec := { name := "roomClimbs", fn := fun _ => fun
  | [d1, d2, d3] => { results := [.lit (.bool true)], args := [d1, d2, d3] }
  | _ => none }
def roomClimbsRow : OpenClaim := { program := "ytkopkicdmbnpgaa", sum := "9168819eb119d63416fa0e1425269d7dd056e6ef4258608bd6a3ccb357f910d7", func := "adjoint/adjointlaw12.RoomClimbs", spec := "roomClimbs", unfollowed := true, recurses := true, apart := false }
def RoomClimbsSaid : Prop := roomClimbsRow.holds Try.pinned (OpenSpec.ofChange roomClimbsSpec)

/-- ITS FALSE NEIGHBOUR: 'it returns false'. Refute it at one input. -/
def roomClimbsWrong : ChangeSpec := { name := "roomClimbs", fn := fun _ => fun
  | [d1, d2, d3] => { results := [.lit (.bool false)], args := [d1, d2, d3] }
  | _ => none }
def RoomClimbsWrongFalsely : Prop := roomClimbsRow.holds Try.pinned (OpenSpec.ofChange roomClimbsWrong)

/-- 'adjointlaw12.RoomLives': WHATEVER THE INPUT: true; the input reads as it did. -/
def roomLivesSpec : ChangeSpec := { name := "roomLives", fn := fun _ => fun
  | [d] => { results := [.lit (.bool true)], args := [d] }
  | _ => none }
def roomLivesRow : OpenClaim := { program := "ytkopkicdmbnpgaa", sum := "9168819eb119d63416fa0e1425269d7dd056e6ef4258608bd6a3ccb357f910d7", func := "adjoint/adjointlaw12.RoomLives", spec := "roomLives", unfollowed := true, recurses := true, apart := false }
def RoomLivesSaid : Prop := roomLivesRow.holds Try.pinned (OpenSpec.ofChange roomLivesSpec)

/-- ITS FALSE NEIGHBOUR: 'it returns false'. Refute it at one input. -/
def roomLivesWrong : ChangeSpec := { name := "roomLives", fn := fun _ => fun
  | [d] => { results := [.lit (.bool false)], args := [d] }
  | _ => none }
def RoomLivesWrongFalsely : Prop := roomLivesRow.holds Try.pinned (OpenSpec.ofChange roomLivesWrong)

/-- 'adjointlaw12.RoomLeast': WHATEVER THE INPUT: true; the input reads as it did. -/
def roomLeastSpec : ChangeSpec := { name := "roomLeast", fn := fun _ => fun
  | [d1, d2, d3] => { results := [.lit (.bool true)], args := [d1, d2, d3] }
  | _ => none }
def roomLeastRow : OpenClaim := { program := "ytkopkicdmbnpgaa", sum := "9168819eb119d63416fa0e1425269d7dd056e6ef4258608bd6a3ccb357f910d7", func := "adjoint/adjointlaw12.RoomLeast", spec := "roomLeast", unfollowed := true, recurses := true, apart := false }
def RoomLeastSaid : Prop := roomLeastRow.holds Try.pinned (OpenSpec.ofChange roomLeastSpec)

/-- ITS FALSE NEIGHBOUR: 'it returns false'. Refute it at one input. -/
def roomLeastWrong : ChangeSpec := { name := "roomLeast", fn := fun _ => fun
  | [d1, d2, d3] => { results := [.lit (.bool false)], args := [d1, d2, d3] }
  | _ => none }
def RoomLeastWrongFalsely : Prop := roomLeastRow.holds Try.pinned (OpenSpec.ofChange roomLeastWrong)

/-- 'adjointlaw12.RoomLays': WHATEVER THE INPUT: true; the input reads as it did. -/
def roomLaysSpec : ChangeSpec := { name := "roomLays", fn := fun _ => fun
  | [d] => { results := [.lit (.bool true)], args := [d] }
  | _ => none }
def roomLaysRow : OpenClaim := { program := "ytkopkicdmbnpgaa", sum := "9168819eb119d63416fa0e1425269d7dd056e6ef4258608bd6a3ccb357f910d7", func := "adjoint/adjointlaw12.RoomLays", spec := "roomLays", inPlace := ["slices.overlaps[adjoint/room.laid]"], unfollowed := true, recurses := true, apart := false }
def RoomLaysSaid : Prop := roomLaysRow.holds Try.pinned (OpenSpec.ofChange roomLaysSpec)

/-- ITS FALSE NEIGHBOUR: 'it returns false'. Refute it at one input. -/
def roomLaysWrong : ChangeSpec := { name := "roomLays", fn := fun _ => fun
  | [d] => { results := [.lit (.bool false)], args := [d] }
  | _ => none }
def RoomLaysWrongFalsely : Prop := roomLaysRow.holds Try.pinned (OpenSpec.ofChange roomLaysWrong)

/-- 'adjointlaw12.RoomApart': WHATEVER THE INPUT: true; the input reads as it did. -/
def roomApartSpec : ChangeSpec := { name := "roomApart", fn := fun _ => fun
  | [d] => { results := [.lit (.bool true)], args := [d] }
  | _ => none }
def roomApartRow : OpenClaim := { program := "ytkopkicdmbnpgaa", sum := "9168819eb119d63416fa0e1425269d7dd056e6ef4258608bd6a3ccb357f910d7", func := "adjoint/adjointlaw12.RoomApart", spec := "roomApart", inPlace := ["slices.overlaps[adjoint/room.laid]"], unfollowed := true, recurses := true, apart := false }
def RoomApartSaid : Prop := roomApartRow.holds Try.pinned (OpenSpec.ofChange roomApartSpec)

/-- ITS FALSE NEIGHBOUR: 'it returns false'. Refute it at one input. -/
def roomApartWrong : ChangeSpec := { name := "roomApart", fn := fun _ => fun
  | [d] => { results := [.lit (.bool false)], args := [d] }
  | _ => none }
def RoomApartWrongFalsely : Prop := roomApartRow.holds Try.pinned (OpenSpec.ofChange roomApartWrong)

/-- 'adjointlaw12.RoomTight': WHATEVER THE INPUT: true; the input reads as it did. -/
def roomTightSpec : ChangeSpec := { name := "roomTight", fn := fun _ => fun
  | [d1, d2] => { results := [.lit (.bool true)], args := [d1, d2] }
  | _ => none }
def roomTightRow : OpenClaim := { program := "ytkopkicdmbnpgaa", sum := "9168819eb119d63416fa0e1425269d7dd056e6ef4258608bd6a3ccb357f910d7", func := "adjoint/adjointlaw12.RoomTight", spec := "roomTight", inPlace := ["slices.overlaps[adjoint/room.laid]"], unfollowed := true, recurses := true, apart := false }
def RoomTightSaid : Prop := roomTightRow.holds Try.pinned (OpenSpec.ofChange roomTightSpec)

/-- ITS FALSE NEIGHBOUR: 'it returns false'. Refute it at one input. -/
def roomTightWrong : ChangeSpec := { name := "roomTight", fn := fun _ => fun
  | [d1, d2] => { results := [.lit (.bool false)], args := [d1, d2] }
  | _ => none }
def RoomTightWrongFalsely : Prop := roomTightRow.holds Try.pinned (OpenSpec.ofChange roomTightWrong)

/- THE SECOND FORM. 'bulk': how many values and letters a reading holds, each counted each time it is reached (what is shared counts as often as it is met; a slice's spare places count too). A statement '..UptoSaid' is the law's where the arguments, and the package variables that the reading takes, are together of bulk at most 1048576: NARROWER than '..Said'. Prove '..Said' where nothing that the law and all that it calls make is longer than what came in: it says more and counts as full. Else prove '..UptoSaid'. A law counts once. -/
mutual
def uptoBulk {H : Type} : DataW H → Nat
  | .lit (.string bytes) => bytes.length + 1
  | .lit _ => 1
  | .nil => 1
  | .ptr d => uptoBulk d + 1
  | .slice elems spare => uptoBulkAll elems + uptoBulkAll spare + 1
  | .agg parts => uptoBulkAll parts + 1
  | .iface _ d => uptoBulk d + 1
  | .map entries => uptoBulkEntries entries + 1
  | .held _ => 1
def uptoBulkAll {H : Type} : List (DataW H) → Nat
  | [] => 0
  | d :: r => uptoBulk d + uptoBulkAll r
def uptoBulkEntries {H : Type} : List (Lit × DataW H) → Nat
  | [] => 0
  | x :: r => uptoBulkEntry x + uptoBulkEntries r
def uptoBulkEntry {H : Type} : Lit × DataW H → Nat
  | (.string bytes, d) => bytes.length + uptoBulk d + 1
  | (_, d) => uptoBulk d + 1
 end
def uptoSmall : (H : Type) → List (DataW H) → Bool := fun _ ds => decide (uptoBulkAll ds ≤ 1048576)
def OpenSpec.upto (s : _root_.Go.ChangeSpec) : _root_.Go.OpenSpec := { _root_.Go.OpenSpec.ofChange s with cond := some uptoSmall }

/-- 'adjointlaw12.RoomClimbs', WHERE WHAT IT READS IS OF BULK AT MOST 1048576: true; the input reads as it did. -/
def roomClimbsUptoRow : OpenClaim := { program := "ytkopkicdmbnpgaa", sum := "9168819eb119d63416fa0e1425269d7dd056e6ef4258608bd6a3ccb357f910d7", func := "adjoint/adjointlaw12.RoomClimbs", spec := "roomClimbs", unfollowed := true, recurses := true, apart := false, narrowed := true }
def RoomClimbsUptoSaid : Prop := roomClimbsUptoRow.holds Try.pinned (OpenSpec.upto roomClimbsSpec)

/-- 'adjointlaw12.RoomLives', WHERE WHAT IT READS IS OF BULK AT MOST 1048576: true; the input reads as it did. -/
def roomLivesUptoRow : OpenClaim := { program := "ytkopkicdmbnpgaa", sum := "9168819eb119d63416fa0e1425269d7dd056e6ef4258608bd6a3ccb357f910d7", func := "adjoint/adjointlaw12.RoomLives", spec := "roomLives", unfollowed := true, recurses := true, apart := false, narrowed := true }
def RoomLivesUptoSaid : Prop := roomLivesUptoRow.holds Try.pinned (OpenSpec.upto roomLivesSpec)

/-- 'adjointlaw12.RoomLeast', WHERE WHAT IT READS IS OF BULK AT MOST 1048576: true; the input reads as it did. -/
def roomLeastUptoRow : OpenClaim := { program := "ytkopkicdmbnpgaa", sum := "9168819eb119d63416fa0e1425269d7dd056e6ef4258608bd6a3ccb357f910d7", func := "adjoint/adjointlaw12.RoomLeast", spec := "roomLeast", unfollowed := true, recurses := true, apart := false, narrowed := true }
def RoomLeastUptoSaid : Prop := roomLeastUptoRow.holds Try.pinned (OpenSpec.upto roomLeastSpec)

/-- 'adjointlaw12.RoomLays', WHERE WHAT IT READS IS OF BULK AT MOST 1048576: true; the input reads as it did. -/
def roomLaysUptoRow : OpenClaim := { program := "ytkopkicdmbnpgaa", sum := "9168819eb119d63416fa0e1425269d7dd056e6ef4258608bd6a3ccb357f910d7", func := "adjoint/adjointlaw12.RoomLays", spec := "roomLays", inPlace := ["slices.overlaps[adjoint/room.laid]"], unfollowed := true, recurses := true, apart := false, narrowed := true }
def RoomLaysUptoSaid : Prop := roomLaysUptoRow.holds Try.pinned (OpenSpec.upto roomLaysSpec)

/-- 'adjointlaw12.RoomApart', WHERE WHAT IT READS IS OF BULK AT MOST 1048576: true; the input reads as it did. -/
def roomApartUptoRow : OpenClaim := { program := "ytkopkicdmbnpgaa", sum := "9168819eb119d63416fa0e1425269d7dd056e6ef4258608bd6a3ccb357f910d7", func := "adjoint/adjointlaw12.RoomApart", spec := "roomApart", inPlace := ["slices.overlaps[adjoint/room.laid]"], unfollowed := true, recurses := true, apart := false, narrowed := true }
def RoomApartUptoSaid : Prop := roomApartUptoRow.holds Try.pinned (OpenSpec.upto roomApartSpec)

/-- 'adjointlaw12.RoomTight', WHERE WHAT IT READS IS OF BULK AT MOST 1048576: true; the input reads as it did. -/
def roomTightUptoRow : OpenClaim := { program := "ytkopkicdmbnpgaa", sum := "9168819eb119d63416fa0e1425269d7dd056e6ef4258608bd6a3ccb357f910d7", func := "adjoint/adjointlaw12.RoomTight", spec := "roomTight", inPlace := ["slices.overlaps[adjoint/room.laid]"], unfollowed := true, recurses := true, apart := false, narrowed := true }
def RoomTightUptoSaid : Prop := roomTightUptoRow.holds Try.pinned (OpenSpec.upto roomTightSpec)

end Rows
end Go.Proofs.Ytkopkicdmbnpgaa
