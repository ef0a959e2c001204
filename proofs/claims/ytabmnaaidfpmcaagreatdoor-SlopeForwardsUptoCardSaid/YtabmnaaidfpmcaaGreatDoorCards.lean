/-
  DERIVED. GIVEN WITH THE SEED: THE CARDS: each row of YtabmnaaidfpmcaaGreatDoorRows.lean that lists a variable, with what it lists TIED to the program's text (the seventh form; the later family's looks); each row that meets fmt, with fmt's text TOLD by the authors' own Lean function (tested against real Go, not proved from fmt's source: count such statements apart). THE CARD IS WHAT COUNTS. Prove the row's statement (the work); the ties are given (YtabmnaaidfpmcaaGreatDoorTie.lean); close each card by the builder's one call (the guide's Derived/Test/ToyasCard.lean, 'card_holds'). Laid BY PROGRAM, IN A SANDBOX (cutbox-door.mjs). By AI agents, Wed Nov 11 2026. No macro, syntax, notation, axiom, sorry.
-/
import Derived.Test.YtabmnaaidfpmcaaGreatDoorRows
import GoSem.ClaimSeven
namespace Go.Proofs.YtabmnaaidfpmcaaGreatDoor
namespace Rows

/-- THE TIED CARD OF 'adjointlaw7.SlopeForwards'. -/
def slopeForwardsCard : Claim7 := { stood := { row := slopeForwardsRow, standIns := [], harness := (true, "75e866f6149b3a53eae0731f5d0d069ff124efa14991904caa8faef00462591b"), looks := false }, kinds := [], alts := [], laidByText := true, laidKinds := [.data, .data, .data], laidTests := true, laidLooks := .later }
def SlopeForwardsCardSaid : Prop := Claim7.holds Tryz.pinned (.plain (OpenSpec.ofChange slopeForwardsSpec)) slopeForwardsCard

/-- THE TIED CARD OF 'adjointlaw7.SlopeReverses'. -/
def slopeReversesCard : Claim7 := { stood := { row := slopeReversesRow, standIns := [], harness := (true, "75e866f6149b3a53eae0731f5d0d069ff124efa14991904caa8faef00462591b"), looks := false }, kinds := [], alts := [], laidByText := true, laidKinds := [.data, .data, .data], laidTests := true, laidLooks := .later }
def SlopeReversesCardSaid : Prop := Claim7.holds Tryz.pinned (.plain (OpenSpec.ofChange slopeReversesSpec)) slopeReversesCard

/-- THE TIED CARD OF 'adjointlaw7.SlopeCheap'. -/
def slopeCheapCard : Claim7 := { stood := { row := slopeCheapRow, standIns := [], harness := (true, "75e866f6149b3a53eae0731f5d0d069ff124efa14991904caa8faef00462591b"), looks := false }, kinds := [], alts := [], laidByText := true, laidKinds := [.data, .data, .data], laidTests := true, laidLooks := .later }
def SlopeCheapCardSaid : Prop := Claim7.holds Tryz.pinned (.plain (OpenSpec.ofChange slopeCheapSpec)) slopeCheapCard

/-- THE SECOND FORM's CARD OF 'adjointlaw7.SlopeForwards'. -/
def slopeForwardsUptoCard : Claim7 := { stood := { row := slopeForwardsUptoRow, standIns := [], harness := (true, "75e866f6149b3a53eae0731f5d0d069ff124efa14991904caa8faef00462591b"), looks := false }, kinds := [], alts := [], laidByText := true, laidKinds := [.data, .data, .data], laidTests := true, laidLooks := .later }
def SlopeForwardsUptoCardSaid : Prop := Claim7.holds Tryz.pinned (.plain (OpenSpec.upto slopeForwardsSpec)) slopeForwardsUptoCard

/-- THE SECOND FORM's CARD OF 'adjointlaw7.SlopeReverses'. -/
def slopeReversesUptoCard : Claim7 := { stood := { row := slopeReversesUptoRow, standIns := [], harness := (true, "75e866f6149b3a53eae0731f5d0d069ff124efa14991904caa8faef00462591b"), looks := false }, kinds := [], alts := [], laidByText := true, laidKinds := [.data, .data, .data], laidTests := true, laidLooks := .later }
def SlopeReversesUptoCardSaid : Prop := Claim7.holds Tryz.pinned (.plain (OpenSpec.upto slopeReversesSpec)) slopeReversesUptoCard

/-- THE SECOND FORM's CARD OF 'adjointlaw7.SlopeCheap'. -/
def slopeCheapUptoCard : Claim7 := { stood := { row := slopeCheapUptoRow, standIns := [], harness := (true, "75e866f6149b3a53eae0731f5d0d069ff124efa14991904caa8faef00462591b"), looks := false }, kinds := [], alts := [], laidByText := true, laidKinds := [.data, .data, .data], laidTests := true, laidLooks := .later }
def SlopeCheapUptoCardSaid : Prop := Claim7.holds Tryz.pinned (.plain (OpenSpec.upto slopeCheapSpec)) slopeCheapUptoCard
end Rows
end Go.Proofs.YtabmnaaidfpmcaaGreatDoor
