/-
  DERIVED. GIVEN WITH THE SEED: THE CARDS: each row of YtcdehndodgefnaaDoorRows.lean that lists a variable, with what it lists TIED to the program's text (the seventh form; the later family's looks); each row that meets fmt, with fmt's text TOLD by the authors' own Lean function (tested against real Go, not proved from fmt's source: count such statements apart). THE CARD IS WHAT COUNTS. Prove the row's statement (the work); the ties are given (YtcdehndodgefnaaDoorTie.lean); close each card by the builder's one call (the guide's Derived/Test/ToyasCard.lean, 'card_holds'). Laid BY PROGRAM, IN A SANDBOX (cutbox-door.mjs). By AI agents, Wed Nov 11 2026. No macro, syntax, notation, axiom, sorry.
-/
import Derived.Test.YtcdehndodgefnaaDoorRows
import GoSem.ClaimSeven
namespace Go.Proofs.YtcdehndodgefnaaDoor
namespace Rows

/-- THE TIED CARD OF 'abacistlaw04.CodecForms'. -/
def codecFormsCard : Claim7 := { stood := { row := codecFormsRow, standIns := [], harness := (true, "b952f48bf6189b970777926cde905d8a7379de2af9cafb8a7c6ed6f41f5c0520"), looks := false }, kinds := [], alts := [], laidByText := true, laidKinds := [.data, .data, .data, .data, .pinned], laidTests := true, laidLooks := .later }
def CodecFormsCardSaid : Prop := Claim7.holds Tryd.pinned (.plain (OpenSpec.ofChange codecFormsSpec)) codecFormsCard

/-- THE TIED CARD OF 'abacistlaw38.GenLines'. -/
def genLinesCard : Claim7 := { stood := { row := genLinesRow, standIns := [], harness := (true, "b952f48bf6189b970777926cde905d8a7379de2af9cafb8a7c6ed6f41f5c0520"), looks := false }, kinds := [], alts := [], laidByText := true, laidKinds := [.data, .data, .data, .data, .data, .pinned], laidTests := true, laidLooks := .later }
def GenLinesCardSaid : Prop := Claim7.holds Tryd.pinned (.plain (OpenSpec.ofChange genLinesSpec)) genLinesCard

/-- THE SECOND FORM's CARD OF 'abacistlaw04.CodecForms'. -/
def codecFormsUptoCard : Claim7 := { stood := { row := codecFormsUptoRow, standIns := [], harness := (true, "b952f48bf6189b970777926cde905d8a7379de2af9cafb8a7c6ed6f41f5c0520"), looks := false }, kinds := [], alts := [], laidByText := true, laidKinds := [.data, .data, .data, .data, .pinned], laidTests := true, laidLooks := .later }
def CodecFormsUptoCardSaid : Prop := Claim7.holds Tryd.pinned (.plain (OpenSpec.upto codecFormsSpec)) codecFormsUptoCard

/-- THE SECOND FORM's CARD OF 'abacistlaw38.GenLines'. -/
def genLinesUptoCard : Claim7 := { stood := { row := genLinesUptoRow, standIns := [], harness := (true, "b952f48bf6189b970777926cde905d8a7379de2af9cafb8a7c6ed6f41f5c0520"), looks := false }, kinds := [], alts := [], laidByText := true, laidKinds := [.data, .data, .data, .data, .data, .pinned], laidTests := true, laidLooks := .later }
def GenLinesUptoCardSaid : Prop := Claim7.holds Tryd.pinned (.plain (OpenSpec.upto genLinesSpec)) genLinesUptoCard
end Rows
end Go.Proofs.YtcdehndodgefnaaDoor
