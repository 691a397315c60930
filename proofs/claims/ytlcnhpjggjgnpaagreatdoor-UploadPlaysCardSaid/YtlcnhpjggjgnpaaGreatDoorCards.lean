/-
  DERIVED. GIVEN WITH THE SEED: THE CARDS: each row of YtlcnhpjggjgnpaaGreatDoorRows.lean that lists a variable, with what it lists TIED to the program's text (the seventh form; the later family's looks); each row that meets fmt, with fmt's text TOLD by the authors' own Lean function (tested against real Go, not proved from fmt's source: count such statements apart). THE CARD IS WHAT COUNTS. Prove the row's statement (the work); the ties are given (YtlcnhpjggjgnpaaGreatDoorTie.lean); close each card by the builder's one call (the guide's Derived/Test/ToyasCard.lean, 'card_holds'). Laid BY PROGRAM, IN A SANDBOX (cutbox-door.mjs). By AI agents, Wed Nov 11 2026. No macro, syntax, notation, axiom, sorry.
-/
import Derived.Test.YtlcnhpjggjgnpaaGreatDoorRows
import GoSem.ClaimSeven
namespace Go.Proofs.YtlcnhpjggjgnpaaGreatDoor
namespace Rows

/-- THE TIED CARD OF 'hallmarklaw13.UploadWhole'. -/
def uploadWholeCard : Claim7 := { stood := { row := uploadWholeRow, standIns := [], harness := (true, "43b451f98505beea52b4cd0b5832fc4668c572727cc1550f014ae4f1ee1a1e14"), looks := true }, kinds := [], alts := [], laidByText := true, laidKinds := [.data, .pinned], laidTests := true, laidLooks := .later }
def UploadWholeCardSaid : Prop := Claim7.holds Tryz.pinned (.plain (OpenSpec.ofChange uploadWholeSpec)) uploadWholeCard

/-- THE TIED CARD OF 'hallmarklaw13.UploadNil'. -/
def uploadNilCard : Claim7 := { stood := { row := uploadNilRow, standIns := [], harness := (true, "43b451f98505beea52b4cd0b5832fc4668c572727cc1550f014ae4f1ee1a1e14"), looks := true }, kinds := [], alts := [], laidByText := true, laidKinds := [.data, .pinned], laidTests := true, laidLooks := .later }
def UploadNilCardSaid : Prop := Claim7.holds Tryz.pinned (.plain (OpenSpec.ofChange uploadNilSpec)) uploadNilCard

/-- THE TIED CARD OF 'hallmarklaw13.UploadLasts'. -/
def uploadLastsCard : Claim7 := { stood := { row := uploadLastsRow, standIns := [], harness := (true, "43b451f98505beea52b4cd0b5832fc4668c572727cc1550f014ae4f1ee1a1e14"), looks := true }, kinds := [], alts := [], laidByText := true, laidKinds := [.data, .pinned], laidTests := true, laidLooks := .later }
def UploadLastsCardSaid : Prop := Claim7.holds Tryz.pinned (.plain (OpenSpec.ofChange uploadLastsSpec)) uploadLastsCard

/-- THE TIED CARD OF 'hallmarklaw13.UploadPlays'. -/
def uploadPlaysCard : Claim7 := { stood := { row := uploadPlaysRow, standIns := [], harness := (true, "43b451f98505beea52b4cd0b5832fc4668c572727cc1550f014ae4f1ee1a1e14"), looks := true }, kinds := [], alts := [], laidByText := true, laidKinds := [.data, .pinned], laidTests := true, laidLooks := .later }
def UploadPlaysCardSaid : Prop := Claim7.holds Tryz.pinned (.plain (OpenSpec.ofChange uploadPlaysSpec)) uploadPlaysCard

/-- THE SECOND FORM's CARD OF 'hallmarklaw13.UploadWhole'. -/
def uploadWholeUptoCard : Claim7 := { stood := { row := uploadWholeUptoRow, standIns := [], harness := (true, "43b451f98505beea52b4cd0b5832fc4668c572727cc1550f014ae4f1ee1a1e14"), looks := true }, kinds := [], alts := [], laidByText := true, laidKinds := [.data, .pinned], laidTests := true, laidLooks := .later }
def UploadWholeUptoCardSaid : Prop := Claim7.holds Tryz.pinned (.plain (OpenSpec.upto uploadWholeSpec)) uploadWholeUptoCard

/-- THE SECOND FORM's CARD OF 'hallmarklaw13.UploadNil'. -/
def uploadNilUptoCard : Claim7 := { stood := { row := uploadNilUptoRow, standIns := [], harness := (true, "43b451f98505beea52b4cd0b5832fc4668c572727cc1550f014ae4f1ee1a1e14"), looks := true }, kinds := [], alts := [], laidByText := true, laidKinds := [.data, .pinned], laidTests := true, laidLooks := .later }
def UploadNilUptoCardSaid : Prop := Claim7.holds Tryz.pinned (.plain (OpenSpec.upto uploadNilSpec)) uploadNilUptoCard

/-- THE SECOND FORM's CARD OF 'hallmarklaw13.UploadLasts'. -/
def uploadLastsUptoCard : Claim7 := { stood := { row := uploadLastsUptoRow, standIns := [], harness := (true, "43b451f98505beea52b4cd0b5832fc4668c572727cc1550f014ae4f1ee1a1e14"), looks := true }, kinds := [], alts := [], laidByText := true, laidKinds := [.data, .pinned], laidTests := true, laidLooks := .later }
def UploadLastsUptoCardSaid : Prop := Claim7.holds Tryz.pinned (.plain (OpenSpec.upto uploadLastsSpec)) uploadLastsUptoCard

/-- THE SECOND FORM's CARD OF 'hallmarklaw13.UploadPlays'. -/
def uploadPlaysUptoCard : Claim7 := { stood := { row := uploadPlaysUptoRow, standIns := [], harness := (true, "43b451f98505beea52b4cd0b5832fc4668c572727cc1550f014ae4f1ee1a1e14"), looks := true }, kinds := [], alts := [], laidByText := true, laidKinds := [.data, .pinned], laidTests := true, laidLooks := .later }
def UploadPlaysUptoCardSaid : Prop := Claim7.holds Tryz.pinned (.plain (OpenSpec.upto uploadPlaysSpec)) uploadPlaysUptoCard
end Rows
end Go.Proofs.YtlcnhpjggjgnpaaGreatDoor
