/-
  DERIVED. GIVEN WITH THE SEED: THE CARDS: each row of YtfnmhdnlogfbdaaGreatDoorRows.lean that lists a variable, with what it lists TIED to the program's text (the seventh form; the later family's looks); each row that meets fmt, with fmt's text TOLD by the authors' own Lean function (tested against real Go, not proved from fmt's source: count such statements apart). THE CARD IS WHAT COUNTS. Prove the row's statement (the work); the ties are given (YtfnmhdnlogfbdaaGreatDoorTie.lean); close each card by the builder's one call (the guide's Derived/Test/ToyasCard.lean, 'card_holds'). Laid BY PROGRAM, IN A SANDBOX (cutbox-door.mjs). By AI agents, Wed Nov 11 2026. No macro, syntax, notation, axiom, sorry.
-/
import Derived.Test.YtfnmhdnlogfbdaaGreatDoorRows
import GoSem.ClaimSeven
namespace Go.Proofs.YtfnmhdnlogfbdaaGreatDoor
namespace Rows

/-- THE TIED CARD OF 'tipstavelaw04.XmltokPlaces'. -/
def xmltokPlacesCard : Claim7 := { stood := { row := xmltokPlacesRow, standIns := [], harness := (true, "265f551fa61f188d73030722d6168fd935167c7967c0bb7a8a48a92562403820"), looks := true }, kinds := [], alts := [], laidByText := true, laidKinds := [.data, .data, .data, .data, .sentinel, .sentinel, .pinned], laidTests := true, laidLooks := .later }
def XmltokPlacesCardSaid : Prop := Claim7.holds Tryz.pinned (.plain (OpenSpec.ofChange xmltokPlacesSpec)) xmltokPlacesCard

/-- THE TIED CARD OF 'tipstavelaw04.XmltokMore'. -/
def xmltokMoreCard : Claim7 := { stood := { row := xmltokMoreRow, standIns := [], harness := (true, "265f551fa61f188d73030722d6168fd935167c7967c0bb7a8a48a92562403820"), looks := true }, kinds := [], alts := [], laidByText := true, laidKinds := [.data, .data, .data, .data, .sentinel, .sentinel, .pinned], laidTests := true, laidLooks := .later }
def XmltokMoreCardSaid : Prop := Claim7.holds Tryz.pinned (.plain (OpenSpec.ofChange xmltokMoreSpec)) xmltokMoreCard

/-- THE TIED CARD OF 'tipstavelaw04.XmltokBack'. -/
def xmltokBackCard : Claim7 := { stood := { row := xmltokBackRow, standIns := [], harness := (true, "265f551fa61f188d73030722d6168fd935167c7967c0bb7a8a48a92562403820"), looks := true }, kinds := [], alts := [], laidByText := true, laidKinds := [.data, .data, .data, .data, .sentinel, .sentinel, .pinned], laidTests := true, laidLooks := .later }
def XmltokBackCardSaid : Prop := Claim7.holds Tryz.pinned (.plain (OpenSpec.ofChange xmltokBackSpec)) xmltokBackCard

/-- THE TIED CARD OF 'tipstavelaw04.XmltokTags'. -/
def xmltokTagsCard : Claim7 := { stood := { row := xmltokTagsRow, standIns := [], harness := (true, "265f551fa61f188d73030722d6168fd935167c7967c0bb7a8a48a92562403820"), looks := true }, kinds := [], alts := [], laidByText := true, laidKinds := [.data, .data, .data, .data, .sentinel, .sentinel, .pinned], laidTests := true, laidLooks := .later }
def XmltokTagsCardSaid : Prop := Claim7.holds Tryz.pinned (.plain (OpenSpec.ofChange xmltokTagsSpec)) xmltokTagsCard

/-- THE TIED CARD OF 'tipstavelaw04.XmltokWrites'. -/
def xmltokWritesCard : Claim7 := { stood := { row := xmltokWritesRow, standIns := [], harness := (true, "265f551fa61f188d73030722d6168fd935167c7967c0bb7a8a48a92562403820"), looks := true }, kinds := [], alts := [], laidByText := true, laidKinds := [.data, .data, .data, .data, .sentinel, .sentinel, .pinned], laidTests := true, laidLooks := .later }
def XmltokWritesCardSaid : Prop := Claim7.holds Tryz.pinned (.plain (OpenSpec.ofChange xmltokWritesSpec)) xmltokWritesCard

/-- THE SECOND FORM's CARD OF 'tipstavelaw04.XmltokPlaces'. -/
def xmltokPlacesUptoCard : Claim7 := { stood := { row := xmltokPlacesUptoRow, standIns := [], harness := (true, "265f551fa61f188d73030722d6168fd935167c7967c0bb7a8a48a92562403820"), looks := true }, kinds := [], alts := [], laidByText := true, laidKinds := [.data, .data, .data, .data, .sentinel, .sentinel, .pinned], laidTests := true, laidLooks := .later }
def XmltokPlacesUptoCardSaid : Prop := Claim7.holds Tryz.pinned (.plain (OpenSpec.upto xmltokPlacesSpec)) xmltokPlacesUptoCard

/-- THE SECOND FORM's CARD OF 'tipstavelaw04.XmltokMore'. -/
def xmltokMoreUptoCard : Claim7 := { stood := { row := xmltokMoreUptoRow, standIns := [], harness := (true, "265f551fa61f188d73030722d6168fd935167c7967c0bb7a8a48a92562403820"), looks := true }, kinds := [], alts := [], laidByText := true, laidKinds := [.data, .data, .data, .data, .sentinel, .sentinel, .pinned], laidTests := true, laidLooks := .later }
def XmltokMoreUptoCardSaid : Prop := Claim7.holds Tryz.pinned (.plain (OpenSpec.upto xmltokMoreSpec)) xmltokMoreUptoCard

/-- THE SECOND FORM's CARD OF 'tipstavelaw04.XmltokBack'. -/
def xmltokBackUptoCard : Claim7 := { stood := { row := xmltokBackUptoRow, standIns := [], harness := (true, "265f551fa61f188d73030722d6168fd935167c7967c0bb7a8a48a92562403820"), looks := true }, kinds := [], alts := [], laidByText := true, laidKinds := [.data, .data, .data, .data, .sentinel, .sentinel, .pinned], laidTests := true, laidLooks := .later }
def XmltokBackUptoCardSaid : Prop := Claim7.holds Tryz.pinned (.plain (OpenSpec.upto xmltokBackSpec)) xmltokBackUptoCard

/-- THE SECOND FORM's CARD OF 'tipstavelaw04.XmltokTags'. -/
def xmltokTagsUptoCard : Claim7 := { stood := { row := xmltokTagsUptoRow, standIns := [], harness := (true, "265f551fa61f188d73030722d6168fd935167c7967c0bb7a8a48a92562403820"), looks := true }, kinds := [], alts := [], laidByText := true, laidKinds := [.data, .data, .data, .data, .sentinel, .sentinel, .pinned], laidTests := true, laidLooks := .later }
def XmltokTagsUptoCardSaid : Prop := Claim7.holds Tryz.pinned (.plain (OpenSpec.upto xmltokTagsSpec)) xmltokTagsUptoCard

/-- THE SECOND FORM's CARD OF 'tipstavelaw04.XmltokWrites'. -/
def xmltokWritesUptoCard : Claim7 := { stood := { row := xmltokWritesUptoRow, standIns := [], harness := (true, "265f551fa61f188d73030722d6168fd935167c7967c0bb7a8a48a92562403820"), looks := true }, kinds := [], alts := [], laidByText := true, laidKinds := [.data, .data, .data, .data, .sentinel, .sentinel, .pinned], laidTests := true, laidLooks := .later }
def XmltokWritesUptoCardSaid : Prop := Claim7.holds Tryz.pinned (.plain (OpenSpec.upto xmltokWritesSpec)) xmltokWritesUptoCard
end Rows
end Go.Proofs.YtfnmhdnlogfbdaaGreatDoor
