/-
  DERIVED. GIVEN WITH THE SEED: THE CARDS: each row of YtblhpkcdemefaaaGreatDoorRows.lean that lists a variable, with what it lists TIED to the program's text (the seventh form; the later family's looks); each row that meets fmt, with fmt's text TOLD by the authors' own Lean function (tested against real Go, not proved from fmt's source: count such statements apart). THE CARD IS WHAT COUNTS. Prove the row's statement (the work); the ties are given (YtblhpkcdemefaaaGreatDoorTie.lean); close each card by the builder's one call (the guide's Derived/Test/ToyasCard.lean, 'card_holds'). Laid BY PROGRAM, IN A SANDBOX (cutbox-door.mjs). By AI agents, Wed Nov 11 2026. No macro, syntax, notation, axiom, sorry.
-/
import Derived.Test.YtblhpkcdemefaaaGreatDoorRows
import GoSem.ClaimSeven
namespace Go.Proofs.YtblhpkcdemefaaaGreatDoor
namespace Rows

/-- THE TIED CARD OF 'tipstavelaw04.XmltokPlaces'. -/
def xmltokPlacesCard : Claim7 := { stood := { row := xmltokPlacesRow, standIns := [], harness := (true, "e7af0e665b3245ba8de7b4bb3f7678008f0dbf4a9a0ab65a0f13befc177f9205"), looks := true }, kinds := [], alts := [], laidByText := true, laidKinds := [.data, .data, .data, .data, .sentinel, .sentinel, .pinned], laidTests := true, laidLooks := .later }
def XmltokPlacesCardSaid : Prop := Claim7.holds Tryz.pinned (.plain (OpenSpec.ofChange xmltokPlacesSpec)) xmltokPlacesCard

/-- THE TIED CARD OF 'tipstavelaw04.XmltokMore'. -/
def xmltokMoreCard : Claim7 := { stood := { row := xmltokMoreRow, standIns := [], harness := (true, "e7af0e665b3245ba8de7b4bb3f7678008f0dbf4a9a0ab65a0f13befc177f9205"), looks := true }, kinds := [], alts := [], laidByText := true, laidKinds := [.data, .data, .data, .data, .sentinel, .sentinel, .pinned], laidTests := true, laidLooks := .later }
def XmltokMoreCardSaid : Prop := Claim7.holds Tryz.pinned (.plain (OpenSpec.ofChange xmltokMoreSpec)) xmltokMoreCard

/-- THE TIED CARD OF 'tipstavelaw04.XmltokWrites'. -/
def xmltokWritesCard : Claim7 := { stood := { row := xmltokWritesRow, standIns := [], harness := (true, "e7af0e665b3245ba8de7b4bb3f7678008f0dbf4a9a0ab65a0f13befc177f9205"), looks := true }, kinds := [], alts := [], laidByText := true, laidKinds := [.data, .data, .data, .data, .sentinel, .sentinel, .pinned], laidTests := true, laidLooks := .later }
def XmltokWritesCardSaid : Prop := Claim7.holds Tryz.pinned (.plain (OpenSpec.ofChange xmltokWritesSpec)) xmltokWritesCard

/-- THE TIED CARD OF 'tipstavelaw05.XmltreeBuilds'. -/
def xmltreeBuildsCard : Claim7 := { stood := { row := xmltreeBuildsRow, standIns := [], harness := (true, "e7af0e665b3245ba8de7b4bb3f7678008f0dbf4a9a0ab65a0f13befc177f9205"), looks := true }, kinds := [], alts := [], laidByText := true, laidKinds := [.data, .data, .data, .data, .sentinel, .sentinel, .pinned], laidTests := true, laidLooks := .later }
def XmltreeBuildsCardSaid : Prop := Claim7.holds Tryz.pinned (.plain (OpenSpec.ofChange xmltreeBuildsSpec)) xmltreeBuildsCard

/-- THE TIED CARD OF 'tipstavelaw05.XmltreeDeep'. -/
def xmltreeDeepCard : Claim7 := { stood := { row := xmltreeDeepRow, standIns := [], harness := (true, "e7af0e665b3245ba8de7b4bb3f7678008f0dbf4a9a0ab65a0f13befc177f9205"), looks := true }, kinds := [], alts := [], laidByText := true, laidKinds := [.data, .data, .data, .data, .sentinel, .sentinel, .pinned], laidTests := true, laidLooks := .later }
def XmltreeDeepCardSaid : Prop := Claim7.holds Tryz.pinned (.plain (OpenSpec.ofChange xmltreeDeepSpec)) xmltreeDeepCard

/-- THE TIED CARD OF 'tipstavelaw05.XmltreeSpaces'. -/
def xmltreeSpacesCard : Claim7 := { stood := { row := xmltreeSpacesRow, standIns := [], harness := (true, "e7af0e665b3245ba8de7b4bb3f7678008f0dbf4a9a0ab65a0f13befc177f9205"), looks := true }, kinds := [], alts := [], laidByText := true, laidKinds := [.data, .data, .data, .data, .sentinel, .sentinel, .pinned], laidTests := true, laidLooks := .later }
def XmltreeSpacesCardSaid : Prop := Claim7.holds Tryz.pinned (.plain (OpenSpec.ofChange xmltreeSpacesSpec)) xmltreeSpacesCard

/-- THE TIED CARD OF 'tipstavelaw05.XmltreeNest'. -/
def xmltreeNestCard : Claim7 := { stood := { row := xmltreeNestRow, standIns := [], harness := (true, "e7af0e665b3245ba8de7b4bb3f7678008f0dbf4a9a0ab65a0f13befc177f9205"), looks := true }, kinds := [], alts := [], laidByText := true, laidKinds := [.data, .data, .data, .data, .sentinel, .sentinel, .pinned], laidTests := true, laidLooks := .later }
def XmltreeNestCardSaid : Prop := Claim7.holds Tryz.pinned (.plain (OpenSpec.ofChange xmltreeNestSpec)) xmltreeNestCard

/-- THE TIED CARD OF 'tipstavelaw06.XmloutBack'. -/
def xmloutBackCard : Claim7 := { stood := { row := xmloutBackRow, standIns := [], harness := (true, "e7af0e665b3245ba8de7b4bb3f7678008f0dbf4a9a0ab65a0f13befc177f9205"), looks := true }, kinds := [], alts := [], laidByText := true, laidKinds := [.data, .data, .data, .data, .sentinel, .sentinel, .pinned], laidTests := true, laidLooks := .later }
def XmloutBackCardSaid : Prop := Claim7.holds Tryz.pinned (.plain (OpenSpec.ofChange xmloutBackSpec)) xmloutBackCard

/-- THE SECOND FORM's CARD OF 'tipstavelaw04.XmltokPlaces'. -/
def xmltokPlacesUptoCard : Claim7 := { stood := { row := xmltokPlacesUptoRow, standIns := [], harness := (true, "e7af0e665b3245ba8de7b4bb3f7678008f0dbf4a9a0ab65a0f13befc177f9205"), looks := true }, kinds := [], alts := [], laidByText := true, laidKinds := [.data, .data, .data, .data, .sentinel, .sentinel, .pinned], laidTests := true, laidLooks := .later }
def XmltokPlacesUptoCardSaid : Prop := Claim7.holds Tryz.pinned (.plain (OpenSpec.upto xmltokPlacesSpec)) xmltokPlacesUptoCard

/-- THE SECOND FORM's CARD OF 'tipstavelaw04.XmltokMore'. -/
def xmltokMoreUptoCard : Claim7 := { stood := { row := xmltokMoreUptoRow, standIns := [], harness := (true, "e7af0e665b3245ba8de7b4bb3f7678008f0dbf4a9a0ab65a0f13befc177f9205"), looks := true }, kinds := [], alts := [], laidByText := true, laidKinds := [.data, .data, .data, .data, .sentinel, .sentinel, .pinned], laidTests := true, laidLooks := .later }
def XmltokMoreUptoCardSaid : Prop := Claim7.holds Tryz.pinned (.plain (OpenSpec.upto xmltokMoreSpec)) xmltokMoreUptoCard

/-- THE SECOND FORM's CARD OF 'tipstavelaw04.XmltokWrites'. -/
def xmltokWritesUptoCard : Claim7 := { stood := { row := xmltokWritesUptoRow, standIns := [], harness := (true, "e7af0e665b3245ba8de7b4bb3f7678008f0dbf4a9a0ab65a0f13befc177f9205"), looks := true }, kinds := [], alts := [], laidByText := true, laidKinds := [.data, .data, .data, .data, .sentinel, .sentinel, .pinned], laidTests := true, laidLooks := .later }
def XmltokWritesUptoCardSaid : Prop := Claim7.holds Tryz.pinned (.plain (OpenSpec.upto xmltokWritesSpec)) xmltokWritesUptoCard

/-- THE SECOND FORM's CARD OF 'tipstavelaw05.XmltreeBuilds'. -/
def xmltreeBuildsUptoCard : Claim7 := { stood := { row := xmltreeBuildsUptoRow, standIns := [], harness := (true, "e7af0e665b3245ba8de7b4bb3f7678008f0dbf4a9a0ab65a0f13befc177f9205"), looks := true }, kinds := [], alts := [], laidByText := true, laidKinds := [.data, .data, .data, .data, .sentinel, .sentinel, .pinned], laidTests := true, laidLooks := .later }
def XmltreeBuildsUptoCardSaid : Prop := Claim7.holds Tryz.pinned (.plain (OpenSpec.upto xmltreeBuildsSpec)) xmltreeBuildsUptoCard

/-- THE SECOND FORM's CARD OF 'tipstavelaw05.XmltreeDeep'. -/
def xmltreeDeepUptoCard : Claim7 := { stood := { row := xmltreeDeepUptoRow, standIns := [], harness := (true, "e7af0e665b3245ba8de7b4bb3f7678008f0dbf4a9a0ab65a0f13befc177f9205"), looks := true }, kinds := [], alts := [], laidByText := true, laidKinds := [.data, .data, .data, .data, .sentinel, .sentinel, .pinned], laidTests := true, laidLooks := .later }
def XmltreeDeepUptoCardSaid : Prop := Claim7.holds Tryz.pinned (.plain (OpenSpec.upto xmltreeDeepSpec)) xmltreeDeepUptoCard

/-- THE SECOND FORM's CARD OF 'tipstavelaw05.XmltreeSpaces'. -/
def xmltreeSpacesUptoCard : Claim7 := { stood := { row := xmltreeSpacesUptoRow, standIns := [], harness := (true, "e7af0e665b3245ba8de7b4bb3f7678008f0dbf4a9a0ab65a0f13befc177f9205"), looks := true }, kinds := [], alts := [], laidByText := true, laidKinds := [.data, .data, .data, .data, .sentinel, .sentinel, .pinned], laidTests := true, laidLooks := .later }
def XmltreeSpacesUptoCardSaid : Prop := Claim7.holds Tryz.pinned (.plain (OpenSpec.upto xmltreeSpacesSpec)) xmltreeSpacesUptoCard

/-- THE SECOND FORM's CARD OF 'tipstavelaw05.XmltreeNest'. -/
def xmltreeNestUptoCard : Claim7 := { stood := { row := xmltreeNestUptoRow, standIns := [], harness := (true, "e7af0e665b3245ba8de7b4bb3f7678008f0dbf4a9a0ab65a0f13befc177f9205"), looks := true }, kinds := [], alts := [], laidByText := true, laidKinds := [.data, .data, .data, .data, .sentinel, .sentinel, .pinned], laidTests := true, laidLooks := .later }
def XmltreeNestUptoCardSaid : Prop := Claim7.holds Tryz.pinned (.plain (OpenSpec.upto xmltreeNestSpec)) xmltreeNestUptoCard

/-- THE SECOND FORM's CARD OF 'tipstavelaw06.XmloutBack'. -/
def xmloutBackUptoCard : Claim7 := { stood := { row := xmloutBackUptoRow, standIns := [], harness := (true, "e7af0e665b3245ba8de7b4bb3f7678008f0dbf4a9a0ab65a0f13befc177f9205"), looks := true }, kinds := [], alts := [], laidByText := true, laidKinds := [.data, .data, .data, .data, .sentinel, .sentinel, .pinned], laidTests := true, laidLooks := .later }
def XmloutBackUptoCardSaid : Prop := Claim7.holds Tryz.pinned (.plain (OpenSpec.upto xmloutBackSpec)) xmloutBackUptoCard
end Rows
end Go.Proofs.YtblhpkcdemefaaaGreatDoor
