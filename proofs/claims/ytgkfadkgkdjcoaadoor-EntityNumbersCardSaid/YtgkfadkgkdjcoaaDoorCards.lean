/-
  DERIVED. GIVEN WITH THE SEED: THE CARDS: each row of YtgkfadkgkdjcoaaDoorRows.lean that lists a variable, with what it lists TIED to the program's text (the seventh form; the later family's looks); each row that meets fmt, with fmt's text TOLD by the authors' own Lean function (tested against real Go, not proved from fmt's source: count such statements apart). THE CARD IS WHAT COUNTS. Prove the row's statement (the work); the ties are given (YtgkfadkgkdjcoaaDoorTie.lean); close each card by the builder's one call (the guide's Derived/Test/ToyasCard.lean, 'card_holds'). Laid BY PROGRAM, IN A SANDBOX (cutbox-door.mjs). By AI agents, Wed Nov 11 2026. No macro, syntax, notation, axiom, sorry.
-/
import Derived.Test.YtgkfadkgkdjcoaaDoorRows
import GoSem.ClaimSeven
namespace Go.Proofs.YtgkfadkgkdjcoaaDoor
namespace Rows

/-- THE TIED CARD OF 'tipstavelaw03.EntityTells'. -/
def entityTellsCard : Claim7 := { stood := { row := entityTellsRow, standIns := [], harness := (true, "f833877f171cc2e28ca90c191c61d09f62ab8d41e9815a71843775f5287ec43e"), looks := true }, kinds := [], alts := [], laidByText := true, laidKinds := [.data, .data, .data, .data, .sentinel, .sentinel, .pinned], laidTests := true, laidLooks := .later }
def EntityTellsCardSaid : Prop := Claim7.holds Tryd.pinned (.plain (OpenSpec.ofChange entityTellsSpec)) entityTellsCard

/-- THE TIED CARD OF 'tipstavelaw03.EntityNumbers'. -/
def entityNumbersCard : Claim7 := { stood := { row := entityNumbersRow, standIns := [], harness := (true, "f833877f171cc2e28ca90c191c61d09f62ab8d41e9815a71843775f5287ec43e"), looks := true }, kinds := [], alts := [], laidByText := true, laidKinds := [.data, .data, .data, .data, .sentinel, .sentinel, .pinned], laidTests := true, laidLooks := .later }
def EntityNumbersCardSaid : Prop := Claim7.holds Tryd.pinned (.plain (OpenSpec.ofChange entityNumbersSpec)) entityNumbersCard

/-- THE TIED CARD OF 'tipstavelaw03.EntityPlain'. -/
def entityPlainCard : Claim7 := { stood := { row := entityPlainRow, standIns := [], harness := (true, "f833877f171cc2e28ca90c191c61d09f62ab8d41e9815a71843775f5287ec43e"), looks := true }, kinds := [], alts := [], laidByText := true, laidKinds := [.data, .data, .data, .data, .sentinel, .sentinel, .pinned], laidTests := true, laidLooks := .later }
def EntityPlainCardSaid : Prop := Claim7.holds Tryd.pinned (.plain (OpenSpec.ofChange entityPlainSpec)) entityPlainCard

/-- THE TIED CARD OF 'tipstavelaw03.EntityOne'. -/
def entityOneCard : Claim7 := { stood := { row := entityOneRow, standIns := [], harness := (true, "f833877f171cc2e28ca90c191c61d09f62ab8d41e9815a71843775f5287ec43e"), looks := true }, kinds := [], alts := [], laidByText := true, laidKinds := [.data, .data, .data, .data, .sentinel, .sentinel, .pinned], laidTests := true, laidLooks := .later }
def EntityOneCardSaid : Prop := Claim7.holds Tryd.pinned (.plain (OpenSpec.ofChange entityOneSpec)) entityOneCard

/-- THE TIED CARD OF 'tipstavelaw03.EntityEscapes'. -/
def entityEscapesCard : Claim7 := { stood := { row := entityEscapesRow, standIns := [], harness := (true, "f833877f171cc2e28ca90c191c61d09f62ab8d41e9815a71843775f5287ec43e"), looks := true }, kinds := [], alts := [], laidByText := true, laidKinds := [.data, .data, .data, .data, .sentinel, .sentinel, .pinned], laidTests := true, laidLooks := .later }
def EntityEscapesCardSaid : Prop := Claim7.holds Tryd.pinned (.plain (OpenSpec.ofChange entityEscapesSpec)) entityEscapesCard

/-- THE TIED CARD OF 'tipstavelaw03.EntityBack'. -/
def entityBackCard : Claim7 := { stood := { row := entityBackRow, standIns := [], harness := (true, "f833877f171cc2e28ca90c191c61d09f62ab8d41e9815a71843775f5287ec43e"), looks := true }, kinds := [], alts := [], laidByText := true, laidKinds := [.data, .data, .data, .data, .sentinel, .sentinel, .pinned], laidTests := true, laidLooks := .later }
def EntityBackCardSaid : Prop := Claim7.holds Tryd.pinned (.plain (OpenSpec.ofChange entityBackSpec)) entityBackCard

/-- THE SECOND FORM's CARD OF 'tipstavelaw03.EntityTells'. -/
def entityTellsUptoCard : Claim7 := { stood := { row := entityTellsUptoRow, standIns := [], harness := (true, "f833877f171cc2e28ca90c191c61d09f62ab8d41e9815a71843775f5287ec43e"), looks := true }, kinds := [], alts := [], laidByText := true, laidKinds := [.data, .data, .data, .data, .sentinel, .sentinel, .pinned], laidTests := true, laidLooks := .later }
def EntityTellsUptoCardSaid : Prop := Claim7.holds Tryd.pinned (.plain (OpenSpec.upto entityTellsSpec)) entityTellsUptoCard

/-- THE SECOND FORM's CARD OF 'tipstavelaw03.EntityNumbers'. -/
def entityNumbersUptoCard : Claim7 := { stood := { row := entityNumbersUptoRow, standIns := [], harness := (true, "f833877f171cc2e28ca90c191c61d09f62ab8d41e9815a71843775f5287ec43e"), looks := true }, kinds := [], alts := [], laidByText := true, laidKinds := [.data, .data, .data, .data, .sentinel, .sentinel, .pinned], laidTests := true, laidLooks := .later }
def EntityNumbersUptoCardSaid : Prop := Claim7.holds Tryd.pinned (.plain (OpenSpec.upto entityNumbersSpec)) entityNumbersUptoCard

/-- THE SECOND FORM's CARD OF 'tipstavelaw03.EntityPlain'. -/
def entityPlainUptoCard : Claim7 := { stood := { row := entityPlainUptoRow, standIns := [], harness := (true, "f833877f171cc2e28ca90c191c61d09f62ab8d41e9815a71843775f5287ec43e"), looks := true }, kinds := [], alts := [], laidByText := true, laidKinds := [.data, .data, .data, .data, .sentinel, .sentinel, .pinned], laidTests := true, laidLooks := .later }
def EntityPlainUptoCardSaid : Prop := Claim7.holds Tryd.pinned (.plain (OpenSpec.upto entityPlainSpec)) entityPlainUptoCard

/-- THE SECOND FORM's CARD OF 'tipstavelaw03.EntityOne'. -/
def entityOneUptoCard : Claim7 := { stood := { row := entityOneUptoRow, standIns := [], harness := (true, "f833877f171cc2e28ca90c191c61d09f62ab8d41e9815a71843775f5287ec43e"), looks := true }, kinds := [], alts := [], laidByText := true, laidKinds := [.data, .data, .data, .data, .sentinel, .sentinel, .pinned], laidTests := true, laidLooks := .later }
def EntityOneUptoCardSaid : Prop := Claim7.holds Tryd.pinned (.plain (OpenSpec.upto entityOneSpec)) entityOneUptoCard

/-- THE SECOND FORM's CARD OF 'tipstavelaw03.EntityEscapes'. -/
def entityEscapesUptoCard : Claim7 := { stood := { row := entityEscapesUptoRow, standIns := [], harness := (true, "f833877f171cc2e28ca90c191c61d09f62ab8d41e9815a71843775f5287ec43e"), looks := true }, kinds := [], alts := [], laidByText := true, laidKinds := [.data, .data, .data, .data, .sentinel, .sentinel, .pinned], laidTests := true, laidLooks := .later }
def EntityEscapesUptoCardSaid : Prop := Claim7.holds Tryd.pinned (.plain (OpenSpec.upto entityEscapesSpec)) entityEscapesUptoCard

/-- THE SECOND FORM's CARD OF 'tipstavelaw03.EntityBack'. -/
def entityBackUptoCard : Claim7 := { stood := { row := entityBackUptoRow, standIns := [], harness := (true, "f833877f171cc2e28ca90c191c61d09f62ab8d41e9815a71843775f5287ec43e"), looks := true }, kinds := [], alts := [], laidByText := true, laidKinds := [.data, .data, .data, .data, .sentinel, .sentinel, .pinned], laidTests := true, laidLooks := .later }
def EntityBackUptoCardSaid : Prop := Claim7.holds Tryd.pinned (.plain (OpenSpec.upto entityBackSpec)) entityBackUptoCard
end Rows
end Go.Proofs.YtgkfadkgkdjcoaaDoor
