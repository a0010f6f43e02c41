/-
  DERIVED. GIVEN WITH THE SEED: THE CARDS: each row of YtbjeejimedhniaaGreatDoorRows.lean that lists a variable, with what it lists TIED to the program's text (the seventh form; the later family's looks); each row that meets fmt, with fmt's text TOLD by the authors' own Lean function (tested against real Go, not proved from fmt's source: count such statements apart). THE CARD IS WHAT COUNTS. Prove the row's statement (the work); the ties are given (YtbjeejimedhniaaGreatDoorTie.lean); close each card by the builder's one call (the guide's Derived/Test/ToyasCard.lean, 'card_holds'). Laid BY PROGRAM, IN A SANDBOX (cutbox-door.mjs). By AI agents, Wed Nov 11 2026. No macro, syntax, notation, axiom, sorry.
-/
import Derived.Test.YtbjeejimedhniaaGreatDoorRows
import GoSem.ClaimSeven
namespace Go.Proofs.YtbjeejimedhniaaGreatDoor
namespace Rows

/-- THE TIED CARD OF 'threshertop.TopLast'. -/
def topLastCard : Claim7 := { stood := { row := topLastRow, standIns := [], harness := (true, "b8beb5667e2fc859e25c25adcc9cc0a4d7a81d06a103ce16388bfd4b44821532"), looks := true }, kinds := [], alts := [], laidByText := true, laidKinds := [.data, .data, .data, .data, .sentinel, .sentinel, .pinned], laidTests := true, laidLooks := .later }
def TopLastCardSaid : Prop := Claim7.holds Tryz.pinned (.plain (OpenSpec.ofChange topLastSpec)) topLastCard

/-- THE TIED CARD OF 'threshertop.TopForeign'. -/
def topForeignCard : Claim7 := { stood := { row := topForeignRow, standIns := [], harness := (true, "b8beb5667e2fc859e25c25adcc9cc0a4d7a81d06a103ce16388bfd4b44821532"), looks := true }, kinds := [], alts := [], laidByText := true, laidKinds := [.data, .data, .data, .data, .sentinel, .sentinel, .pinned], laidTests := true, laidLooks := .later }
def TopForeignCardSaid : Prop := Claim7.holds Tryz.pinned (.plain (OpenSpec.ofChange topForeignSpec)) topForeignCard

/-- THE TIED CARD OF 'threshertop.TopDesk'. -/
def topDeskCard : Claim7 := { stood := { row := topDeskRow, standIns := [], harness := (true, "b8beb5667e2fc859e25c25adcc9cc0a4d7a81d06a103ce16388bfd4b44821532"), looks := true }, kinds := [], alts := [], laidByText := true, laidKinds := [.data, .data, .data, .data, .sentinel, .sentinel, .pinned], laidTests := true, laidLooks := .later }
def TopDeskCardSaid : Prop := Claim7.holds Tryz.pinned (.plain (OpenSpec.ofChange topDeskSpec)) topDeskCard

/-- THE TIED CARD OF 'threshertop.TopOrder'. -/
def topOrderCard : Claim7 := { stood := { row := topOrderRow, standIns := [], harness := (true, "b8beb5667e2fc859e25c25adcc9cc0a4d7a81d06a103ce16388bfd4b44821532"), looks := true }, kinds := [], alts := [], laidByText := true, laidKinds := [.data, .data, .data, .data, .sentinel, .sentinel, .pinned], laidTests := true, laidLooks := .later }
def TopOrderCardSaid : Prop := Claim7.holds Tryz.pinned (.plain (OpenSpec.ofChange topOrderSpec)) topOrderCard

/-- THE SECOND FORM's CARD OF 'threshertop.TopLast'. -/
def topLastUptoCard : Claim7 := { stood := { row := topLastUptoRow, standIns := [], harness := (true, "b8beb5667e2fc859e25c25adcc9cc0a4d7a81d06a103ce16388bfd4b44821532"), looks := true }, kinds := [], alts := [], laidByText := true, laidKinds := [.data, .data, .data, .data, .sentinel, .sentinel, .pinned], laidTests := true, laidLooks := .later }
def TopLastUptoCardSaid : Prop := Claim7.holds Tryz.pinned (.plain (OpenSpec.upto topLastSpec)) topLastUptoCard

/-- THE SECOND FORM's CARD OF 'threshertop.TopForeign'. -/
def topForeignUptoCard : Claim7 := { stood := { row := topForeignUptoRow, standIns := [], harness := (true, "b8beb5667e2fc859e25c25adcc9cc0a4d7a81d06a103ce16388bfd4b44821532"), looks := true }, kinds := [], alts := [], laidByText := true, laidKinds := [.data, .data, .data, .data, .sentinel, .sentinel, .pinned], laidTests := true, laidLooks := .later }
def TopForeignUptoCardSaid : Prop := Claim7.holds Tryz.pinned (.plain (OpenSpec.upto topForeignSpec)) topForeignUptoCard

/-- THE SECOND FORM's CARD OF 'threshertop.TopDesk'. -/
def topDeskUptoCard : Claim7 := { stood := { row := topDeskUptoRow, standIns := [], harness := (true, "b8beb5667e2fc859e25c25adcc9cc0a4d7a81d06a103ce16388bfd4b44821532"), looks := true }, kinds := [], alts := [], laidByText := true, laidKinds := [.data, .data, .data, .data, .sentinel, .sentinel, .pinned], laidTests := true, laidLooks := .later }
def TopDeskUptoCardSaid : Prop := Claim7.holds Tryz.pinned (.plain (OpenSpec.upto topDeskSpec)) topDeskUptoCard

/-- THE SECOND FORM's CARD OF 'threshertop.TopOrder'. -/
def topOrderUptoCard : Claim7 := { stood := { row := topOrderUptoRow, standIns := [], harness := (true, "b8beb5667e2fc859e25c25adcc9cc0a4d7a81d06a103ce16388bfd4b44821532"), looks := true }, kinds := [], alts := [], laidByText := true, laidKinds := [.data, .data, .data, .data, .sentinel, .sentinel, .pinned], laidTests := true, laidLooks := .later }
def TopOrderUptoCardSaid : Prop := Claim7.holds Tryz.pinned (.plain (OpenSpec.upto topOrderSpec)) topOrderUptoCard
end Rows
end Go.Proofs.YtbjeejimedhniaaGreatDoor
