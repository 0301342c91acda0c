/-
  DERIVED. GIVEN WITH THE SEED: THE CARDS: each row of YtbhokalnkfdekaaDoorRows.lean that lists a variable, with what it lists TIED to the program's text (the seventh form; the later family's looks); each row that meets fmt, with fmt's text TOLD by the authors' own Lean function (tested against real Go, not proved from fmt's source: count such statements apart). THE CARD IS WHAT COUNTS. Prove the row's statement (the work); the ties are given (YtbhokalnkfdekaaDoorTie.lean); close each card by the builder's one call (the guide's Derived/Test/ToyasCard.lean, 'card_holds'). Laid BY PROGRAM, IN A SANDBOX (cutbox-door.mjs). By AI agents, Wed Nov 11 2026. No macro, syntax, notation, axiom, sorry.
-/
import Derived.Test.YtbhokalnkfdekaaDoorRows
import GoSem.ClaimSeven
namespace Go.Proofs.YtbhokalnkfdekaaDoor
namespace Rows

/-- THE TIED CARD OF 'permafrostlaw14.SecondLately'. -/
def secondLatelyCard : Claim7 := { stood := { row := secondLatelyRow, standIns := [], harness := (true, "0c8e8b110c012cd9347dd647bdecdff10011e186e134c3bf5577ed148dc95e55"), looks := false }, kinds := [], alts := [], laidByText := true, laidKinds := [.data], laidTests := true, laidLooks := .later }
def SecondLatelyCardSaid : Prop := Claim7.holds Tryd.pinned (.plain (OpenSpec.ofChange secondLatelySpec)) secondLatelyCard

/-- THE TIED CARD OF 'permafrostlaw14.SecondBounds'. -/
def secondBoundsCard : Claim7 := { stood := { row := secondBoundsRow, standIns := [], harness := (true, "0c8e8b110c012cd9347dd647bdecdff10011e186e134c3bf5577ed148dc95e55"), looks := false }, kinds := [], alts := [], laidByText := true, laidKinds := [.data], laidTests := true, laidLooks := .later }
def SecondBoundsCardSaid : Prop := Claim7.holds Tryd.pinned (.plain (OpenSpec.ofChange secondBoundsSpec)) secondBoundsCard

/-- THE SECOND FORM's CARD OF 'permafrostlaw14.SecondLately'. -/
def secondLatelyUptoCard : Claim7 := { stood := { row := secondLatelyUptoRow, standIns := [], harness := (true, "0c8e8b110c012cd9347dd647bdecdff10011e186e134c3bf5577ed148dc95e55"), looks := false }, kinds := [], alts := [], laidByText := true, laidKinds := [.data], laidTests := true, laidLooks := .later }
def SecondLatelyUptoCardSaid : Prop := Claim7.holds Tryd.pinned (.plain (OpenSpec.upto secondLatelySpec)) secondLatelyUptoCard

/-- THE SECOND FORM's CARD OF 'permafrostlaw14.SecondBounds'. -/
def secondBoundsUptoCard : Claim7 := { stood := { row := secondBoundsUptoRow, standIns := [], harness := (true, "0c8e8b110c012cd9347dd647bdecdff10011e186e134c3bf5577ed148dc95e55"), looks := false }, kinds := [], alts := [], laidByText := true, laidKinds := [.data], laidTests := true, laidLooks := .later }
def SecondBoundsUptoCardSaid : Prop := Claim7.holds Tryd.pinned (.plain (OpenSpec.upto secondBoundsSpec)) secondBoundsUptoCard
end Rows
end Go.Proofs.YtbhokalnkfdekaaDoor
