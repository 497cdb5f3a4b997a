/-
  DERIVED. GIVEN WITH THE SEED: THE CARDS: each row of YtgbgfdmhmahonaaDoorRows.lean that lists a variable, with what it lists TIED to the program's text (the seventh form; the later family's looks); each row that meets fmt, with fmt's text TOLD by the authors' own Lean function (tested against real Go, not proved from fmt's source: count such statements apart). THE CARD IS WHAT COUNTS. Prove the row's statement (the work); the ties are given (YtgbgfdmhmahonaaDoorTie.lean); close each card by the builder's one call (the guide's Derived/Test/ToyasCard.lean, 'card_holds'). Laid BY PROGRAM, IN A SANDBOX (cutbox-door.mjs). By AI agents, Wed Nov 11 2026. No macro, syntax, notation, axiom, sorry.
-/
import Derived.Test.YtgbgfdmhmahonaaDoorRows
import GoSem.ClaimSeven
namespace Go.Proofs.YtgbgfdmhmahonaaDoor
namespace Rows

/-- THE TIED CARD OF 'shalelaw20.TableMoves'. -/
def tableMovesCard : Claim7 := { stood := { row := tableMovesRow, standIns := [], harness := (true, "165b40a259ee6db34bb2f4fe40b1139cf811547beb90f739cc3b423efa3bbbb6"), looks := true }, kinds := [], alts := [], laidByText := true, laidKinds := [.sentinel, .sentinel, .sentinel], laidTests := true, laidLooks := .later }
def TableMovesCardSaid : Prop := Claim7.holds Tryd.pinned (.plain (OpenSpec.ofChange tableMovesSpec)) tableMovesCard

/-- THE TIED CARD OF 'shalelaw20.TablePlays'. -/
def tablePlaysCard : Claim7 := { stood := { row := tablePlaysRow, standIns := [], harness := (true, "165b40a259ee6db34bb2f4fe40b1139cf811547beb90f739cc3b423efa3bbbb6"), looks := true }, kinds := [], alts := [], laidByText := true, laidKinds := [.sentinel, .sentinel, .sentinel, .sentinel, .sentinel, .sentinel, .sentinel, .sentinel, .sentinel, .sentinel, .sentinel, .sentinel, .sentinel, .sentinel, .sentinel, .sentinel, .sentinel, .sentinel, .sentinel], laidTests := true, laidLooks := .later }
def TablePlaysCardSaid : Prop := Claim7.holds Tryd.pinned (.plain (OpenSpec.ofChange tablePlaysSpec)) tablePlaysCard

/-- THE TIED CARD OF 'shalelaw20.TableSums'. -/
def tableSumsCard : Claim7 := { stood := { row := tableSumsRow, standIns := [], harness := (true, "165b40a259ee6db34bb2f4fe40b1139cf811547beb90f739cc3b423efa3bbbb6"), looks := true }, kinds := [], alts := [], laidByText := true, laidKinds := [.sentinel, .sentinel, .sentinel], laidTests := true, laidLooks := .later }
def TableSumsCardSaid : Prop := Claim7.holds Tryd.pinned (.plain (OpenSpec.ofChange tableSumsSpec)) tableSumsCard

/-- THE SECOND FORM's CARD OF 'shalelaw20.TableMoves'. -/
def tableMovesUptoCard : Claim7 := { stood := { row := tableMovesUptoRow, standIns := [], harness := (true, "165b40a259ee6db34bb2f4fe40b1139cf811547beb90f739cc3b423efa3bbbb6"), looks := true }, kinds := [], alts := [], laidByText := true, laidKinds := [.sentinel, .sentinel, .sentinel], laidTests := true, laidLooks := .later }
def TableMovesUptoCardSaid : Prop := Claim7.holds Tryd.pinned (.plain (OpenSpec.upto tableMovesSpec)) tableMovesUptoCard

/-- THE SECOND FORM's CARD OF 'shalelaw20.TablePlays'. -/
def tablePlaysUptoCard : Claim7 := { stood := { row := tablePlaysUptoRow, standIns := [], harness := (true, "165b40a259ee6db34bb2f4fe40b1139cf811547beb90f739cc3b423efa3bbbb6"), looks := true }, kinds := [], alts := [], laidByText := true, laidKinds := [.sentinel, .sentinel, .sentinel, .sentinel, .sentinel, .sentinel, .sentinel, .sentinel, .sentinel, .sentinel, .sentinel, .sentinel, .sentinel, .sentinel, .sentinel, .sentinel, .sentinel, .sentinel, .sentinel], laidTests := true, laidLooks := .later }
def TablePlaysUptoCardSaid : Prop := Claim7.holds Tryd.pinned (.plain (OpenSpec.upto tablePlaysSpec)) tablePlaysUptoCard

/-- THE SECOND FORM's CARD OF 'shalelaw20.TableSums'. -/
def tableSumsUptoCard : Claim7 := { stood := { row := tableSumsUptoRow, standIns := [], harness := (true, "165b40a259ee6db34bb2f4fe40b1139cf811547beb90f739cc3b423efa3bbbb6"), looks := true }, kinds := [], alts := [], laidByText := true, laidKinds := [.sentinel, .sentinel, .sentinel], laidTests := true, laidLooks := .later }
def TableSumsUptoCardSaid : Prop := Claim7.holds Tryd.pinned (.plain (OpenSpec.upto tableSumsSpec)) tableSumsUptoCard
end Rows
end Go.Proofs.YtgbgfdmhmahonaaDoor
