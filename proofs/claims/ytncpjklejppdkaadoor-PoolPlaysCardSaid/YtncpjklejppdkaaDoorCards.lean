/-
  DERIVED. GIVEN WITH THE SEED: THE CARDS: each row of YtncpjklejppdkaaDoorRows.lean that lists a variable, with what it lists TIED to the program's text (the seventh form; the later family's looks); each row that meets fmt, with fmt's text TOLD by the authors' own Lean function (tested against real Go, not proved from fmt's source: count such statements apart). THE CARD IS WHAT COUNTS. Prove the row's statement (the work); the ties are given (YtncpjklejppdkaaDoorTie.lean); close each card by the builder's one call (the guide's Derived/Test/ToyasCard.lean, 'card_holds'). Laid BY PROGRAM, IN A SANDBOX (cutbox-door.mjs). By AI agents, Wed Nov 11 2026. No macro, syntax, notation, axiom, sorry.
-/
import Derived.Test.YtncpjklejppdkaaDoorRows
import GoSem.ClaimSeven
namespace Go.Proofs.YtncpjklejppdkaaDoor
namespace Rows

/-- THE TIED CARD OF 'shalelaw17.PoolSorts'. -/
def poolSortsCard : Claim7 := { stood := { row := poolSortsRow, standIns := [], harness := (true, "3ca28262a08c47b27327bec84bef6ba3f54c567307650afae8b755503507ebe8"), looks := true }, kinds := [], alts := [], laidByText := true, laidKinds := [.sentinel, .sentinel], laidTests := true, laidLooks := .later }
def PoolSortsCardSaid : Prop := Claim7.holds Tryd.pinned (.plain (OpenSpec.ofChange poolSortsSpec)) poolSortsCard

/-- THE TIED CARD OF 'shalelaw17.PoolRemoves'. -/
def poolRemovesCard : Claim7 := { stood := { row := poolRemovesRow, standIns := [], harness := (true, "3ca28262a08c47b27327bec84bef6ba3f54c567307650afae8b755503507ebe8"), looks := true }, kinds := [], alts := [], laidByText := true, laidKinds := [.sentinel, .sentinel], laidTests := true, laidLooks := .later }
def PoolRemovesCardSaid : Prop := Claim7.holds Tryd.pinned (.plain (OpenSpec.ofChange poolRemovesSpec)) poolRemovesCard

/-- THE TIED CARD OF 'shalelaw17.PoolPlays'. -/
def poolPlaysCard : Claim7 := { stood := { row := poolPlaysRow, standIns := [], harness := (true, "3ca28262a08c47b27327bec84bef6ba3f54c567307650afae8b755503507ebe8"), looks := true }, kinds := [], alts := [], laidByText := true, laidKinds := [.sentinel, .sentinel, .sentinel, .sentinel, .sentinel, .sentinel, .sentinel, .sentinel, .sentinel, .sentinel, .sentinel, .sentinel, .sentinel, .sentinel, .sentinel, .sentinel, .sentinel, .sentinel, .sentinel], laidTests := true, laidLooks := .later }
def PoolPlaysCardSaid : Prop := Claim7.holds Tryd.pinned (.plain (OpenSpec.ofChange poolPlaysSpec)) poolPlaysCard

/-- THE SECOND FORM's CARD OF 'shalelaw17.PoolSorts'. -/
def poolSortsUptoCard : Claim7 := { stood := { row := poolSortsUptoRow, standIns := [], harness := (true, "3ca28262a08c47b27327bec84bef6ba3f54c567307650afae8b755503507ebe8"), looks := true }, kinds := [], alts := [], laidByText := true, laidKinds := [.sentinel, .sentinel], laidTests := true, laidLooks := .later }
def PoolSortsUptoCardSaid : Prop := Claim7.holds Tryd.pinned (.plain (OpenSpec.upto poolSortsSpec)) poolSortsUptoCard

/-- THE SECOND FORM's CARD OF 'shalelaw17.PoolRemoves'. -/
def poolRemovesUptoCard : Claim7 := { stood := { row := poolRemovesUptoRow, standIns := [], harness := (true, "3ca28262a08c47b27327bec84bef6ba3f54c567307650afae8b755503507ebe8"), looks := true }, kinds := [], alts := [], laidByText := true, laidKinds := [.sentinel, .sentinel], laidTests := true, laidLooks := .later }
def PoolRemovesUptoCardSaid : Prop := Claim7.holds Tryd.pinned (.plain (OpenSpec.upto poolRemovesSpec)) poolRemovesUptoCard

/-- THE SECOND FORM's CARD OF 'shalelaw17.PoolPlays'. -/
def poolPlaysUptoCard : Claim7 := { stood := { row := poolPlaysUptoRow, standIns := [], harness := (true, "3ca28262a08c47b27327bec84bef6ba3f54c567307650afae8b755503507ebe8"), looks := true }, kinds := [], alts := [], laidByText := true, laidKinds := [.sentinel, .sentinel, .sentinel, .sentinel, .sentinel, .sentinel, .sentinel, .sentinel, .sentinel, .sentinel, .sentinel, .sentinel, .sentinel, .sentinel, .sentinel, .sentinel, .sentinel, .sentinel, .sentinel], laidTests := true, laidLooks := .later }
def PoolPlaysUptoCardSaid : Prop := Claim7.holds Tryd.pinned (.plain (OpenSpec.upto poolPlaysSpec)) poolPlaysUptoCard
end Rows
end Go.Proofs.YtncpjklejppdkaaDoor
