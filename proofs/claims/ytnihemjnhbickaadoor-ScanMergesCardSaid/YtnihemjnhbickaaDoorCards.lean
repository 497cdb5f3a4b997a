/-
  DERIVED. GIVEN WITH THE SEED: THE CARDS: each row of YtnihemjnhbickaaDoorRows.lean that lists a variable, with what it lists TIED to the program's text (the seventh form; the later family's looks); each row that meets fmt, with fmt's text TOLD by the authors' own Lean function (tested against real Go, not proved from fmt's source: count such statements apart). THE CARD IS WHAT COUNTS. Prove the row's statement (the work); the ties are given (YtnihemjnhbickaaDoorTie.lean); close each card by the builder's one call (the guide's Derived/Test/ToyasCard.lean, 'card_holds'). Laid BY PROGRAM, IN A SANDBOX (cutbox-door.mjs). By AI agents, Wed Nov 11 2026. No macro, syntax, notation, axiom, sorry.
-/
import Derived.Test.YtnihemjnhbickaaDoorRows
import GoSem.ClaimSeven
namespace Go.Proofs.YtnihemjnhbickaaDoor
namespace Rows

/-- THE TIED CARD OF 'shalelaw22.ScanAlive'. -/
def scanAliveCard : Claim7 := { stood := { row := scanAliveRow, standIns := [], harness := (true, "d8ff9ab9f7bc075cdb38c23597a0a72a3ae30115c27c0528f947e438f1559335"), looks := true }, kinds := [], alts := [], laidByText := true, laidKinds := [.sentinel, .sentinel], laidTests := true, laidLooks := .later }
def ScanAliveCardSaid : Prop := Claim7.holds Tryd.pinned (.plain (OpenSpec.ofChange scanAliveSpec)) scanAliveCard

/-- THE TIED CARD OF 'shalelaw22.ScanOlder'. -/
def scanOlderCard : Claim7 := { stood := { row := scanOlderRow, standIns := [], harness := (true, "d8ff9ab9f7bc075cdb38c23597a0a72a3ae30115c27c0528f947e438f1559335"), looks := true }, kinds := [], alts := [], laidByText := true, laidKinds := [.sentinel, .sentinel], laidTests := true, laidLooks := .later }
def ScanOlderCardSaid : Prop := Claim7.holds Tryd.pinned (.plain (OpenSpec.ofChange scanOlderSpec)) scanOlderCard

/-- THE TIED CARD OF 'shalelaw22.ScanCommits'. -/
def scanCommitsCard : Claim7 := { stood := { row := scanCommitsRow, standIns := [], harness := (true, "d8ff9ab9f7bc075cdb38c23597a0a72a3ae30115c27c0528f947e438f1559335"), looks := true }, kinds := [], alts := [], laidByText := true, laidKinds := [.sentinel, .sentinel], laidTests := true, laidLooks := .later }
def ScanCommitsCardSaid : Prop := Claim7.holds Tryd.pinned (.plain (OpenSpec.ofChange scanCommitsSpec)) scanCommitsCard

/-- THE TIED CARD OF 'shalelaw22.ScanHeads'. -/
def scanHeadsCard : Claim7 := { stood := { row := scanHeadsRow, standIns := [], harness := (true, "d8ff9ab9f7bc075cdb38c23597a0a72a3ae30115c27c0528f947e438f1559335"), looks := true }, kinds := [], alts := [], laidByText := true, laidKinds := [.sentinel, .sentinel], laidTests := true, laidLooks := .later }
def ScanHeadsCardSaid : Prop := Claim7.holds Tryd.pinned (.plain (OpenSpec.ofChange scanHeadsSpec)) scanHeadsCard

/-- THE TIED CARD OF 'shalelaw22.ScanMerges'. -/
def scanMergesCard : Claim7 := { stood := { row := scanMergesRow, standIns := [], harness := (true, "d8ff9ab9f7bc075cdb38c23597a0a72a3ae30115c27c0528f947e438f1559335"), looks := true }, kinds := [], alts := [], laidByText := true, laidKinds := [.sentinel, .sentinel], laidTests := true, laidLooks := .later }
def ScanMergesCardSaid : Prop := Claim7.holds Tryd.pinned (.plain (OpenSpec.ofChange scanMergesSpec)) scanMergesCard

/-- THE SECOND FORM's CARD OF 'shalelaw22.ScanAlive'. -/
def scanAliveUptoCard : Claim7 := { stood := { row := scanAliveUptoRow, standIns := [], harness := (true, "d8ff9ab9f7bc075cdb38c23597a0a72a3ae30115c27c0528f947e438f1559335"), looks := true }, kinds := [], alts := [], laidByText := true, laidKinds := [.sentinel, .sentinel], laidTests := true, laidLooks := .later }
def ScanAliveUptoCardSaid : Prop := Claim7.holds Tryd.pinned (.plain (OpenSpec.upto scanAliveSpec)) scanAliveUptoCard

/-- THE SECOND FORM's CARD OF 'shalelaw22.ScanOlder'. -/
def scanOlderUptoCard : Claim7 := { stood := { row := scanOlderUptoRow, standIns := [], harness := (true, "d8ff9ab9f7bc075cdb38c23597a0a72a3ae30115c27c0528f947e438f1559335"), looks := true }, kinds := [], alts := [], laidByText := true, laidKinds := [.sentinel, .sentinel], laidTests := true, laidLooks := .later }
def ScanOlderUptoCardSaid : Prop := Claim7.holds Tryd.pinned (.plain (OpenSpec.upto scanOlderSpec)) scanOlderUptoCard

/-- THE SECOND FORM's CARD OF 'shalelaw22.ScanCommits'. -/
def scanCommitsUptoCard : Claim7 := { stood := { row := scanCommitsUptoRow, standIns := [], harness := (true, "d8ff9ab9f7bc075cdb38c23597a0a72a3ae30115c27c0528f947e438f1559335"), looks := true }, kinds := [], alts := [], laidByText := true, laidKinds := [.sentinel, .sentinel], laidTests := true, laidLooks := .later }
def ScanCommitsUptoCardSaid : Prop := Claim7.holds Tryd.pinned (.plain (OpenSpec.upto scanCommitsSpec)) scanCommitsUptoCard

/-- THE SECOND FORM's CARD OF 'shalelaw22.ScanHeads'. -/
def scanHeadsUptoCard : Claim7 := { stood := { row := scanHeadsUptoRow, standIns := [], harness := (true, "d8ff9ab9f7bc075cdb38c23597a0a72a3ae30115c27c0528f947e438f1559335"), looks := true }, kinds := [], alts := [], laidByText := true, laidKinds := [.sentinel, .sentinel], laidTests := true, laidLooks := .later }
def ScanHeadsUptoCardSaid : Prop := Claim7.holds Tryd.pinned (.plain (OpenSpec.upto scanHeadsSpec)) scanHeadsUptoCard

/-- THE SECOND FORM's CARD OF 'shalelaw22.ScanMerges'. -/
def scanMergesUptoCard : Claim7 := { stood := { row := scanMergesUptoRow, standIns := [], harness := (true, "d8ff9ab9f7bc075cdb38c23597a0a72a3ae30115c27c0528f947e438f1559335"), looks := true }, kinds := [], alts := [], laidByText := true, laidKinds := [.sentinel, .sentinel], laidTests := true, laidLooks := .later }
def ScanMergesUptoCardSaid : Prop := Claim7.holds Tryd.pinned (.plain (OpenSpec.upto scanMergesSpec)) scanMergesUptoCard
end Rows
end Go.Proofs.YtnihemjnhbickaaDoor
