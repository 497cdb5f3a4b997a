/-
  DERIVED. GIVEN WITH THE SEED: THE CARDS: each row of YtmdnpfocihfkdaaDoorRows.lean that lists a variable, with what it lists TIED to the program's text (the seventh form; the later family's looks); each row that meets fmt, with fmt's text TOLD by the authors' own Lean function (tested against real Go, not proved from fmt's source: count such statements apart). THE CARD IS WHAT COUNTS. Prove the row's statement (the work); the ties are given (YtmdnpfocihfkdaaDoorTie.lean); close each card by the builder's one call (the guide's Derived/Test/ToyasCard.lean, 'card_holds'). Laid BY PROGRAM, IN A SANDBOX (cutbox-door.mjs). By AI agents, Wed Nov 11 2026. No macro, syntax, notation, axiom, sorry.
-/
import Derived.Test.YtmdnpfocihfkdaaDoorRows
import GoSem.ClaimSeven
namespace Go.Proofs.YtmdnpfocihfkdaaDoor
namespace Rows

/-- THE TIED CARD OF 'shalelaw23.PointSays'. -/
def pointSaysCard : Claim7 := { stood := { row := pointSaysRow, standIns := [], harness := (true, "02831cecd5ca578600f3df96b52a4a485e9098fc428204953626da66e4b9418f"), looks := true }, kinds := [], alts := [], laidByText := true, laidKinds := [.sentinel, .sentinel, .sentinel], laidTests := true, laidLooks := .later }
def PointSaysCardSaid : Prop := Claim7.holds Tryd.pinned (.plain (OpenSpec.ofChange pointSaysSpec)) pointSaysCard

/-- THE TIED CARD OF 'shalelaw23.PointPieces'. -/
def pointPiecesCard : Claim7 := { stood := { row := pointPiecesRow, standIns := [], harness := (true, "02831cecd5ca578600f3df96b52a4a485e9098fc428204953626da66e4b9418f"), looks := true }, kinds := [], alts := [], laidByText := true, laidKinds := [.sentinel, .sentinel, .sentinel, .sentinel, .sentinel, .sentinel, .sentinel, .sentinel, .sentinel, .sentinel, .sentinel, .sentinel, .sentinel, .sentinel, .sentinel, .sentinel, .sentinel, .sentinel, .sentinel], laidTests := true, laidLooks := .later }
def PointPiecesCardSaid : Prop := Claim7.holds Tryd.pinned (.plain (OpenSpec.ofChange pointPiecesSpec)) pointPiecesCard

/-- THE TIED CARD OF 'shalelaw23.PointBack'. -/
def pointBackCard : Claim7 := { stood := { row := pointBackRow, standIns := [], harness := (true, "02831cecd5ca578600f3df96b52a4a485e9098fc428204953626da66e4b9418f"), looks := true }, kinds := [], alts := [], laidByText := true, laidKinds := [.sentinel, .sentinel, .sentinel], laidTests := true, laidLooks := .later }
def PointBackCardSaid : Prop := Claim7.holds Tryd.pinned (.plain (OpenSpec.ofChange pointBackSpec)) pointBackCard

/-- THE TIED CARD OF 'shalelaw23.PointUnlike'. -/
def pointUnlikeCard : Claim7 := { stood := { row := pointUnlikeRow, standIns := [], harness := (true, "02831cecd5ca578600f3df96b52a4a485e9098fc428204953626da66e4b9418f"), looks := true }, kinds := [], alts := [], laidByText := true, laidKinds := [.sentinel, .sentinel, .sentinel], laidTests := true, laidLooks := .later }
def PointUnlikeCardSaid : Prop := Claim7.holds Tryd.pinned (.plain (OpenSpec.ofChange pointUnlikeSpec)) pointUnlikeCard

/-- THE TIED CARD OF 'shalelaw23.PointPages'. -/
def pointPagesCard : Claim7 := { stood := { row := pointPagesRow, standIns := [], harness := (true, "02831cecd5ca578600f3df96b52a4a485e9098fc428204953626da66e4b9418f"), looks := true }, kinds := [], alts := [], laidByText := true, laidKinds := [.sentinel, .sentinel, .sentinel, .sentinel, .sentinel], laidTests := true, laidLooks := .later }
def PointPagesCardSaid : Prop := Claim7.holds Tryd.pinned (.plain (OpenSpec.ofChange pointPagesSpec)) pointPagesCard

/-- THE SECOND FORM's CARD OF 'shalelaw23.PointSays'. -/
def pointSaysUptoCard : Claim7 := { stood := { row := pointSaysUptoRow, standIns := [], harness := (true, "02831cecd5ca578600f3df96b52a4a485e9098fc428204953626da66e4b9418f"), looks := true }, kinds := [], alts := [], laidByText := true, laidKinds := [.sentinel, .sentinel, .sentinel], laidTests := true, laidLooks := .later }
def PointSaysUptoCardSaid : Prop := Claim7.holds Tryd.pinned (.plain (OpenSpec.upto pointSaysSpec)) pointSaysUptoCard

/-- THE SECOND FORM's CARD OF 'shalelaw23.PointPieces'. -/
def pointPiecesUptoCard : Claim7 := { stood := { row := pointPiecesUptoRow, standIns := [], harness := (true, "02831cecd5ca578600f3df96b52a4a485e9098fc428204953626da66e4b9418f"), looks := true }, kinds := [], alts := [], laidByText := true, laidKinds := [.sentinel, .sentinel, .sentinel, .sentinel, .sentinel, .sentinel, .sentinel, .sentinel, .sentinel, .sentinel, .sentinel, .sentinel, .sentinel, .sentinel, .sentinel, .sentinel, .sentinel, .sentinel, .sentinel], laidTests := true, laidLooks := .later }
def PointPiecesUptoCardSaid : Prop := Claim7.holds Tryd.pinned (.plain (OpenSpec.upto pointPiecesSpec)) pointPiecesUptoCard

/-- THE SECOND FORM's CARD OF 'shalelaw23.PointBack'. -/
def pointBackUptoCard : Claim7 := { stood := { row := pointBackUptoRow, standIns := [], harness := (true, "02831cecd5ca578600f3df96b52a4a485e9098fc428204953626da66e4b9418f"), looks := true }, kinds := [], alts := [], laidByText := true, laidKinds := [.sentinel, .sentinel, .sentinel], laidTests := true, laidLooks := .later }
def PointBackUptoCardSaid : Prop := Claim7.holds Tryd.pinned (.plain (OpenSpec.upto pointBackSpec)) pointBackUptoCard

/-- THE SECOND FORM's CARD OF 'shalelaw23.PointUnlike'. -/
def pointUnlikeUptoCard : Claim7 := { stood := { row := pointUnlikeUptoRow, standIns := [], harness := (true, "02831cecd5ca578600f3df96b52a4a485e9098fc428204953626da66e4b9418f"), looks := true }, kinds := [], alts := [], laidByText := true, laidKinds := [.sentinel, .sentinel, .sentinel], laidTests := true, laidLooks := .later }
def PointUnlikeUptoCardSaid : Prop := Claim7.holds Tryd.pinned (.plain (OpenSpec.upto pointUnlikeSpec)) pointUnlikeUptoCard

/-- THE SECOND FORM's CARD OF 'shalelaw23.PointPages'. -/
def pointPagesUptoCard : Claim7 := { stood := { row := pointPagesUptoRow, standIns := [], harness := (true, "02831cecd5ca578600f3df96b52a4a485e9098fc428204953626da66e4b9418f"), looks := true }, kinds := [], alts := [], laidByText := true, laidKinds := [.sentinel, .sentinel, .sentinel, .sentinel, .sentinel], laidTests := true, laidLooks := .later }
def PointPagesUptoCardSaid : Prop := Claim7.holds Tryd.pinned (.plain (OpenSpec.upto pointPagesSpec)) pointPagesUptoCard
end Rows
end Go.Proofs.YtmdnpfocihfkdaaDoor
