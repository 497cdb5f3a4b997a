/-
  DERIVED. GIVEN WITH THE SEED: THE CARDS: each row of YtfjogcklhibboaaGreatDoorRows.lean that lists a variable, with what it lists TIED to the program's text (the seventh form; the later family's looks); each row that meets fmt, with fmt's text TOLD by the authors' own Lean function (tested against real Go, not proved from fmt's source: count such statements apart). THE CARD IS WHAT COUNTS. Prove the row's statement (the work); the ties are given (YtfjogcklhibboaaGreatDoorTie.lean); close each card by the builder's one call (the guide's Derived/Test/ToyasCard.lean, 'card_holds'). Laid BY PROGRAM, IN A SANDBOX (cutbox-door.mjs). By AI agents, Wed Nov 11 2026. No macro, syntax, notation, axiom, sorry.
-/
import Derived.Test.YtfjogcklhibboaaGreatDoorRows
import GoSem.ClaimSeven
namespace Go.Proofs.YtfjogcklhibboaaGreatDoor
namespace Rows

/-- THE TIED CARD OF 'shalelaw10.DecodeSpare'. -/
def decodeSpareCard : Claim7 := { stood := { row := decodeSpareRow, standIns := [], harness := (true, "36979b4cf9ebbd2ab390f1c41c64c284c0883c0c25aedd9a227f002784c4db9a"), looks := true }, kinds := [], alts := [], laidByText := true, laidKinds := [.sentinel, .sentinel, .sentinel, .sentinel, .sentinel, .sentinel], laidTests := true, laidLooks := .later }
def DecodeSpareCardSaid : Prop := Claim7.holds Tryz.pinned (.plain (OpenSpec.ofChange decodeSpareSpec)) decodeSpareCard

/-- THE TIED CARD OF 'shalelaw10.DecodeSays'. -/
def decodeSaysCard : Claim7 := { stood := { row := decodeSaysRow, standIns := [], harness := (true, "36979b4cf9ebbd2ab390f1c41c64c284c0883c0c25aedd9a227f002784c4db9a"), looks := true }, kinds := [], alts := [], laidByText := true, laidKinds := [.sentinel, .sentinel, .sentinel, .sentinel, .sentinel, .sentinel, .sentinel, .sentinel, .sentinel, .sentinel, .sentinel, .sentinel, .sentinel, .sentinel, .sentinel, .sentinel, .sentinel, .sentinel, .sentinel], laidTests := true, laidLooks := .later }
def DecodeSaysCardSaid : Prop := Claim7.holds Tryz.pinned (.plain (OpenSpec.ofChange decodeSaysSpec)) decodeSaysCard

/-- THE TIED CARD OF 'shalelaw10.DecodeMends'. -/
def decodeMendsCard : Claim7 := { stood := { row := decodeMendsRow, standIns := [], harness := (true, "36979b4cf9ebbd2ab390f1c41c64c284c0883c0c25aedd9a227f002784c4db9a"), looks := true }, kinds := [], alts := [], laidByText := true, laidKinds := [.sentinel, .sentinel, .sentinel, .sentinel, .sentinel, .sentinel], laidTests := true, laidLooks := .later }
def DecodeMendsCardSaid : Prop := Claim7.holds Tryz.pinned (.plain (OpenSpec.ofChange decodeMendsSpec)) decodeMendsCard

/-- THE TIED CARD OF 'shalelaw10.DecodeAll'. -/
def decodeAllCard : Claim7 := { stood := { row := decodeAllRow, standIns := [], harness := (true, "36979b4cf9ebbd2ab390f1c41c64c284c0883c0c25aedd9a227f002784c4db9a"), looks := true }, kinds := [], alts := [], laidByText := true, laidKinds := [.sentinel, .sentinel, .sentinel, .sentinel, .sentinel, .sentinel], laidTests := true, laidLooks := .later }
def DecodeAllCardSaid : Prop := Claim7.holds Tryz.pinned (.plain (OpenSpec.ofChange decodeAllSpec)) decodeAllCard

/-- THE TIED CARD OF 'shalelaw10.DecodeNear'. -/
def decodeNearCard : Claim7 := { stood := { row := decodeNearRow, standIns := [], harness := (true, "36979b4cf9ebbd2ab390f1c41c64c284c0883c0c25aedd9a227f002784c4db9a"), looks := true }, kinds := [], alts := [], laidByText := true, laidKinds := [.sentinel, .sentinel, .sentinel, .sentinel, .sentinel, .sentinel], laidTests := true, laidLooks := .later }
def DecodeNearCardSaid : Prop := Claim7.holds Tryz.pinned (.plain (OpenSpec.ofChange decodeNearSpec)) decodeNearCard

/-- THE TIED CARD OF 'shalelaw10.DecodeTwice'. -/
def decodeTwiceCard : Claim7 := { stood := { row := decodeTwiceRow, standIns := [], harness := (true, "36979b4cf9ebbd2ab390f1c41c64c284c0883c0c25aedd9a227f002784c4db9a"), looks := true }, kinds := [], alts := [], laidByText := true, laidKinds := [.sentinel, .sentinel, .sentinel, .sentinel, .sentinel, .sentinel], laidTests := true, laidLooks := .later }
def DecodeTwiceCardSaid : Prop := Claim7.holds Tryz.pinned (.plain (OpenSpec.ofChange decodeTwiceSpec)) decodeTwiceCard

/-- THE SECOND FORM's CARD OF 'shalelaw10.DecodeSpare'. -/
def decodeSpareUptoCard : Claim7 := { stood := { row := decodeSpareUptoRow, standIns := [], harness := (true, "36979b4cf9ebbd2ab390f1c41c64c284c0883c0c25aedd9a227f002784c4db9a"), looks := true }, kinds := [], alts := [], laidByText := true, laidKinds := [.sentinel, .sentinel, .sentinel, .sentinel, .sentinel, .sentinel], laidTests := true, laidLooks := .later }
def DecodeSpareUptoCardSaid : Prop := Claim7.holds Tryz.pinned (.plain (OpenSpec.upto decodeSpareSpec)) decodeSpareUptoCard

/-- THE SECOND FORM's CARD OF 'shalelaw10.DecodeSays'. -/
def decodeSaysUptoCard : Claim7 := { stood := { row := decodeSaysUptoRow, standIns := [], harness := (true, "36979b4cf9ebbd2ab390f1c41c64c284c0883c0c25aedd9a227f002784c4db9a"), looks := true }, kinds := [], alts := [], laidByText := true, laidKinds := [.sentinel, .sentinel, .sentinel, .sentinel, .sentinel, .sentinel, .sentinel, .sentinel, .sentinel, .sentinel, .sentinel, .sentinel, .sentinel, .sentinel, .sentinel, .sentinel, .sentinel, .sentinel, .sentinel], laidTests := true, laidLooks := .later }
def DecodeSaysUptoCardSaid : Prop := Claim7.holds Tryz.pinned (.plain (OpenSpec.upto decodeSaysSpec)) decodeSaysUptoCard

/-- THE SECOND FORM's CARD OF 'shalelaw10.DecodeMends'. -/
def decodeMendsUptoCard : Claim7 := { stood := { row := decodeMendsUptoRow, standIns := [], harness := (true, "36979b4cf9ebbd2ab390f1c41c64c284c0883c0c25aedd9a227f002784c4db9a"), looks := true }, kinds := [], alts := [], laidByText := true, laidKinds := [.sentinel, .sentinel, .sentinel, .sentinel, .sentinel, .sentinel], laidTests := true, laidLooks := .later }
def DecodeMendsUptoCardSaid : Prop := Claim7.holds Tryz.pinned (.plain (OpenSpec.upto decodeMendsSpec)) decodeMendsUptoCard

/-- THE SECOND FORM's CARD OF 'shalelaw10.DecodeAll'. -/
def decodeAllUptoCard : Claim7 := { stood := { row := decodeAllUptoRow, standIns := [], harness := (true, "36979b4cf9ebbd2ab390f1c41c64c284c0883c0c25aedd9a227f002784c4db9a"), looks := true }, kinds := [], alts := [], laidByText := true, laidKinds := [.sentinel, .sentinel, .sentinel, .sentinel, .sentinel, .sentinel], laidTests := true, laidLooks := .later }
def DecodeAllUptoCardSaid : Prop := Claim7.holds Tryz.pinned (.plain (OpenSpec.upto decodeAllSpec)) decodeAllUptoCard

/-- THE SECOND FORM's CARD OF 'shalelaw10.DecodeNear'. -/
def decodeNearUptoCard : Claim7 := { stood := { row := decodeNearUptoRow, standIns := [], harness := (true, "36979b4cf9ebbd2ab390f1c41c64c284c0883c0c25aedd9a227f002784c4db9a"), looks := true }, kinds := [], alts := [], laidByText := true, laidKinds := [.sentinel, .sentinel, .sentinel, .sentinel, .sentinel, .sentinel], laidTests := true, laidLooks := .later }
def DecodeNearUptoCardSaid : Prop := Claim7.holds Tryz.pinned (.plain (OpenSpec.upto decodeNearSpec)) decodeNearUptoCard

/-- THE SECOND FORM's CARD OF 'shalelaw10.DecodeTwice'. -/
def decodeTwiceUptoCard : Claim7 := { stood := { row := decodeTwiceUptoRow, standIns := [], harness := (true, "36979b4cf9ebbd2ab390f1c41c64c284c0883c0c25aedd9a227f002784c4db9a"), looks := true }, kinds := [], alts := [], laidByText := true, laidKinds := [.sentinel, .sentinel, .sentinel, .sentinel, .sentinel, .sentinel], laidTests := true, laidLooks := .later }
def DecodeTwiceUptoCardSaid : Prop := Claim7.holds Tryz.pinned (.plain (OpenSpec.upto decodeTwiceSpec)) decodeTwiceUptoCard
end Rows
end Go.Proofs.YtfjogcklhibboaaGreatDoor
