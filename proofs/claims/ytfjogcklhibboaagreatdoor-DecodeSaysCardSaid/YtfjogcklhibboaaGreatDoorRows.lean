/-
  NARROWER THAN 'FOR EVERY INPUT', by the rows' own cells (each row's printed sentence says how): DecodeSpare: laid · DecodeSays: laid · DecodeMends: laid · DecodeAll: laid · DecodeNear: laid · DecodeTwice: laid.
  DERIVED. THE GIVEN ROWS OF THIS SEAT. 6 by the template 'for every input the law returns true; each argument reads behind the call as it read before'; 0 by the template 'total and deterministic' (their statements: YtfjogcklhibboaaGreatDoorTotals.lean).
  GIVEN WITH THE SEED: the statements are not yours to turn. If you find one false, say at which input.
  Laid BY PROGRAM, IN A SANDBOX (cutbox-rows.mjs): the forced cells as the released guide's own fill.sh prints them over the translation 59c6eccf1927f9f8… (all of the seat's roots in one cut). By AI agents, Wed Nov 11 2026. No macro, syntax, notation, axiom, sorry.
-/
import Derived.Test.YtfjogcklhibboaaGreatDoorChecked
import GoSem.Claim
import GoSem.ClaimJoined
import GoSem.ClaimMapViews
import Derived.JoinedTies
import Derived.KernelRfl
namespace Go.Proofs.YtfjogcklhibboaaGreatDoor
/- THE CELL 'sum', in the pinned program and in every row, IS THE sha256 OF THE DUMP (.gsa) THAT YtfjogcklhibboaaGreatDoorProg.lean LOADS. Nothing in Lean hashes anything: it is a label: what it is worth is what the hold of that sum in a sandbox is worth. -/
noncomputable def Tryz.pinned : Pinned := { name := "ytfjogcklhibboaagreatdoor", sum := "59c6eccf1927f9f8421c2d6c676ede65ee36cb5627a19b839699f0785d439069", checked := Tryz.checked }
namespace Rows
def none {H : Type} : Left H := { results := [], args := [] }

/- WHAT THE LISTED PACKAGE-LEVEL VARIABLES READ AS WHEN THE CALL BEGINS. Each datum BY PROGRAM (the guide's laid-datum.mjs) off the statement by which the dump's own 'gosem.cut.vars' lays the variable. In a bare row this is a premise. The card (YtfjogcklhibboaaGreatDoorCards.lean) ties it to the program's text. -/
def laid_shale_api_ErrField {H : Type} : DataW H := .iface "*errors.errorString" (.ptr (.agg [.lit (.string [110, 111, 32, 115, 117, 99, 104, 32, 102, 105, 101, 108, 100])]))
def laid_shale_api_ErrNumber {H : Type} : DataW H := .iface "*errors.errorString" (.ptr (.agg [.lit (.string [110, 111, 32, 115, 117, 99, 104, 32, 110, 117, 109, 98, 101, 114])]))
def laid_shale_api_ErrZero {H : Type} : DataW H := .iface "*errors.errorString" (.ptr (.agg [.lit (.string [122, 101, 114, 111, 32, 104, 97, 115, 32, 110, 111, 110, 101])]))
def laid_shale_api_ErrLong {H : Type} : DataW H := .iface "*errors.errorString" (.ptr (.agg [.lit (.string [116, 111, 111, 32, 108, 111, 110, 103])]))
def laid_shale_api_ErrCode {H : Type} : DataW H := .iface "*errors.errorString" (.ptr (.agg [.lit (.string [110, 111, 32, 115, 117, 99, 104, 32, 99, 111, 100, 101])]))
def laid_shale_api_ErrMany {H : Type} : DataW H := .iface "*errors.errorString" (.ptr (.agg [.lit (.string [109, 111, 114, 101, 32, 105, 115, 32, 97, 109, 105, 115, 115, 32, 116, 104, 97, 110, 32, 99, 97, 110, 32, 98, 101, 32, 109, 101, 110, 100, 101, 100])]))
def laid_shale_api_ErrRecord {H : Type} : DataW H := .iface "*errors.errorString" (.ptr (.agg [.lit (.string [110, 111, 32, 114, 101, 99, 111, 114, 100])]))
def laid_shale_api_ErrGeometry {H : Type} : DataW H := .iface "*errors.errorString" (.ptr (.agg [.lit (.string [110, 111, 32, 115, 117, 99, 104, 32, 99, 104, 105, 112])]))
def laid_shale_api_ErrDead {H : Type} : DataW H := .iface "*errors.errorString" (.ptr (.agg [.lit (.string [116, 104, 101, 32, 112, 111, 119, 101, 114, 32, 105, 115, 32, 111, 102, 102])]))
def laid_shale_api_ErrOrder {H : Type} : DataW H := .iface "*errors.errorString" (.ptr (.agg [.lit (.string [105, 116, 32, 100, 111, 101, 115, 32, 110, 111, 116, 32, 99, 111, 109, 101, 32, 104, 101, 114, 101])]))
def laid_shale_api_ErrFailed {H : Type} : DataW H := .iface "*errors.errorString" (.ptr (.agg [.lit (.string [116, 104, 101, 32, 99, 104, 105, 112, 32, 102, 97, 105, 108, 101, 100])]))
def laid_shale_api_ErrBad {H : Type} : DataW H := .iface "*errors.errorString" (.ptr (.agg [.lit (.string [116, 104, 101, 32, 98, 108, 111, 99, 107, 32, 105, 115, 32, 98, 97, 100])]))
def laid_shale_api_ErrPage {H : Type} : DataW H := .iface "*errors.errorString" (.ptr (.agg [.lit (.string [116, 104, 101, 32, 112, 97, 103, 101, 32, 99, 97, 110, 110, 111, 116, 32, 98, 101, 32, 114, 101, 97, 100])]))
def laid_shale_api_ErrFull {H : Type} : DataW H := .iface "*errors.errorString" (.ptr (.agg [.lit (.string [110, 111, 32, 114, 111, 111, 109])]))
def laid_shale_api_ErrGone {H : Type} : DataW H := .iface "*errors.errorString" (.ptr (.agg [.lit (.string [105, 116, 32, 105, 115, 32, 110, 111, 116, 32, 116, 104, 101, 114, 101])]))
def laid_shale_api_ErrSize {H : Type} : DataW H := .iface "*errors.errorString" (.ptr (.agg [.lit (.string [110, 111, 32, 115, 101, 99, 116, 111, 114, 39, 115, 32, 115, 105, 122, 101])]))
def laid_shale_api_ErrReadOnly {H : Type} : DataW H := .iface "*errors.errorString" (.ptr (.agg [.lit (.string [105, 116, 32, 99, 97, 110, 32, 111, 110, 108, 121, 32, 98, 101, 32, 114, 101, 97, 100])]))
def laid_shale_api_ErrStep {H : Type} : DataW H := .iface "*errors.errorString" (.ptr (.agg [.lit (.string [110, 111, 32, 115, 117, 99, 104, 32, 115, 116, 101, 112])]))
def laid_shale_api_ErrMount {H : Type} : DataW H := .iface "*errors.errorString" (.ptr (.agg [.lit (.string [105, 116, 32, 105, 115, 32, 110, 111, 116, 32, 109, 111, 117, 110, 116, 101, 100])]))

/-- 'shalelaw10.DecodeSpare': WHATEVER THE INPUT: true; the input reads as it did. -/
def decodeSpareSpec : ChangeSpec := { name := "decodeSpare", fn := fun _ => fun
  | [d1, d2, d3, d4, d5, d6] => { results := [.lit (.bool true)], args := [d1, d2, d3, d4, d5, d6] }
  | _ => none }
def decodeSpareRow : OpenClaim := { program := "ytfjogcklhibboaagreatdoor", sum := "59c6eccf1927f9f8421c2d6c676ede65ee36cb5627a19b839699f0785d439069", func := "shale/shalelaw10.DecodeSpare", spec := "decodeSpare", unfollowed := true, recurses := true, named := ["shale/api.ErrLong", "shale/api.ErrCode", "shale/api.ErrField", "shale/api.ErrNumber", "shale/api.ErrMany", "shale/api.ErrZero"], apart := false, laid := [("shale/api.ErrField", laid_shale_api_ErrField), ("shale/api.ErrNumber", laid_shale_api_ErrNumber), ("shale/api.ErrZero", laid_shale_api_ErrZero), ("shale/api.ErrLong", laid_shale_api_ErrLong), ("shale/api.ErrCode", laid_shale_api_ErrCode), ("shale/api.ErrMany", laid_shale_api_ErrMany)] }
def DecodeSpareSaid : Prop := decodeSpareRow.holds Tryz.pinned (OpenSpec.ofChange decodeSpareSpec)

/-- ITS FALSE NEIGHBOUR: 'it returns false'. Refute it at one input. -/
def decodeSpareWrong : ChangeSpec := { name := "decodeSpare", fn := fun _ => fun
  | [d1, d2, d3, d4, d5, d6] => { results := [.lit (.bool false)], args := [d1, d2, d3, d4, d5, d6] }
  | _ => none }
def DecodeSpareWrongFalsely : Prop := decodeSpareRow.holds Tryz.pinned (OpenSpec.ofChange decodeSpareWrong)

/-- 'shalelaw10.DecodeSays': WHATEVER THE INPUT: true; the input reads as it did. -/
def decodeSaysSpec : ChangeSpec := { name := "decodeSays", fn := fun _ => fun
  | [d1, d2, d3, d4, d5] => { results := [.lit (.bool true)], args := [d1, d2, d3, d4, d5] }
  | _ => none }
def decodeSaysRow : OpenClaim := { program := "ytfjogcklhibboaagreatdoor", sum := "59c6eccf1927f9f8421c2d6c676ede65ee36cb5627a19b839699f0785d439069", func := "shale/shalelaw10.DecodeSays", spec := "decodeSays", unfollowed := true, recurses := true, named := ["shale/api.ErrLong", "shale/api.ErrCode", "shale/api.ErrField", "shale/api.ErrNumber", "shale/api.ErrMany", "shale/api.ErrZero", "shale/api.ErrRecord", "shale/api.ErrGeometry", "shale/api.ErrDead", "shale/api.ErrOrder", "shale/api.ErrFailed", "shale/api.ErrBad", "shale/api.ErrPage", "shale/api.ErrFull", "shale/api.ErrGone", "shale/api.ErrSize", "shale/api.ErrReadOnly", "shale/api.ErrStep", "shale/api.ErrMount"], apart := false, laid := [("shale/api.ErrField", laid_shale_api_ErrField), ("shale/api.ErrNumber", laid_shale_api_ErrNumber), ("shale/api.ErrZero", laid_shale_api_ErrZero), ("shale/api.ErrLong", laid_shale_api_ErrLong), ("shale/api.ErrCode", laid_shale_api_ErrCode), ("shale/api.ErrMany", laid_shale_api_ErrMany), ("shale/api.ErrRecord", laid_shale_api_ErrRecord), ("shale/api.ErrGeometry", laid_shale_api_ErrGeometry), ("shale/api.ErrDead", laid_shale_api_ErrDead), ("shale/api.ErrOrder", laid_shale_api_ErrOrder), ("shale/api.ErrFailed", laid_shale_api_ErrFailed), ("shale/api.ErrBad", laid_shale_api_ErrBad), ("shale/api.ErrPage", laid_shale_api_ErrPage), ("shale/api.ErrFull", laid_shale_api_ErrFull), ("shale/api.ErrGone", laid_shale_api_ErrGone), ("shale/api.ErrSize", laid_shale_api_ErrSize), ("shale/api.ErrReadOnly", laid_shale_api_ErrReadOnly), ("shale/api.ErrStep", laid_shale_api_ErrStep), ("shale/api.ErrMount", laid_shale_api_ErrMount)] }
def DecodeSaysSaid : Prop := decodeSaysRow.holds Tryz.pinned (OpenSpec.ofChange decodeSaysSpec)

/-- ITS FALSE NEIGHBOUR: 'it returns false'. Refute it at one input. -/
def decodeSaysWrong : ChangeSpec := { name := "decodeSays", fn := fun _ => fun
  | [d1, d2, d3, d4, d5] => { results := [.lit (.bool false)], args := [d1, d2, d3, d4, d5] }
  | _ => none }
def DecodeSaysWrongFalsely : Prop := decodeSaysRow.holds Tryz.pinned (OpenSpec.ofChange decodeSaysWrong)

/-- 'shalelaw10.DecodeMends': WHATEVER THE INPUT: true; the input reads as it did. -/
def decodeMendsSpec : ChangeSpec := { name := "decodeMends", fn := fun _ => fun
  | [d1, d2, d3, d4, d5] => { results := [.lit (.bool true)], args := [d1, d2, d3, d4, d5] }
  | _ => none }
def decodeMendsRow : OpenClaim := { program := "ytfjogcklhibboaagreatdoor", sum := "59c6eccf1927f9f8421c2d6c676ede65ee36cb5627a19b839699f0785d439069", func := "shale/shalelaw10.DecodeMends", spec := "decodeMends", unfollowed := true, recurses := true, named := ["shale/api.ErrLong", "shale/api.ErrCode", "shale/api.ErrField", "shale/api.ErrNumber", "shale/api.ErrMany", "shale/api.ErrZero"], apart := false, laid := [("shale/api.ErrField", laid_shale_api_ErrField), ("shale/api.ErrNumber", laid_shale_api_ErrNumber), ("shale/api.ErrZero", laid_shale_api_ErrZero), ("shale/api.ErrLong", laid_shale_api_ErrLong), ("shale/api.ErrCode", laid_shale_api_ErrCode), ("shale/api.ErrMany", laid_shale_api_ErrMany)] }
def DecodeMendsSaid : Prop := decodeMendsRow.holds Tryz.pinned (OpenSpec.ofChange decodeMendsSpec)

/-- ITS FALSE NEIGHBOUR: 'it returns false'. Refute it at one input. -/
def decodeMendsWrong : ChangeSpec := { name := "decodeMends", fn := fun _ => fun
  | [d1, d2, d3, d4, d5] => { results := [.lit (.bool false)], args := [d1, d2, d3, d4, d5] }
  | _ => none }
def DecodeMendsWrongFalsely : Prop := decodeMendsRow.holds Tryz.pinned (OpenSpec.ofChange decodeMendsWrong)

/-- 'shalelaw10.DecodeAll': WHATEVER THE INPUT: true; the input reads as it did. -/
def decodeAllSpec : ChangeSpec := { name := "decodeAll", fn := fun _ => fun
  | [d1, d2, d3, d4] => { results := [.lit (.bool true)], args := [d1, d2, d3, d4] }
  | _ => none }
def decodeAllRow : OpenClaim := { program := "ytfjogcklhibboaagreatdoor", sum := "59c6eccf1927f9f8421c2d6c676ede65ee36cb5627a19b839699f0785d439069", func := "shale/shalelaw10.DecodeAll", spec := "decodeAll", unfollowed := true, recurses := true, named := ["shale/api.ErrLong", "shale/api.ErrCode", "shale/api.ErrField", "shale/api.ErrNumber", "shale/api.ErrMany", "shale/api.ErrZero"], apart := false, laid := [("shale/api.ErrField", laid_shale_api_ErrField), ("shale/api.ErrNumber", laid_shale_api_ErrNumber), ("shale/api.ErrZero", laid_shale_api_ErrZero), ("shale/api.ErrLong", laid_shale_api_ErrLong), ("shale/api.ErrCode", laid_shale_api_ErrCode), ("shale/api.ErrMany", laid_shale_api_ErrMany)] }
def DecodeAllSaid : Prop := decodeAllRow.holds Tryz.pinned (OpenSpec.ofChange decodeAllSpec)

/-- ITS FALSE NEIGHBOUR: 'it returns false'. Refute it at one input. -/
def decodeAllWrong : ChangeSpec := { name := "decodeAll", fn := fun _ => fun
  | [d1, d2, d3, d4] => { results := [.lit (.bool false)], args := [d1, d2, d3, d4] }
  | _ => none }
def DecodeAllWrongFalsely : Prop := decodeAllRow.holds Tryz.pinned (OpenSpec.ofChange decodeAllWrong)

/-- 'shalelaw10.DecodeNear': WHATEVER THE INPUT: true; the input reads as it did. -/
def decodeNearSpec : ChangeSpec := { name := "decodeNear", fn := fun _ => fun
  | [d1, d2, d3, d4, d5, d6] => { results := [.lit (.bool true)], args := [d1, d2, d3, d4, d5, d6] }
  | _ => none }
def decodeNearRow : OpenClaim := { program := "ytfjogcklhibboaagreatdoor", sum := "59c6eccf1927f9f8421c2d6c676ede65ee36cb5627a19b839699f0785d439069", func := "shale/shalelaw10.DecodeNear", spec := "decodeNear", unfollowed := true, recurses := true, named := ["shale/api.ErrMany", "shale/api.ErrLong", "shale/api.ErrCode", "shale/api.ErrField", "shale/api.ErrNumber", "shale/api.ErrZero"], apart := false, laid := [("shale/api.ErrField", laid_shale_api_ErrField), ("shale/api.ErrNumber", laid_shale_api_ErrNumber), ("shale/api.ErrZero", laid_shale_api_ErrZero), ("shale/api.ErrLong", laid_shale_api_ErrLong), ("shale/api.ErrCode", laid_shale_api_ErrCode), ("shale/api.ErrMany", laid_shale_api_ErrMany)] }
def DecodeNearSaid : Prop := decodeNearRow.holds Tryz.pinned (OpenSpec.ofChange decodeNearSpec)

/-- ITS FALSE NEIGHBOUR: 'it returns false'. Refute it at one input. -/
def decodeNearWrong : ChangeSpec := { name := "decodeNear", fn := fun _ => fun
  | [d1, d2, d3, d4, d5, d6] => { results := [.lit (.bool false)], args := [d1, d2, d3, d4, d5, d6] }
  | _ => none }
def DecodeNearWrongFalsely : Prop := decodeNearRow.holds Tryz.pinned (OpenSpec.ofChange decodeNearWrong)

/-- 'shalelaw10.DecodeTwice': WHATEVER THE INPUT: true; the input reads as it did. -/
def decodeTwiceSpec : ChangeSpec := { name := "decodeTwice", fn := fun _ => fun
  | [d1, d2, d3, d4, d5] => { results := [.lit (.bool true)], args := [d1, d2, d3, d4, d5] }
  | _ => none }
def decodeTwiceRow : OpenClaim := { program := "ytfjogcklhibboaagreatdoor", sum := "59c6eccf1927f9f8421c2d6c676ede65ee36cb5627a19b839699f0785d439069", func := "shale/shalelaw10.DecodeTwice", spec := "decodeTwice", unfollowed := true, recurses := true, named := ["shale/api.ErrMany", "shale/api.ErrLong", "shale/api.ErrCode", "shale/api.ErrField", "shale/api.ErrNumber", "shale/api.ErrZero"], apart := false, laid := [("shale/api.ErrField", laid_shale_api_ErrField), ("shale/api.ErrNumber", laid_shale_api_ErrNumber), ("shale/api.ErrZero", laid_shale_api_ErrZero), ("shale/api.ErrLong", laid_shale_api_ErrLong), ("shale/api.ErrCode", laid_shale_api_ErrCode), ("shale/api.ErrMany", laid_shale_api_ErrMany)] }
def DecodeTwiceSaid : Prop := decodeTwiceRow.holds Tryz.pinned (OpenSpec.ofChange decodeTwiceSpec)

/-- ITS FALSE NEIGHBOUR: 'it returns false'. Refute it at one input. -/
def decodeTwiceWrong : ChangeSpec := { name := "decodeTwice", fn := fun _ => fun
  | [d1, d2, d3, d4, d5] => { results := [.lit (.bool false)], args := [d1, d2, d3, d4, d5] }
  | _ => none }
def DecodeTwiceWrongFalsely : Prop := decodeTwiceRow.holds Tryz.pinned (OpenSpec.ofChange decodeTwiceWrong)

/- THE SECOND FORM. 'bulk': how many values and letters a reading holds, each counted each time it is reached (what is shared counts as often as it is met; a slice's spare places count too). A statement '..UptoSaid' is the law's where the arguments, and the package variables that the reading takes, are together of bulk at most 1048576: NARROWER than '..Said'. Prove '..Said' where nothing that the law and all that it calls make is longer than what came in: it says more and counts as full. Else prove '..UptoSaid'. A law counts once. -/
mutual
def uptoBulk {H : Type} : DataW H → Nat
  | .lit (.string bytes) => bytes.length + 1
  | .lit _ => 1
  | .nil => 1
  | .ptr d => uptoBulk d + 1
  | .slice elems spare => uptoBulkAll elems + uptoBulkAll spare + 1
  | .agg parts => uptoBulkAll parts + 1
  | .iface _ d => uptoBulk d + 1
  | .map entries => uptoBulkEntries entries + 1
  | .held _ => 1
def uptoBulkAll {H : Type} : List (DataW H) → Nat
  | [] => 0
  | d :: r => uptoBulk d + uptoBulkAll r
def uptoBulkEntries {H : Type} : List (Lit × DataW H) → Nat
  | [] => 0
  | x :: r => uptoBulkEntry x + uptoBulkEntries r
def uptoBulkEntry {H : Type} : Lit × DataW H → Nat
  | (.string bytes, d) => bytes.length + uptoBulk d + 1
  | (_, d) => uptoBulk d + 1
 end
def uptoSmall : (H : Type) → List (DataW H) → Bool := fun _ ds => decide (uptoBulkAll ds ≤ 1048576)
def OpenSpec.upto (s : _root_.Go.ChangeSpec) : _root_.Go.OpenSpec := { _root_.Go.OpenSpec.ofChange s with cond := some uptoSmall }

/-- 'shalelaw10.DecodeSpare', WHERE WHAT IT READS IS OF BULK AT MOST 1048576: true; the input reads as it did. -/
def decodeSpareUptoRow : OpenClaim := { program := "ytfjogcklhibboaagreatdoor", sum := "59c6eccf1927f9f8421c2d6c676ede65ee36cb5627a19b839699f0785d439069", func := "shale/shalelaw10.DecodeSpare", spec := "decodeSpare", unfollowed := true, recurses := true, named := ["shale/api.ErrLong", "shale/api.ErrCode", "shale/api.ErrField", "shale/api.ErrNumber", "shale/api.ErrMany", "shale/api.ErrZero"], apart := false, laid := [("shale/api.ErrField", laid_shale_api_ErrField), ("shale/api.ErrNumber", laid_shale_api_ErrNumber), ("shale/api.ErrZero", laid_shale_api_ErrZero), ("shale/api.ErrLong", laid_shale_api_ErrLong), ("shale/api.ErrCode", laid_shale_api_ErrCode), ("shale/api.ErrMany", laid_shale_api_ErrMany)], narrowed := true }
def DecodeSpareUptoSaid : Prop := decodeSpareUptoRow.holds Tryz.pinned (OpenSpec.upto decodeSpareSpec)

/-- 'shalelaw10.DecodeSays', WHERE WHAT IT READS IS OF BULK AT MOST 1048576: true; the input reads as it did. -/
def decodeSaysUptoRow : OpenClaim := { program := "ytfjogcklhibboaagreatdoor", sum := "59c6eccf1927f9f8421c2d6c676ede65ee36cb5627a19b839699f0785d439069", func := "shale/shalelaw10.DecodeSays", spec := "decodeSays", unfollowed := true, recurses := true, named := ["shale/api.ErrLong", "shale/api.ErrCode", "shale/api.ErrField", "shale/api.ErrNumber", "shale/api.ErrMany", "shale/api.ErrZero", "shale/api.ErrRecord", "shale/api.ErrGeometry", "shale/api.ErrDead", "shale/api.ErrOrder", "shale/api.ErrFailed", "shale/api.ErrBad", "shale/api.ErrPage", "shale/api.ErrFull", "shale/api.ErrGone", "shale/api.ErrSize", "shale/api.ErrReadOnly", "shale/api.ErrStep", "shale/api.ErrMount"], apart := false, laid := [("shale/api.ErrField", laid_shale_api_ErrField), ("shale/api.ErrNumber", laid_shale_api_ErrNumber), ("shale/api.ErrZero", laid_shale_api_ErrZero), ("shale/api.ErrLong", laid_shale_api_ErrLong), ("shale/api.ErrCode", laid_shale_api_ErrCode), ("shale/api.ErrMany", laid_shale_api_ErrMany), ("shale/api.ErrRecord", laid_shale_api_ErrRecord), ("shale/api.ErrGeometry", laid_shale_api_ErrGeometry), ("shale/api.ErrDead", laid_shale_api_ErrDead), ("shale/api.ErrOrder", laid_shale_api_ErrOrder), ("shale/api.ErrFailed", laid_shale_api_ErrFailed), ("shale/api.ErrBad", laid_shale_api_ErrBad), ("shale/api.ErrPage", laid_shale_api_ErrPage), ("shale/api.ErrFull", laid_shale_api_ErrFull), ("shale/api.ErrGone", laid_shale_api_ErrGone), ("shale/api.ErrSize", laid_shale_api_ErrSize), ("shale/api.ErrReadOnly", laid_shale_api_ErrReadOnly), ("shale/api.ErrStep", laid_shale_api_ErrStep), ("shale/api.ErrMount", laid_shale_api_ErrMount)], narrowed := true }
def DecodeSaysUptoSaid : Prop := decodeSaysUptoRow.holds Tryz.pinned (OpenSpec.upto decodeSaysSpec)

/-- 'shalelaw10.DecodeMends', WHERE WHAT IT READS IS OF BULK AT MOST 1048576: true; the input reads as it did. -/
def decodeMendsUptoRow : OpenClaim := { program := "ytfjogcklhibboaagreatdoor", sum := "59c6eccf1927f9f8421c2d6c676ede65ee36cb5627a19b839699f0785d439069", func := "shale/shalelaw10.DecodeMends", spec := "decodeMends", unfollowed := true, recurses := true, named := ["shale/api.ErrLong", "shale/api.ErrCode", "shale/api.ErrField", "shale/api.ErrNumber", "shale/api.ErrMany", "shale/api.ErrZero"], apart := false, laid := [("shale/api.ErrField", laid_shale_api_ErrField), ("shale/api.ErrNumber", laid_shale_api_ErrNumber), ("shale/api.ErrZero", laid_shale_api_ErrZero), ("shale/api.ErrLong", laid_shale_api_ErrLong), ("shale/api.ErrCode", laid_shale_api_ErrCode), ("shale/api.ErrMany", laid_shale_api_ErrMany)], narrowed := true }
def DecodeMendsUptoSaid : Prop := decodeMendsUptoRow.holds Tryz.pinned (OpenSpec.upto decodeMendsSpec)

/-- 'shalelaw10.DecodeAll', WHERE WHAT IT READS IS OF BULK AT MOST 1048576: true; the input reads as it did. -/
def decodeAllUptoRow : OpenClaim := { program := "ytfjogcklhibboaagreatdoor", sum := "59c6eccf1927f9f8421c2d6c676ede65ee36cb5627a19b839699f0785d439069", func := "shale/shalelaw10.DecodeAll", spec := "decodeAll", unfollowed := true, recurses := true, named := ["shale/api.ErrLong", "shale/api.ErrCode", "shale/api.ErrField", "shale/api.ErrNumber", "shale/api.ErrMany", "shale/api.ErrZero"], apart := false, laid := [("shale/api.ErrField", laid_shale_api_ErrField), ("shale/api.ErrNumber", laid_shale_api_ErrNumber), ("shale/api.ErrZero", laid_shale_api_ErrZero), ("shale/api.ErrLong", laid_shale_api_ErrLong), ("shale/api.ErrCode", laid_shale_api_ErrCode), ("shale/api.ErrMany", laid_shale_api_ErrMany)], narrowed := true }
def DecodeAllUptoSaid : Prop := decodeAllUptoRow.holds Tryz.pinned (OpenSpec.upto decodeAllSpec)

/-- 'shalelaw10.DecodeNear', WHERE WHAT IT READS IS OF BULK AT MOST 1048576: true; the input reads as it did. -/
def decodeNearUptoRow : OpenClaim := { program := "ytfjogcklhibboaagreatdoor", sum := "59c6eccf1927f9f8421c2d6c676ede65ee36cb5627a19b839699f0785d439069", func := "shale/shalelaw10.DecodeNear", spec := "decodeNear", unfollowed := true, recurses := true, named := ["shale/api.ErrMany", "shale/api.ErrLong", "shale/api.ErrCode", "shale/api.ErrField", "shale/api.ErrNumber", "shale/api.ErrZero"], apart := false, laid := [("shale/api.ErrField", laid_shale_api_ErrField), ("shale/api.ErrNumber", laid_shale_api_ErrNumber), ("shale/api.ErrZero", laid_shale_api_ErrZero), ("shale/api.ErrLong", laid_shale_api_ErrLong), ("shale/api.ErrCode", laid_shale_api_ErrCode), ("shale/api.ErrMany", laid_shale_api_ErrMany)], narrowed := true }
def DecodeNearUptoSaid : Prop := decodeNearUptoRow.holds Tryz.pinned (OpenSpec.upto decodeNearSpec)

/-- 'shalelaw10.DecodeTwice', WHERE WHAT IT READS IS OF BULK AT MOST 1048576: true; the input reads as it did. -/
def decodeTwiceUptoRow : OpenClaim := { program := "ytfjogcklhibboaagreatdoor", sum := "59c6eccf1927f9f8421c2d6c676ede65ee36cb5627a19b839699f0785d439069", func := "shale/shalelaw10.DecodeTwice", spec := "decodeTwice", unfollowed := true, recurses := true, named := ["shale/api.ErrMany", "shale/api.ErrLong", "shale/api.ErrCode", "shale/api.ErrField", "shale/api.ErrNumber", "shale/api.ErrZero"], apart := false, laid := [("shale/api.ErrField", laid_shale_api_ErrField), ("shale/api.ErrNumber", laid_shale_api_ErrNumber), ("shale/api.ErrZero", laid_shale_api_ErrZero), ("shale/api.ErrLong", laid_shale_api_ErrLong), ("shale/api.ErrCode", laid_shale_api_ErrCode), ("shale/api.ErrMany", laid_shale_api_ErrMany)], narrowed := true }
def DecodeTwiceUptoSaid : Prop := decodeTwiceUptoRow.holds Tryz.pinned (OpenSpec.upto decodeTwiceSpec)

end Rows
end Go.Proofs.YtfjogcklhibboaaGreatDoor
