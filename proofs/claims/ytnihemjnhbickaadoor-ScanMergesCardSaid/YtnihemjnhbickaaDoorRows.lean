/-
  NARROWER THAN 'FOR EVERY INPUT', by the rows' own cells (each row's printed sentence says how): ScanAlive: laid · ScanOlder: laid · ScanCommits: laid · ScanHeads: laid · ScanMerges: laid.
  DERIVED. THE GIVEN ROWS OF THIS SEAT. 5 by the template 'for every input the law returns true; each argument reads behind the call as it read before'; 0 by the template 'total and deterministic' (their statements: YtnihemjnhbickaaDoorTotals.lean).
  GIVEN WITH THE SEED: the statements are not yours to turn. If you find one false, say at which input.
  Laid BY PROGRAM, IN A SANDBOX (cutbox-rows.mjs): the forced cells as the released guide's own fill.sh prints them over the translation 98cf69510a49ab12… (all of the seat's roots in one cut). By AI agents, Wed Nov 11 2026. No macro, syntax, notation, axiom, sorry.
-/
import Derived.Test.YtnihemjnhbickaaDoorChecked
import GoSem.Claim
import GoSem.ClaimJoined
import GoSem.ClaimMapViews
import Derived.JoinedTies
import Derived.KernelRfl
namespace Go.Proofs.YtnihemjnhbickaaDoor
/- THE CELL 'sum', in the pinned program and in every row, IS THE sha256 OF THE DUMP (.gsa) THAT YtnihemjnhbickaaDoorProg.lean LOADS. Nothing in Lean hashes anything: it is a label: what it is worth is what the hold of that sum in a sandbox is worth. -/
noncomputable def Tryd.pinned : Pinned := { name := "ytnihemjnhbickaadoor", sum := "98cf69510a49ab127db65a370506a13d2843ca6909d4cfeb87061587ccc656eb", checked := Tryd.checked }
namespace Rows
def none {H : Type} : Left H := { results := [], args := [] }

/- WHAT THE LISTED PACKAGE-LEVEL VARIABLES READ AS WHEN THE CALL BEGINS. Each datum BY PROGRAM (the guide's laid-datum.mjs) off the statement by which the dump's own 'gosem.cut.vars' lays the variable. In a bare row this is a premise. The card (YtnihemjnhbickaaDoorCards.lean) ties it to the program's text. -/
def laid_shale_api_ErrGeometry {H : Type} : DataW H := .iface "*errors.errorString" (.ptr (.agg [.lit (.string [110, 111, 32, 115, 117, 99, 104, 32, 99, 104, 105, 112])]))
def laid_shale_api_ErrOrder {H : Type} : DataW H := .iface "*errors.errorString" (.ptr (.agg [.lit (.string [105, 116, 32, 100, 111, 101, 115, 32, 110, 111, 116, 32, 99, 111, 109, 101, 32, 104, 101, 114, 101])]))

/-- 'shalelaw22.ScanAlive': WHATEVER THE INPUT: true; the input reads as it did. -/
def scanAliveSpec : ChangeSpec := { name := "scanAlive", fn := fun _ => fun
  | [d1, d2, d3, d4] => { results := [.lit (.bool true)], args := [d1, d2, d3, d4] }
  | _ => none }
def scanAliveRow : OpenClaim := { program := "ytnihemjnhbickaadoor", sum := "98cf69510a49ab127db65a370506a13d2843ca6909d4cfeb87061587ccc656eb", func := "shale/shalelaw22.ScanAlive", spec := "scanAlive", unfollowed := true, recurses := true, named := ["shale/api.ErrOrder", "shale/api.ErrGeometry"], apart := false, laid := [("shale/api.ErrGeometry", laid_shale_api_ErrGeometry), ("shale/api.ErrOrder", laid_shale_api_ErrOrder)] }
def ScanAliveSaid : Prop := scanAliveRow.holds Tryd.pinned (OpenSpec.ofChange scanAliveSpec)

/-- ITS FALSE NEIGHBOUR: 'it returns false'. Refute it at one input. -/
def scanAliveWrong : ChangeSpec := { name := "scanAlive", fn := fun _ => fun
  | [d1, d2, d3, d4] => { results := [.lit (.bool false)], args := [d1, d2, d3, d4] }
  | _ => none }
def ScanAliveWrongFalsely : Prop := scanAliveRow.holds Tryd.pinned (OpenSpec.ofChange scanAliveWrong)

/-- 'shalelaw22.ScanOlder': WHATEVER THE INPUT: true; the input reads as it did. -/
def scanOlderSpec : ChangeSpec := { name := "scanOlder", fn := fun _ => fun
  | [d1, d2, d3] => { results := [.lit (.bool true)], args := [d1, d2, d3] }
  | _ => none }
def scanOlderRow : OpenClaim := { program := "ytnihemjnhbickaadoor", sum := "98cf69510a49ab127db65a370506a13d2843ca6909d4cfeb87061587ccc656eb", func := "shale/shalelaw22.ScanOlder", spec := "scanOlder", unfollowed := true, recurses := true, named := ["shale/api.ErrGeometry", "shale/api.ErrOrder"], apart := false, laid := [("shale/api.ErrGeometry", laid_shale_api_ErrGeometry), ("shale/api.ErrOrder", laid_shale_api_ErrOrder)] }
def ScanOlderSaid : Prop := scanOlderRow.holds Tryd.pinned (OpenSpec.ofChange scanOlderSpec)

/-- ITS FALSE NEIGHBOUR: 'it returns false'. Refute it at one input. -/
def scanOlderWrong : ChangeSpec := { name := "scanOlder", fn := fun _ => fun
  | [d1, d2, d3] => { results := [.lit (.bool false)], args := [d1, d2, d3] }
  | _ => none }
def ScanOlderWrongFalsely : Prop := scanOlderRow.holds Tryd.pinned (OpenSpec.ofChange scanOlderWrong)

/-- 'shalelaw22.ScanCommits': WHATEVER THE INPUT: true; the input reads as it did. -/
def scanCommitsSpec : ChangeSpec := { name := "scanCommits", fn := fun _ => fun
  | [d1, d2, d3, d4] => { results := [.lit (.bool true)], args := [d1, d2, d3, d4] }
  | _ => none }
def scanCommitsRow : OpenClaim := { program := "ytnihemjnhbickaadoor", sum := "98cf69510a49ab127db65a370506a13d2843ca6909d4cfeb87061587ccc656eb", func := "shale/shalelaw22.ScanCommits", spec := "scanCommits", unfollowed := true, recurses := true, named := ["shale/api.ErrGeometry", "shale/api.ErrOrder"], apart := false, laid := [("shale/api.ErrGeometry", laid_shale_api_ErrGeometry), ("shale/api.ErrOrder", laid_shale_api_ErrOrder)] }
def ScanCommitsSaid : Prop := scanCommitsRow.holds Tryd.pinned (OpenSpec.ofChange scanCommitsSpec)

/-- ITS FALSE NEIGHBOUR: 'it returns false'. Refute it at one input. -/
def scanCommitsWrong : ChangeSpec := { name := "scanCommits", fn := fun _ => fun
  | [d1, d2, d3, d4] => { results := [.lit (.bool false)], args := [d1, d2, d3, d4] }
  | _ => none }
def ScanCommitsWrongFalsely : Prop := scanCommitsRow.holds Tryd.pinned (OpenSpec.ofChange scanCommitsWrong)

/-- 'shalelaw22.ScanHeads': WHATEVER THE INPUT: true; the input reads as it did. -/
def scanHeadsSpec : ChangeSpec := { name := "scanHeads", fn := fun _ => fun
  | [d1, d2, d3] => { results := [.lit (.bool true)], args := [d1, d2, d3] }
  | _ => none }
def scanHeadsRow : OpenClaim := { program := "ytnihemjnhbickaadoor", sum := "98cf69510a49ab127db65a370506a13d2843ca6909d4cfeb87061587ccc656eb", func := "shale/shalelaw22.ScanHeads", spec := "scanHeads", unfollowed := true, recurses := true, named := ["shale/api.ErrGeometry", "shale/api.ErrOrder"], apart := false, laid := [("shale/api.ErrGeometry", laid_shale_api_ErrGeometry), ("shale/api.ErrOrder", laid_shale_api_ErrOrder)] }
def ScanHeadsSaid : Prop := scanHeadsRow.holds Tryd.pinned (OpenSpec.ofChange scanHeadsSpec)

/-- ITS FALSE NEIGHBOUR: 'it returns false'. Refute it at one input. -/
def scanHeadsWrong : ChangeSpec := { name := "scanHeads", fn := fun _ => fun
  | [d1, d2, d3] => { results := [.lit (.bool false)], args := [d1, d2, d3] }
  | _ => none }
def ScanHeadsWrongFalsely : Prop := scanHeadsRow.holds Tryd.pinned (OpenSpec.ofChange scanHeadsWrong)

/-- 'shalelaw22.ScanMerges': WHATEVER THE INPUT: true; the input reads as it did. -/
def scanMergesSpec : ChangeSpec := { name := "scanMerges", fn := fun _ => fun
  | [d1, d2] => { results := [.lit (.bool true)], args := [d1, d2] }
  | _ => none }
def scanMergesRow : OpenClaim := { program := "ytnihemjnhbickaadoor", sum := "98cf69510a49ab127db65a370506a13d2843ca6909d4cfeb87061587ccc656eb", func := "shale/shalelaw22.ScanMerges", spec := "scanMerges", unfollowed := true, recurses := true, named := ["shale/api.ErrGeometry", "shale/api.ErrOrder"], apart := false, laid := [("shale/api.ErrGeometry", laid_shale_api_ErrGeometry), ("shale/api.ErrOrder", laid_shale_api_ErrOrder)] }
def ScanMergesSaid : Prop := scanMergesRow.holds Tryd.pinned (OpenSpec.ofChange scanMergesSpec)

/-- ITS FALSE NEIGHBOUR: 'it returns false'. Refute it at one input. -/
def scanMergesWrong : ChangeSpec := { name := "scanMerges", fn := fun _ => fun
  | [d1, d2] => { results := [.lit (.bool false)], args := [d1, d2] }
  | _ => none }
def ScanMergesWrongFalsely : Prop := scanMergesRow.holds Tryd.pinned (OpenSpec.ofChange scanMergesWrong)

/- THE SECOND FORM. 'bulk': how many values and letters a reading holds, each counted each time it is reached (what is shared counts as often as it is met; a slice's spare places count too). A statement '..UptoSaid' is the law's where the arguments, and the package variables that the reading takes, are together of bulk at most 1048576: NARROWER than '..Said'. Prove '..Said' where nothing that the law and all that it calls make is longer than what came in: it says more and counts as full. Else prove '..UptoSaid'. A law counts once. -/
mutual
def uptoBulk {H : Type} : DataW H → Nat
  | .lit (.string bytes) => bytes.length + 1
  | .lit _ => 1
  | .nil => 1
  | .ptr d => uptoBulk d + 1
  | .slice elems spare => uptoBulkAll elems + uptoBulkAll spare + 1
  | .agg parts => uptoBulkAll parts + 1
  | .iface _ d => uptoBulk d + 1
  | .map entries => uptoBulkEntries entries + 1
  | .held _ => 1
def uptoBulkAll {H : Type} : List (DataW H) → Nat
  | [] => 0
  | d :: r => uptoBulk d + uptoBulkAll r
def uptoBulkEntries {H : Type} : List (Lit × DataW H) → Nat
  | [] => 0
  | x :: r => uptoBulkEntry x + uptoBulkEntries r
def uptoBulkEntry {H : Type} : Lit × DataW H → Nat
  | (.string bytes, d) => bytes.length + uptoBulk d + 1
  | (_, d) => uptoBulk d + 1
 end
def uptoSmall : (H : Type) → List (DataW H) → Bool := fun _ ds => decide (uptoBulkAll ds ≤ 1048576)
def OpenSpec.upto (s : _root_.Go.ChangeSpec) : _root_.Go.OpenSpec := { _root_.Go.OpenSpec.ofChange s with cond := some uptoSmall }

/-- 'shalelaw22.ScanAlive', WHERE WHAT IT READS IS OF BULK AT MOST 1048576: true; the input reads as it did. -/
def scanAliveUptoRow : OpenClaim := { program := "ytnihemjnhbickaadoor", sum := "98cf69510a49ab127db65a370506a13d2843ca6909d4cfeb87061587ccc656eb", func := "shale/shalelaw22.ScanAlive", spec := "scanAlive", unfollowed := true, recurses := true, named := ["shale/api.ErrOrder", "shale/api.ErrGeometry"], apart := false, laid := [("shale/api.ErrGeometry", laid_shale_api_ErrGeometry), ("shale/api.ErrOrder", laid_shale_api_ErrOrder)], narrowed := true }
def ScanAliveUptoSaid : Prop := scanAliveUptoRow.holds Tryd.pinned (OpenSpec.upto scanAliveSpec)

/-- 'shalelaw22.ScanOlder', WHERE WHAT IT READS IS OF BULK AT MOST 1048576: true; the input reads as it did. -/
def scanOlderUptoRow : OpenClaim := { program := "ytnihemjnhbickaadoor", sum := "98cf69510a49ab127db65a370506a13d2843ca6909d4cfeb87061587ccc656eb", func := "shale/shalelaw22.ScanOlder", spec := "scanOlder", unfollowed := true, recurses := true, named := ["shale/api.ErrGeometry", "shale/api.ErrOrder"], apart := false, laid := [("shale/api.ErrGeometry", laid_shale_api_ErrGeometry), ("shale/api.ErrOrder", laid_shale_api_ErrOrder)], narrowed := true }
def ScanOlderUptoSaid : Prop := scanOlderUptoRow.holds Tryd.pinned (OpenSpec.upto scanOlderSpec)

/-- 'shalelaw22.ScanCommits', WHERE WHAT IT READS IS OF BULK AT MOST 1048576: true; the input reads as it did. -/
def scanCommitsUptoRow : OpenClaim := { program := "ytnihemjnhbickaadoor", sum := "98cf69510a49ab127db65a370506a13d2843ca6909d4cfeb87061587ccc656eb", func := "shale/shalelaw22.ScanCommits", spec := "scanCommits", unfollowed := true, recurses := true, named := ["shale/api.ErrGeometry", "shale/api.ErrOrder"], apart := false, laid := [("shale/api.ErrGeometry", laid_shale_api_ErrGeometry), ("shale/api.ErrOrder", laid_shale_api_ErrOrder)], narrowed := true }
def ScanCommitsUptoSaid : Prop := scanCommitsUptoRow.holds Tryd.pinned (OpenSpec.upto scanCommitsSpec)

/-- 'shalelaw22.ScanHeads', WHERE WHAT IT READS IS OF BULK AT MOST 1048576: true; the input reads as it did. -/
def scanHeadsUptoRow : OpenClaim := { program := "ytnihemjnhbickaadoor", sum := "98cf69510a49ab127db65a370506a13d2843ca6909d4cfeb87061587ccc656eb", func := "shale/shalelaw22.ScanHeads", spec := "scanHeads", unfollowed := true, recurses := true, named := ["shale/api.ErrGeometry", "shale/api.ErrOrder"], apart := false, laid := [("shale/api.ErrGeometry", laid_shale_api_ErrGeometry), ("shale/api.ErrOrder", laid_shale_api_ErrOrder)], narrowed := true }
def ScanHeadsUptoSaid : Prop := scanHeadsUptoRow.holds Tryd.pinned (OpenSpec.upto scanHeadsSpec)

/-- 'shalelaw22.ScanMerges', WHERE WHAT IT READS IS OF BULK AT MOST 1048576: true; the input reads as it did. -/
def scanMergesUptoRow : OpenClaim := { program := "ytnihemjnhbickaadoor", sum := "98cf69510a49ab127db65a370506a13d2843ca6909d4cfeb87061587ccc656eb", func := "shale/shalelaw22.ScanMerges", spec := "scanMerges", unfollowed := true, recurses := true, named := ["shale/api.ErrGeometry", "shale/api.ErrOrder"], apart := false, laid := [("shale/api.ErrGeometry", laid_shale_api_ErrGeometry), ("shale/api.ErrOrder", laid_shale_api_ErrOrder)], narrowed := true }
def ScanMergesUptoSaid : Prop := scanMergesUptoRow.holds Tryd.pinned (OpenSpec.upto scanMergesSpec)

end Rows
end Go.Proofs.YtnihemjnhbickaaDoor
