/-
  NARROWER THAN 'FOR EVERY INPUT', by the rows' own cells (each row's printed sentence says how): RegionPoint: laid · RegionChecks: laid · RegionWitness: laid · RegionKeeps: laid · RegionMeetMeans: laid · RegionMinusMeans: laid.
  DERIVED. THE GIVEN ROWS OF THIS SEAT. 6 by the template 'for every input the law returns true; each argument reads behind the call as it read before'; 0 by the template 'total and deterministic' (their statements: YtcmfkmhmehhkpaaDoorTotals.lean).
  GIVEN WITH THE SEED: the statements are not yours to turn. If you find one false, say at which input.
  Laid BY PROGRAM, IN A SANDBOX (cutbox-rows.mjs): the forced cells as the released guide's own fill.sh prints them over the translation b83a1cc732779094… (all of the seat's roots in one cut). By AI agents, Wed Nov 11 2026. No macro, syntax, notation, axiom, sorry.
-/
import Derived.Test.YtcmfkmhmehhkpaaDoorChecked
import GoSem.PinnedTables
import GoSem.Claim
import GoSem.ClaimJoined
import GoSem.ClaimMapViews
import Derived.JoinedTies
import Derived.KernelRfl
namespace Go.Proofs.YtcmfkmhmehhkpaaDoor
/- THE CELL 'sum', in the pinned program and in every row, IS THE sha256 OF THE DUMP (.gsa) THAT YtcmfkmhmehhkpaaDoorProg.lean LOADS. Nothing in Lean hashes anything: it is a label: what it is worth is what the hold of that sum in a sandbox is worth. -/
noncomputable def Tryd.pinned : Pinned := { name := "ytcmfkmhmehhkpaadoor", sum := "b83a1cc7327790940c8a2e652d0d60aa4ba8efb9fd3ebece408fdd9c3b759905", checked := Tryd.checked }
namespace Rows
def none {H : Type} : Left H := { results := [], args := [] }

/- WHAT THE LISTED PACKAGE-LEVEL VARIABLES READ AS WHEN THE CALL BEGINS. Each datum BY PROGRAM (the guide's laid-datum.mjs) off the statement by which the dump's own 'gosem.cut.vars' lays the variable. In a bare row this is a premise. The card (YtcmfkmhmehhkpaaDoorCards.lean) ties it to the program's text. -/
def laid_unicode_utf8_acceptRanges {H : Type} : DataW H := .agg [.agg [.lit (.int .u8 128), .lit (.int .u8 191)], .agg [.lit (.int .u8 160), .lit (.int .u8 191)], .agg [.lit (.int .u8 128), .lit (.int .u8 159)], .agg [.lit (.int .u8 144), .lit (.int .u8 191)], .agg [.lit (.int .u8 128), .lit (.int .u8 143)], .agg [.lit (.int .u8 0), .lit (.int .u8 0)], .agg [.lit (.int .u8 0), .lit (.int .u8 0)], .agg [.lit (.int .u8 0), .lit (.int .u8 0)], .agg [.lit (.int .u8 0), .lit (.int .u8 0)], .agg [.lit (.int .u8 0), .lit (.int .u8 0)], .agg [.lit (.int .u8 0), .lit (.int .u8 0)], .agg [.lit (.int .u8 0), .lit (.int .u8 0)], .agg [.lit (.int .u8 0), .lit (.int .u8 0)], .agg [.lit (.int .u8 0), .lit (.int .u8 0)], .agg [.lit (.int .u8 0), .lit (.int .u8 0)], .agg [.lit (.int .u8 0), .lit (.int .u8 0)]]
/-- One of Go's own tables, pinned by name: the form's constant. -/
def laid_unicode_utf8_first : DataW Unit := Go.Pinned.utf8First

/-- 'stockyardlaw05.RegionPoint': WHATEVER THE INPUT: true; the input reads as it did. -/
def regionPointSpec : ChangeSpec := { name := "regionPoint", fn := fun _ => fun
  | [d1, d2] => { results := [.lit (.bool true)], args := [d1, d2] }
  | _ => none }
def regionPointRow : OpenClaim := { program := "ytcmfkmhmehhkpaadoor", sum := "b83a1cc7327790940c8a2e652d0d60aa4ba8efb9fd3ebece408fdd9c3b759905", func := "stockyard/stockyardlaw05.RegionPoint", spec := "regionPoint", inPlace := ["internal/bytealg.CountString", "internal/bytealg.IndexByteString", "internal/bytealg.IndexString", "internal/abi.NoEscape", "internal/bytealg.MakeNoZero"], unfollowed := true, recurses := true, named := ["unicode/utf8.first", "unicode/utf8.acceptRanges", "internal/bytealg.MaxLen"], apart := false, laid := [("unicode/utf8.acceptRanges", laid_unicode_utf8_acceptRanges), ("unicode/utf8.first", laid_unicode_utf8_first)] }
def RegionPointSaid : Prop := regionPointRow.holds Tryd.pinned (OpenSpec.ofChange regionPointSpec)

/-- ITS FALSE NEIGHBOUR: 'it returns false'. Refute it at one input. -/
def regionPointWrong : ChangeSpec := { name := "regionPoint", fn := fun _ => fun
  | [d1, d2] => { results := [.lit (.bool false)], args := [d1, d2] }
  | _ => none }
def RegionPointWrongFalsely : Prop := regionPointRow.holds Tryd.pinned (OpenSpec.ofChange regionPointWrong)

/-- 'stockyardlaw05.RegionChecks': WHATEVER THE INPUT: true; the input reads as it did. -/
def regionChecksSpec : ChangeSpec := { name := "regionChecks", fn := fun _ => fun
  | [d1, d2] => { results := [.lit (.bool true)], args := [d1, d2] }
  | _ => none }
def regionChecksRow : OpenClaim := { program := "ytcmfkmhmehhkpaadoor", sum := "b83a1cc7327790940c8a2e652d0d60aa4ba8efb9fd3ebece408fdd9c3b759905", func := "stockyard/stockyardlaw05.RegionChecks", spec := "regionChecks", inPlace := ["internal/abi.NoEscape", "internal/bytealg.MakeNoZero", "internal/bytealg.IndexByteString", "internal/bytealg.CountString", "internal/bytealg.IndexString"], unfollowed := true, recurses := true, named := ["unicode/utf8.first", "unicode/utf8.acceptRanges", "internal/bytealg.MaxLen"], apart := false, laid := [("unicode/utf8.acceptRanges", laid_unicode_utf8_acceptRanges), ("unicode/utf8.first", laid_unicode_utf8_first)] }
def RegionChecksSaid : Prop := regionChecksRow.holds Tryd.pinned (OpenSpec.ofChange regionChecksSpec)

/-- ITS FALSE NEIGHBOUR: 'it returns false'. Refute it at one input. -/
def regionChecksWrong : ChangeSpec := { name := "regionChecks", fn := fun _ => fun
  | [d1, d2] => { results := [.lit (.bool false)], args := [d1, d2] }
  | _ => none }
def RegionChecksWrongFalsely : Prop := regionChecksRow.holds Tryd.pinned (OpenSpec.ofChange regionChecksWrong)

/-- 'stockyardlaw05.RegionWitness': WHATEVER THE INPUT: true; the input reads as it did. -/
def regionWitnessSpec : ChangeSpec := { name := "regionWitness", fn := fun _ => fun
  | [d1, d2] => { results := [.lit (.bool true)], args := [d1, d2] }
  | _ => none }
def regionWitnessRow : OpenClaim := { program := "ytcmfkmhmehhkpaadoor", sum := "b83a1cc7327790940c8a2e652d0d60aa4ba8efb9fd3ebece408fdd9c3b759905", func := "stockyard/stockyardlaw05.RegionWitness", spec := "regionWitness", inPlace := ["internal/abi.NoEscape", "internal/bytealg.MakeNoZero", "internal/bytealg.CountString", "internal/bytealg.IndexByteString", "internal/bytealg.IndexString", "internal/bytealg.abigen_runtime_cmpstring"], unfollowed := true, recurses := true, named := ["unicode/utf8.first", "unicode/utf8.acceptRanges", "internal/bytealg.MaxLen"], apart := false, laid := [("unicode/utf8.acceptRanges", laid_unicode_utf8_acceptRanges), ("unicode/utf8.first", laid_unicode_utf8_first)] }
def RegionWitnessSaid : Prop := regionWitnessRow.holds Tryd.pinned (OpenSpec.ofChange regionWitnessSpec)

/-- ITS FALSE NEIGHBOUR: 'it returns false'. Refute it at one input. -/
def regionWitnessWrong : ChangeSpec := { name := "regionWitness", fn := fun _ => fun
  | [d1, d2] => { results := [.lit (.bool false)], args := [d1, d2] }
  | _ => none }
def RegionWitnessWrongFalsely : Prop := regionWitnessRow.holds Tryd.pinned (OpenSpec.ofChange regionWitnessWrong)

/-- 'stockyardlaw05.RegionKeeps': WHATEVER THE INPUT: true; the input reads as it did. -/
def regionKeepsSpec : ChangeSpec := { name := "regionKeeps", fn := fun _ => fun
  | [d1, d2] => { results := [.lit (.bool true)], args := [d1, d2] }
  | _ => none }
def regionKeepsRow : OpenClaim := { program := "ytcmfkmhmehhkpaadoor", sum := "b83a1cc7327790940c8a2e652d0d60aa4ba8efb9fd3ebece408fdd9c3b759905", func := "stockyard/stockyardlaw05.RegionKeeps", spec := "regionKeeps", inPlace := ["internal/abi.NoEscape", "internal/bytealg.MakeNoZero", "internal/bytealg.abigen_runtime_cmpstring", "internal/bytealg.CountString", "internal/bytealg.IndexByteString", "internal/bytealg.IndexString"], unfollowed := true, recurses := true, named := ["unicode/utf8.first", "unicode/utf8.acceptRanges", "internal/bytealg.MaxLen"], apart := false, laid := [("unicode/utf8.acceptRanges", laid_unicode_utf8_acceptRanges), ("unicode/utf8.first", laid_unicode_utf8_first)] }
def RegionKeepsSaid : Prop := regionKeepsRow.holds Tryd.pinned (OpenSpec.ofChange regionKeepsSpec)

/-- ITS FALSE NEIGHBOUR: 'it returns false'. Refute it at one input. -/
def regionKeepsWrong : ChangeSpec := { name := "regionKeeps", fn := fun _ => fun
  | [d1, d2] => { results := [.lit (.bool false)], args := [d1, d2] }
  | _ => none }
def RegionKeepsWrongFalsely : Prop := regionKeepsRow.holds Tryd.pinned (OpenSpec.ofChange regionKeepsWrong)

/-- 'stockyardlaw05.RegionMeetMeans': WHATEVER THE INPUT: true; the input reads as it did. -/
def regionMeetMeansSpec : ChangeSpec := { name := "regionMeetMeans", fn := fun _ => fun
  | [d1, d2, d3] => { results := [.lit (.bool true)], args := [d1, d2, d3] }
  | _ => none }
def regionMeetMeansRow : OpenClaim := { program := "ytcmfkmhmehhkpaadoor", sum := "b83a1cc7327790940c8a2e652d0d60aa4ba8efb9fd3ebece408fdd9c3b759905", func := "stockyard/stockyardlaw05.RegionMeetMeans", spec := "regionMeetMeans", inPlace := ["internal/abi.NoEscape", "internal/bytealg.MakeNoZero", "internal/bytealg.abigen_runtime_cmpstring", "internal/bytealg.CountString", "internal/bytealg.IndexByteString", "internal/bytealg.IndexString"], unfollowed := true, recurses := true, named := ["unicode/utf8.first", "unicode/utf8.acceptRanges", "internal/bytealg.MaxLen"], apart := false, laid := [("unicode/utf8.acceptRanges", laid_unicode_utf8_acceptRanges), ("unicode/utf8.first", laid_unicode_utf8_first)] }
def RegionMeetMeansSaid : Prop := regionMeetMeansRow.holds Tryd.pinned (OpenSpec.ofChange regionMeetMeansSpec)

/-- ITS FALSE NEIGHBOUR: 'it returns false'. Refute it at one input. -/
def regionMeetMeansWrong : ChangeSpec := { name := "regionMeetMeans", fn := fun _ => fun
  | [d1, d2, d3] => { results := [.lit (.bool false)], args := [d1, d2, d3] }
  | _ => none }
def RegionMeetMeansWrongFalsely : Prop := regionMeetMeansRow.holds Tryd.pinned (OpenSpec.ofChange regionMeetMeansWrong)

/-- 'stockyardlaw05.RegionMinusMeans': WHATEVER THE INPUT: true; the input reads as it did. -/
def regionMinusMeansSpec : ChangeSpec := { name := "regionMinusMeans", fn := fun _ => fun
  | [d1, d2, d3] => { results := [.lit (.bool true)], args := [d1, d2, d3] }
  | _ => none }
def regionMinusMeansRow : OpenClaim := { program := "ytcmfkmhmehhkpaadoor", sum := "b83a1cc7327790940c8a2e652d0d60aa4ba8efb9fd3ebece408fdd9c3b759905", func := "stockyard/stockyardlaw05.RegionMinusMeans", spec := "regionMinusMeans", inPlace := ["internal/abi.NoEscape", "internal/bytealg.MakeNoZero", "internal/bytealg.abigen_runtime_cmpstring", "internal/bytealg.CountString", "internal/bytealg.IndexByteString", "internal/bytealg.IndexString"], unfollowed := true, recurses := true, named := ["unicode/utf8.first", "unicode/utf8.acceptRanges", "internal/bytealg.MaxLen"], apart := false, laid := [("unicode/utf8.acceptRanges", laid_unicode_utf8_acceptRanges), ("unicode/utf8.first", laid_unicode_utf8_first)] }
def RegionMinusMeansSaid : Prop := regionMinusMeansRow.holds Tryd.pinned (OpenSpec.ofChange regionMinusMeansSpec)

/-- ITS FALSE NEIGHBOUR: 'it returns false'. Refute it at one input. -/
def regionMinusMeansWrong : ChangeSpec := { name := "regionMinusMeans", fn := fun _ => fun
  | [d1, d2, d3] => { results := [.lit (.bool false)], args := [d1, d2, d3] }
  | _ => none }
def RegionMinusMeansWrongFalsely : Prop := regionMinusMeansRow.holds Tryd.pinned (OpenSpec.ofChange regionMinusMeansWrong)

/- THE SECOND FORM. 'bulk': how many values and letters a reading holds, each counted each time it is reached (what is shared counts as often as it is met; a slice's spare places count too). A statement '..UptoSaid' is the law's where the arguments, and the package variables that the reading takes, are together of bulk at most 1048576: NARROWER than '..Said'. Prove '..Said' where nothing that the law and all that it calls make is longer than what came in: it says more and counts as full. Else prove '..UptoSaid'. A law counts once. -/
mutual
def uptoBulk {H : Type} : DataW H → Nat
  | .lit (.string bytes) => bytes.length + 1
  | .lit _ => 1
  | .nil => 1
  | .ptr d => uptoBulk d + 1
  | .slice elems spare => uptoBulkAll elems + uptoBulkAll spare + 1
  | .agg parts => uptoBulkAll parts + 1
  | .iface _ d => uptoBulk d + 1
  | .map entries => uptoBulkEntries entries + 1
  | .held _ => 1
def uptoBulkAll {H : Type} : List (DataW H) → Nat
  | [] => 0
  | d :: r => uptoBulk d + uptoBulkAll r
def uptoBulkEntries {H : Type} : List (Lit × DataW H) → Nat
  | [] => 0
  | x :: r => uptoBulkEntry x + uptoBulkEntries r
def uptoBulkEntry {H : Type} : Lit × DataW H → Nat
  | (.string bytes, d) => bytes.length + uptoBulk d + 1
  | (_, d) => uptoBulk d + 1
 end
def uptoSmall : (H : Type) → List (DataW H) → Bool := fun _ ds => decide (uptoBulkAll ds ≤ 1048576)
def OpenSpec.upto (s : _root_.Go.ChangeSpec) : _root_.Go.OpenSpec := { _root_.Go.OpenSpec.ofChange s with cond := some uptoSmall }

/-- 'stockyardlaw05.RegionPoint', WHERE WHAT IT READS IS OF BULK AT MOST 1048576: true; the input reads as it did. -/
def regionPointUptoRow : OpenClaim := { program := "ytcmfkmhmehhkpaadoor", sum := "b83a1cc7327790940c8a2e652d0d60aa4ba8efb9fd3ebece408fdd9c3b759905", func := "stockyard/stockyardlaw05.RegionPoint", spec := "regionPoint", inPlace := ["internal/bytealg.CountString", "internal/bytealg.IndexByteString", "internal/bytealg.IndexString", "internal/abi.NoEscape", "internal/bytealg.MakeNoZero"], unfollowed := true, recurses := true, named := ["unicode/utf8.first", "unicode/utf8.acceptRanges", "internal/bytealg.MaxLen"], apart := false, laid := [("unicode/utf8.acceptRanges", laid_unicode_utf8_acceptRanges), ("unicode/utf8.first", laid_unicode_utf8_first)], narrowed := true }
def RegionPointUptoSaid : Prop := regionPointUptoRow.holds Tryd.pinned (OpenSpec.upto regionPointSpec)

/-- 'stockyardlaw05.RegionChecks', WHERE WHAT IT READS IS OF BULK AT MOST 1048576: true; the input reads as it did. -/
def regionChecksUptoRow : OpenClaim := { program := "ytcmfkmhmehhkpaadoor", sum := "b83a1cc7327790940c8a2e652d0d60aa4ba8efb9fd3ebece408fdd9c3b759905", func := "stockyard/stockyardlaw05.RegionChecks", spec := "regionChecks", inPlace := ["internal/abi.NoEscape", "internal/bytealg.MakeNoZero", "internal/bytealg.IndexByteString", "internal/bytealg.CountString", "internal/bytealg.IndexString"], unfollowed := true, recurses := true, named := ["unicode/utf8.first", "unicode/utf8.acceptRanges", "internal/bytealg.MaxLen"], apart := false, laid := [("unicode/utf8.acceptRanges", laid_unicode_utf8_acceptRanges), ("unicode/utf8.first", laid_unicode_utf8_first)], narrowed := true }
def RegionChecksUptoSaid : Prop := regionChecksUptoRow.holds Tryd.pinned (OpenSpec.upto regionChecksSpec)

/-- 'stockyardlaw05.RegionWitness', WHERE WHAT IT READS IS OF BULK AT MOST 1048576: true; the input reads as it did. -/
def regionWitnessUptoRow : OpenClaim := { program := "ytcmfkmhmehhkpaadoor", sum := "b83a1cc7327790940c8a2e652d0d60aa4ba8efb9fd3ebece408fdd9c3b759905", func := "stockyard/stockyardlaw05.RegionWitness", spec := "regionWitness", inPlace := ["internal/abi.NoEscape", "internal/bytealg.MakeNoZero", "internal/bytealg.CountString", "internal/bytealg.IndexByteString", "internal/bytealg.IndexString", "internal/bytealg.abigen_runtime_cmpstring"], unfollowed := true, recurses := true, named := ["unicode/utf8.first", "unicode/utf8.acceptRanges", "internal/bytealg.MaxLen"], apart := false, laid := [("unicode/utf8.acceptRanges", laid_unicode_utf8_acceptRanges), ("unicode/utf8.first", laid_unicode_utf8_first)], narrowed := true }
def RegionWitnessUptoSaid : Prop := regionWitnessUptoRow.holds Tryd.pinned (OpenSpec.upto regionWitnessSpec)

/-- 'stockyardlaw05.RegionKeeps', WHERE WHAT IT READS IS OF BULK AT MOST 1048576: true; the input reads as it did. -/
def regionKeepsUptoRow : OpenClaim := { program := "ytcmfkmhmehhkpaadoor", sum := "b83a1cc7327790940c8a2e652d0d60aa4ba8efb9fd3ebece408fdd9c3b759905", func := "stockyard/stockyardlaw05.RegionKeeps", spec := "regionKeeps", inPlace := ["internal/abi.NoEscape", "internal/bytealg.MakeNoZero", "internal/bytealg.abigen_runtime_cmpstring", "internal/bytealg.CountString", "internal/bytealg.IndexByteString", "internal/bytealg.IndexString"], unfollowed := true, recurses := true, named := ["unicode/utf8.first", "unicode/utf8.acceptRanges", "internal/bytealg.MaxLen"], apart := false, laid := [("unicode/utf8.acceptRanges", laid_unicode_utf8_acceptRanges), ("unicode/utf8.first", laid_unicode_utf8_first)], narrowed := true }
def RegionKeepsUptoSaid : Prop := regionKeepsUptoRow.holds Tryd.pinned (OpenSpec.upto regionKeepsSpec)

/-- 'stockyardlaw05.RegionMeetMeans', WHERE WHAT IT READS IS OF BULK AT MOST 1048576: true; the input reads as it did. -/
def regionMeetMeansUptoRow : OpenClaim := { program := "ytcmfkmhmehhkpaadoor", sum := "b83a1cc7327790940c8a2e652d0d60aa4ba8efb9fd3ebece408fdd9c3b759905", func := "stockyard/stockyardlaw05.RegionMeetMeans", spec := "regionMeetMeans", inPlace := ["internal/abi.NoEscape", "internal/bytealg.MakeNoZero", "internal/bytealg.abigen_runtime_cmpstring", "internal/bytealg.CountString", "internal/bytealg.IndexByteString", "internal/bytealg.IndexString"], unfollowed := true, recurses := true, named := ["unicode/utf8.first", "unicode/utf8.acceptRanges", "internal/bytealg.MaxLen"], apart := false, laid := [("unicode/utf8.acceptRanges", laid_unicode_utf8_acceptRanges), ("unicode/utf8.first", laid_unicode_utf8_first)], narrowed := true }
def RegionMeetMeansUptoSaid : Prop := regionMeetMeansUptoRow.holds Tryd.pinned (OpenSpec.upto regionMeetMeansSpec)

/-- 'stockyardlaw05.RegionMinusMeans', WHERE WHAT IT READS IS OF BULK AT MOST 1048576: true; the input reads as it did. -/
def regionMinusMeansUptoRow : OpenClaim := { program := "ytcmfkmhmehhkpaadoor", sum := "b83a1cc7327790940c8a2e652d0d60aa4ba8efb9fd3ebece408fdd9c3b759905", func := "stockyard/stockyardlaw05.RegionMinusMeans", spec := "regionMinusMeans", inPlace := ["internal/abi.NoEscape", "internal/bytealg.MakeNoZero", "internal/bytealg.abigen_runtime_cmpstring", "internal/bytealg.CountString", "internal/bytealg.IndexByteString", "internal/bytealg.IndexString"], unfollowed := true, recurses := true, named := ["unicode/utf8.first", "unicode/utf8.acceptRanges", "internal/bytealg.MaxLen"], apart := false, laid := [("unicode/utf8.acceptRanges", laid_unicode_utf8_acceptRanges), ("unicode/utf8.first", laid_unicode_utf8_first)], narrowed := true }
def RegionMinusMeansUptoSaid : Prop := regionMinusMeansUptoRow.holds Tryd.pinned (OpenSpec.upto regionMinusMeansSpec)

end Rows
end Go.Proofs.YtcmfkmhmehhkpaaDoor
