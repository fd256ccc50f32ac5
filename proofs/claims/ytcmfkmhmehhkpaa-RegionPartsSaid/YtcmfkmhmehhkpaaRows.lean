/-
  No cell of these rows narrows 'for every input' (looked for: loops, veiled, ifaces, maps, wideKeys, modest, calm, conditions, laid).
  DERIVED. THE GIVEN ROWS OF THIS SEAT. 6 by the template 'for every input the law returns true; each argument reads behind the call as it read before'; 0 by the template 'total and deterministic' (their statements: YtcmfkmhmehhkpaaTotals.lean).
  GIVEN WITH THE SEED: the statements are not yours to turn. If you find one false, say at which input.
  Laid BY PROGRAM, IN A SANDBOX (cutbox-rows.mjs): the forced cells as the released guide's own fill.sh prints them over the translation fa21d9ed1a70bae9… (all of the seat's roots in one cut). By AI agents, Wed Nov 11 2026. No macro, syntax, notation, axiom, sorry.
-/
import Derived.Test.YtcmfkmhmehhkpaaChecked
import GoSem.Claim
import GoSem.ClaimJoined
import GoSem.ClaimMapViews
import Derived.JoinedTies
import Derived.KernelRfl
namespace Go.Proofs.Ytcmfkmhmehhkpaa
/- THE CELL 'sum', in the pinned program and in every row, IS THE sha256 OF THE DUMP (.gsa) THAT YtcmfkmhmehhkpaaProg.lean LOADS. Nothing in Lean hashes anything: it is a label: what it is worth is what the hold of that sum in a sandbox is worth. -/
noncomputable def Try.pinned : Pinned := { name := "ytcmfkmhmehhkpaa", sum := "fa21d9ed1a70bae9e24f4451cc53a334b2e298e6944f1e5f1d88d0547830774c", checked := Try.checked }
namespace Rows
def none {H : Type} : Left H := { results := [], args := [] }

/-- 'stockyardlaw05.RegionLeasts': WHATEVER THE INPUT: true; the input reads as it did. -/
def regionLeastsSpec : ChangeSpec := { name := "regionLeasts", fn := fun _ => fun
  | [d] => { results := [.lit (.bool true)], args := [d] }
  | _ => none }
def regionLeastsRow : OpenClaim := { program := "ytcmfkmhmehhkpaa", sum := "fa21d9ed1a70bae9e24f4451cc53a334b2e298e6944f1e5f1d88d0547830774c", func := "stockyard/stockyardlaw05.RegionLeasts", spec := "regionLeasts", inPlace := ["internal/abi.NoEscape", "internal/bytealg.MakeNoZero", "internal/bytealg.IndexByteString"], unfollowed := true, recurses := true, apart := false }
def RegionLeastsSaid : Prop := regionLeastsRow.holds Try.pinned (OpenSpec.ofChange regionLeastsSpec)

/-- ITS FALSE NEIGHBOUR: 'it returns false'. Refute it at one input. -/
def regionLeastsWrong : ChangeSpec := { name := "regionLeasts", fn := fun _ => fun
  | [d] => { results := [.lit (.bool false)], args := [d] }
  | _ => none }
def RegionLeastsWrongFalsely : Prop := regionLeastsRow.holds Try.pinned (OpenSpec.ofChange regionLeastsWrong)

/-- 'stockyardlaw05.RegionOrder': WHATEVER THE INPUT: true; the input reads as it did. -/
def regionOrderSpec : ChangeSpec := { name := "regionOrder", fn := fun _ => fun
  | [d1, d2] => { results := [.lit (.bool true)], args := [d1, d2] }
  | _ => none }
def regionOrderRow : OpenClaim := { program := "ytcmfkmhmehhkpaa", sum := "fa21d9ed1a70bae9e24f4451cc53a334b2e298e6944f1e5f1d88d0547830774c", func := "stockyard/stockyardlaw05.RegionOrder", spec := "regionOrder", inPlace := ["internal/abi.NoEscape", "internal/bytealg.MakeNoZero", "internal/bytealg.abigen_runtime_cmpstring"], unfollowed := true, recurses := true, apart := false }
def RegionOrderSaid : Prop := regionOrderRow.holds Try.pinned (OpenSpec.ofChange regionOrderSpec)

/-- ITS FALSE NEIGHBOUR: 'it returns false'. Refute it at one input. -/
def regionOrderWrong : ChangeSpec := { name := "regionOrder", fn := fun _ => fun
  | [d1, d2] => { results := [.lit (.bool false)], args := [d1, d2] }
  | _ => none }
def RegionOrderWrongFalsely : Prop := regionOrderRow.holds Try.pinned (OpenSpec.ofChange regionOrderWrong)

/-- 'stockyardlaw05.RegionSimplifies': WHATEVER THE INPUT: true; the input reads as it did. -/
def regionSimplifiesSpec : ChangeSpec := { name := "regionSimplifies", fn := fun _ => fun
  | [d] => { results := [.lit (.bool true)], args := [d] }
  | _ => none }
def regionSimplifiesRow : OpenClaim := { program := "ytcmfkmhmehhkpaa", sum := "fa21d9ed1a70bae9e24f4451cc53a334b2e298e6944f1e5f1d88d0547830774c", func := "stockyard/stockyardlaw05.RegionSimplifies", spec := "regionSimplifies", inPlace := ["internal/abi.NoEscape", "internal/bytealg.MakeNoZero", "internal/bytealg.abigen_runtime_cmpstring", "internal/bytealg.IndexByteString"], unfollowed := true, recurses := true, apart := false }
def RegionSimplifiesSaid : Prop := regionSimplifiesRow.holds Try.pinned (OpenSpec.ofChange regionSimplifiesSpec)

/-- ITS FALSE NEIGHBOUR: 'it returns false'. Refute it at one input. -/
def regionSimplifiesWrong : ChangeSpec := { name := "regionSimplifies", fn := fun _ => fun
  | [d] => { results := [.lit (.bool false)], args := [d] }
  | _ => none }
def RegionSimplifiesWrongFalsely : Prop := regionSimplifiesRow.holds Try.pinned (OpenSpec.ofChange regionSimplifiesWrong)

/-- 'stockyardlaw05.RegionMeets': WHATEVER THE INPUT: true; the input reads as it did. -/
def regionMeetsSpec : ChangeSpec := { name := "regionMeets", fn := fun _ => fun
  | [d1, d2] => { results := [.lit (.bool true)], args := [d1, d2] }
  | _ => none }
def regionMeetsRow : OpenClaim := { program := "ytcmfkmhmehhkpaa", sum := "fa21d9ed1a70bae9e24f4451cc53a334b2e298e6944f1e5f1d88d0547830774c", func := "stockyard/stockyardlaw05.RegionMeets", spec := "regionMeets", inPlace := ["internal/abi.NoEscape", "internal/bytealg.MakeNoZero", "internal/bytealg.abigen_runtime_cmpstring", "internal/bytealg.IndexByteString"], unfollowed := true, recurses := true, apart := false }
def RegionMeetsSaid : Prop := regionMeetsRow.holds Try.pinned (OpenSpec.ofChange regionMeetsSpec)

/-- ITS FALSE NEIGHBOUR: 'it returns false'. Refute it at one input. -/
def regionMeetsWrong : ChangeSpec := { name := "regionMeets", fn := fun _ => fun
  | [d1, d2] => { results := [.lit (.bool false)], args := [d1, d2] }
  | _ => none }
def RegionMeetsWrongFalsely : Prop := regionMeetsRow.holds Try.pinned (OpenSpec.ofChange regionMeetsWrong)

/-- 'stockyardlaw05.RegionMinuses': WHATEVER THE INPUT: true; the input reads as it did. -/
def regionMinusesSpec : ChangeSpec := { name := "regionMinuses", fn := fun _ => fun
  | [d1, d2] => { results := [.lit (.bool true)], args := [d1, d2] }
  | _ => none }
def regionMinusesRow : OpenClaim := { program := "ytcmfkmhmehhkpaa", sum := "fa21d9ed1a70bae9e24f4451cc53a334b2e298e6944f1e5f1d88d0547830774c", func := "stockyard/stockyardlaw05.RegionMinuses", spec := "regionMinuses", inPlace := ["internal/abi.NoEscape", "internal/bytealg.MakeNoZero", "internal/bytealg.abigen_runtime_cmpstring", "internal/bytealg.IndexByteString"], unfollowed := true, recurses := true, apart := false }
def RegionMinusesSaid : Prop := regionMinusesRow.holds Try.pinned (OpenSpec.ofChange regionMinusesSpec)

/-- ITS FALSE NEIGHBOUR: 'it returns false'. Refute it at one input. -/
def regionMinusesWrong : ChangeSpec := { name := "regionMinuses", fn := fun _ => fun
  | [d1, d2] => { results := [.lit (.bool false)], args := [d1, d2] }
  | _ => none }
def RegionMinusesWrongFalsely : Prop := regionMinusesRow.holds Try.pinned (OpenSpec.ofChange regionMinusesWrong)

/-- 'stockyardlaw05.RegionParts': WHATEVER THE INPUT: true; the input reads as it did. -/
def regionPartsSpec : ChangeSpec := { name := "regionParts", fn := fun _ => fun
  | [d1, d2] => { results := [.lit (.bool true)], args := [d1, d2] }
  | _ => none }
def regionPartsRow : OpenClaim := { program := "ytcmfkmhmehhkpaa", sum := "fa21d9ed1a70bae9e24f4451cc53a334b2e298e6944f1e5f1d88d0547830774c", func := "stockyard/stockyardlaw05.RegionParts", spec := "regionParts", inPlace := ["internal/abi.NoEscape", "internal/bytealg.MakeNoZero", "internal/bytealg.abigen_runtime_cmpstring"], unfollowed := true, recurses := true, apart := false }
def RegionPartsSaid : Prop := regionPartsRow.holds Try.pinned (OpenSpec.ofChange regionPartsSpec)

/-- ITS FALSE NEIGHBOUR: 'it returns false'. Refute it at one input. -/
def regionPartsWrong : ChangeSpec := { name := "regionParts", fn := fun _ => fun
  | [d1, d2] => { results := [.lit (.bool false)], args := [d1, d2] }
  | _ => none }
def RegionPartsWrongFalsely : Prop := regionPartsRow.holds Try.pinned (OpenSpec.ofChange regionPartsWrong)

/- THE SECOND FORM. 'bulk': how many values and letters a reading holds, each counted each time it is reached (what is shared counts as often as it is met; a slice's spare places count too). A statement '..UptoSaid' is the law's where the arguments, and the package variables that the reading takes, are together of bulk at most 1048576: NARROWER than '..Said'. Prove '..Said' where nothing that the law and all that it calls make is longer than what came in: it says more and counts as full. Else prove '..UptoSaid'. A law counts once. -/
mutual
def uptoBulk {H : Type} : DataW H → Nat
  | .lit (.string bytes) => bytes.length + 1
  | .lit _ => 1
  | .nil => 1
  | .ptr d => uptoBulk d + 1
  | .slice elems spare => uptoBulkAll elems + uptoBulkAll spare + 1
  | .agg parts => uptoBulkAll parts + 1
  | .iface _ d => uptoBulk d + 1
  | .map entries => uptoBulkEntries entries + 1
  | .held _ => 1
def uptoBulkAll {H : Type} : List (DataW H) → Nat
  | [] => 0
  | d :: r => uptoBulk d + uptoBulkAll r
def uptoBulkEntries {H : Type} : List (Lit × DataW H) → Nat
  | [] => 0
  | x :: r => uptoBulkEntry x + uptoBulkEntries r
def uptoBulkEntry {H : Type} : Lit × DataW H → Nat
  | (.string bytes, d) => bytes.length + uptoBulk d + 1
  | (_, d) => uptoBulk d + 1
 end
def uptoSmall : (H : Type) → List (DataW H) → Bool := fun _ ds => decide (uptoBulkAll ds ≤ 1048576)
def OpenSpec.upto (s : _root_.Go.ChangeSpec) : _root_.Go.OpenSpec := { _root_.Go.OpenSpec.ofChange s with cond := some uptoSmall }

/-- 'stockyardlaw05.RegionLeasts', WHERE WHAT IT READS IS OF BULK AT MOST 1048576: true; the input reads as it did. -/
def regionLeastsUptoRow : OpenClaim := { program := "ytcmfkmhmehhkpaa", sum := "fa21d9ed1a70bae9e24f4451cc53a334b2e298e6944f1e5f1d88d0547830774c", func := "stockyard/stockyardlaw05.RegionLeasts", spec := "regionLeasts", inPlace := ["internal/abi.NoEscape", "internal/bytealg.MakeNoZero", "internal/bytealg.IndexByteString"], unfollowed := true, recurses := true, apart := false, narrowed := true }
def RegionLeastsUptoSaid : Prop := regionLeastsUptoRow.holds Try.pinned (OpenSpec.upto regionLeastsSpec)

/-- 'stockyardlaw05.RegionOrder', WHERE WHAT IT READS IS OF BULK AT MOST 1048576: true; the input reads as it did. -/
def regionOrderUptoRow : OpenClaim := { program := "ytcmfkmhmehhkpaa", sum := "fa21d9ed1a70bae9e24f4451cc53a334b2e298e6944f1e5f1d88d0547830774c", func := "stockyard/stockyardlaw05.RegionOrder", spec := "regionOrder", inPlace := ["internal/abi.NoEscape", "internal/bytealg.MakeNoZero", "internal/bytealg.abigen_runtime_cmpstring"], unfollowed := true, recurses := true, apart := false, narrowed := true }
def RegionOrderUptoSaid : Prop := regionOrderUptoRow.holds Try.pinned (OpenSpec.upto regionOrderSpec)

/-- 'stockyardlaw05.RegionSimplifies', WHERE WHAT IT READS IS OF BULK AT MOST 1048576: true; the input reads as it did. -/
def regionSimplifiesUptoRow : OpenClaim := { program := "ytcmfkmhmehhkpaa", sum := "fa21d9ed1a70bae9e24f4451cc53a334b2e298e6944f1e5f1d88d0547830774c", func := "stockyard/stockyardlaw05.RegionSimplifies", spec := "regionSimplifies", inPlace := ["internal/abi.NoEscape", "internal/bytealg.MakeNoZero", "internal/bytealg.abigen_runtime_cmpstring", "internal/bytealg.IndexByteString"], unfollowed := true, recurses := true, apart := false, narrowed := true }
def RegionSimplifiesUptoSaid : Prop := regionSimplifiesUptoRow.holds Try.pinned (OpenSpec.upto regionSimplifiesSpec)

/-- 'stockyardlaw05.RegionMeets', WHERE WHAT IT READS IS OF BULK AT MOST 1048576: true; the input reads as it did. -/
def regionMeetsUptoRow : OpenClaim := { program := "ytcmfkmhmehhkpaa", sum := "fa21d9ed1a70bae9e24f4451cc53a334b2e298e6944f1e5f1d88d0547830774c", func := "stockyard/stockyardlaw05.RegionMeets", spec := "regionMeets", inPlace := ["internal/abi.NoEscape", "internal/bytealg.MakeNoZero", "internal/bytealg.abigen_runtime_cmpstring", "internal/bytealg.IndexByteString"], unfollowed := true, recurses := true, apart := false, narrowed := true }
def RegionMeetsUptoSaid : Prop := regionMeetsUptoRow.holds Try.pinned (OpenSpec.upto regionMeetsSpec)

/-- 'stockyardlaw05.RegionMinuses', WHERE WHAT IT READS IS OF BULK AT MOST 1048576: true; the input reads as it did. -/
def regionMinusesUptoRow : OpenClaim := { program := "ytcmfkmhmehhkpaa", sum := "fa21d9ed1a70bae9e24f4451cc53a334b2e298e6944f1e5f1d88d0547830774c", func := "stockyard/stockyardlaw05.RegionMinuses", spec := "regionMinuses", inPlace := ["internal/abi.NoEscape", "internal/bytealg.MakeNoZero", "internal/bytealg.abigen_runtime_cmpstring", "internal/bytealg.IndexByteString"], unfollowed := true, recurses := true, apart := false, narrowed := true }
def RegionMinusesUptoSaid : Prop := regionMinusesUptoRow.holds Try.pinned (OpenSpec.upto regionMinusesSpec)

/-- 'stockyardlaw05.RegionParts', WHERE WHAT IT READS IS OF BULK AT MOST 1048576: true; the input reads as it did. -/
def regionPartsUptoRow : OpenClaim := { program := "ytcmfkmhmehhkpaa", sum := "fa21d9ed1a70bae9e24f4451cc53a334b2e298e6944f1e5f1d88d0547830774c", func := "stockyard/stockyardlaw05.RegionParts", spec := "regionParts", inPlace := ["internal/abi.NoEscape", "internal/bytealg.MakeNoZero", "internal/bytealg.abigen_runtime_cmpstring"], unfollowed := true, recurses := true, apart := false, narrowed := true }
def RegionPartsUptoSaid : Prop := regionPartsUptoRow.holds Try.pinned (OpenSpec.upto regionPartsSpec)

end Rows
end Go.Proofs.Ytcmfkmhmehhkpaa
