/- A part of the proof of a law of this seat (YtcmfkmhmehhkpaaR1). -/
import Derived.Test.YtcmfkmhmehhkpaaAc
import Derived.Test.YtcmfkmhmehhkpaaAd
import Derived.Test.YtcmfkmhmehhkpaaG
import Derived.Test.YtcmfkmhmehhkpaaRows
import Derived.Deep.DeepHandedRow
import Derived.Deep.DeepWitnessRowRef
import Derived.ProofKit
import Derived.OpenShut
import Derived.SizedLaws
import Derived.Shelf.Vars
set_option linter.unusedVariables false
set_option linter.unusedSimpArgs false
namespace Go.Proofs.Ytcmfkmhmehhkpaa
open Go Go.Ai Go.Proofs Go.ChangeShapes Go.WideShapes Go.ChangeAt Go.RowKit Go.Lib
open Go.ChangeMaps (open_string shut_string)

theorem own : ownKnob Try.prog.godebug = none := by kernel_rfl
theorem laidOut : laidOutB Try.prog = true := by kernel_rfl

noncomputable def laidWorld (os : Os) : World := World.holding Try.prog os ⟨#[], #[], []⟩

theorem laid_met (os : Os) (args : Array Value) : laidMetH Try.prog [] ((laidWorld os).forCall (fun _ _ => 0) ⟨#[], args, []⟩).memory := by
  simp only [laidMetH, List.filter_nil]
  exact ⟨[], by first | exact rfl | exact .nil | trivial, List.nodup_nil, fun b off h => by cases h⟩

theorem maxLen_cell {W : World} (h : W.ShapedOpen Try.prog) : tG W := trivial
theorem tG_stays {W W' : World} (h : tG W) (hb : Below W.heap.size W W') : tG W' := trivial

theorem uptoBulk_eq {H : Type} : @Rows.uptoBulkAll H = @bulkAll H := by kernel_rfl

end Go.Proofs.Ytcmfkmhmehhkpaa
