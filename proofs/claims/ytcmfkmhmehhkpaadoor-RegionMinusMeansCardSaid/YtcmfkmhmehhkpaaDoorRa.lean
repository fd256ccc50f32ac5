/- A part of the proof of a law of this seat (YtcmfkmhmehhkpaaDoorR1). -/
import Derived.Test.YtcmfkmhmehhkpaaDoorAc
import Derived.Test.YtcmfkmhmehhkpaaDoorAd
import Derived.Test.YtcmfkmhmehhkpaaDoorG
import Derived.Test.YtcmfkmhmehhkpaaDoorRows
import Derived.Test.YtcmfkmhmehhkpaaDoorTie
import Derived.Deep.DeepHandedRow
import Derived.Deep.DeepWitnessRowRef
import Derived.ProofKit
import Derived.OpenShut
import Derived.SizedLaws
import Derived.Shelf.Vars
import Derived.Lib.LaidU8
import Derived.Lib.DecodeN
set_option linter.unusedVariables false
set_option linter.unusedSimpArgs false
namespace Go.Proofs.YtcmfkmhmehhkpaaDoor
open Go Go.Ai Go.Proofs Go.ChangeShapes Go.WideShapes Go.ChangeAt Go.RowKit Go.Lib
open Go.ChangeMaps (open_string shut_string)

theorem own : ownKnob Tryd.prog.godebug = none := by kernel_rfl
theorem laidOut : laidOutB Tryd.prog = true := by kernel_rfl

noncomputable def laidWorld (os : Os) : World :=
  let w0 := World.holding Tryd.prog os ⟨#[], #[], []⟩
  let put (h : Array Obj) (g : Nat) (cs : Array Value) : Array Obj := h.modify g fun
    | .cells _ t frozen => .cells cs t frozen
    | o => o
  let h1 := put w0.heap 1 (Lib.firstTab.map fun z => Value.int .u8 z).toArray
  let h2 := put h1 2 ((List.range 16).flatMap fun i => [Value.int .u8 (Lib.accLo i), Value.int .u8 (Lib.accHi i)]).toArray
  { w0 with heap := h2 }

theorem laid_met (os : Os) (args : Array Value) : laidMetH Tryd.prog Rows.regionPointUptoRow.laid ((laidWorld os).forCall (fun _ _ => 0) ⟨#[], args, []⟩).memory := by
  rw [MakeChecks.laidMetH_plain _ _ _ (by kernel_rfl)]
  exact laidMet_of_run' 8 (by kernel_rfl) (by kernel_rfl)

theorem maxLen_cell {W : World} (h : W.ShapedOpen Tryd.prog) : tG W :=
  cell_of_shapedOpen_int h (g := 0) (t := 3) (zero := #[.int .i64 0]) (of_decide_eq_true (by kernel_rfl)) (by kernel_rfl) rfl (by kernel_rfl) (by kernel_rfl) (by kernel_rfl)

theorem tG_stays {W W' : World} (h : tG W) (hb : Below W.heap.size W W') : tG W' := by
  obtain ⟨m, hm⟩ := h
  exact ⟨m, by rw [World.cell?_of_block (w := W) (hb.block 0 (cell_block hm).1)]; exact hm⟩

theorem uptoBulk_eq {H : Type} : @Rows.uptoBulkAll H = @bulkAll H := by kernel_rfl

end Go.Proofs.YtcmfkmhmehhkpaaDoor
