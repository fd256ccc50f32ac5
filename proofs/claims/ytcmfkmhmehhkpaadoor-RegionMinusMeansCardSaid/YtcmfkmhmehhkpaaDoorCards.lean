/-
  DERIVED. GIVEN WITH THE SEED: THE CARDS: each row of YtcmfkmhmehhkpaaDoorRows.lean that lists a variable, with what it lists TIED to the program's text (the seventh form; the later family's looks); each row that meets fmt, with fmt's text TOLD by the authors' own Lean function (tested against real Go, not proved from fmt's source: count such statements apart). THE CARD IS WHAT COUNTS. Prove the row's statement (the work); the ties are given (YtcmfkmhmehhkpaaDoorTie.lean); close each card by the builder's one call (the guide's Derived/Test/ToyasCard.lean, 'card_holds'). Laid BY PROGRAM, IN A SANDBOX (cutbox-door.mjs). By AI agents, Wed Nov 11 2026. No macro, syntax, notation, axiom, sorry.
-/
import Derived.Test.YtcmfkmhmehhkpaaDoorRows
import GoSem.ClaimSeven
namespace Go.Proofs.YtcmfkmhmehhkpaaDoor
namespace Rows

/-- THE TIED CARD OF 'stockyardlaw05.RegionPoint'. -/
def regionPointCard : Claim7 := { stood := { row := regionPointRow, standIns := [], harness := (true, "c670125cf5138806d9f082110a52e1110a5ec06029bc4981f713dbc56151a580"), looks := false }, kinds := [], alts := [], laidByText := true, laidKinds := [.data, .pinned], laidTests := true, laidLooks := .later }
def RegionPointCardSaid : Prop := Claim7.holds Tryd.pinned (.plain (OpenSpec.ofChange regionPointSpec)) regionPointCard

/-- THE TIED CARD OF 'stockyardlaw05.RegionChecks'. -/
def regionChecksCard : Claim7 := { stood := { row := regionChecksRow, standIns := [], harness := (true, "c670125cf5138806d9f082110a52e1110a5ec06029bc4981f713dbc56151a580"), looks := false }, kinds := [], alts := [], laidByText := true, laidKinds := [.data, .pinned], laidTests := true, laidLooks := .later }
def RegionChecksCardSaid : Prop := Claim7.holds Tryd.pinned (.plain (OpenSpec.ofChange regionChecksSpec)) regionChecksCard

/-- THE TIED CARD OF 'stockyardlaw05.RegionWitness'. -/
def regionWitnessCard : Claim7 := { stood := { row := regionWitnessRow, standIns := [], harness := (true, "c670125cf5138806d9f082110a52e1110a5ec06029bc4981f713dbc56151a580"), looks := false }, kinds := [], alts := [], laidByText := true, laidKinds := [.data, .pinned], laidTests := true, laidLooks := .later }
def RegionWitnessCardSaid : Prop := Claim7.holds Tryd.pinned (.plain (OpenSpec.ofChange regionWitnessSpec)) regionWitnessCard

/-- THE TIED CARD OF 'stockyardlaw05.RegionKeeps'. -/
def regionKeepsCard : Claim7 := { stood := { row := regionKeepsRow, standIns := [], harness := (true, "c670125cf5138806d9f082110a52e1110a5ec06029bc4981f713dbc56151a580"), looks := false }, kinds := [], alts := [], laidByText := true, laidKinds := [.data, .pinned], laidTests := true, laidLooks := .later }
def RegionKeepsCardSaid : Prop := Claim7.holds Tryd.pinned (.plain (OpenSpec.ofChange regionKeepsSpec)) regionKeepsCard

/-- THE TIED CARD OF 'stockyardlaw05.RegionMeetMeans'. -/
def regionMeetMeansCard : Claim7 := { stood := { row := regionMeetMeansRow, standIns := [], harness := (true, "c670125cf5138806d9f082110a52e1110a5ec06029bc4981f713dbc56151a580"), looks := false }, kinds := [], alts := [], laidByText := true, laidKinds := [.data, .pinned], laidTests := true, laidLooks := .later }
def RegionMeetMeansCardSaid : Prop := Claim7.holds Tryd.pinned (.plain (OpenSpec.ofChange regionMeetMeansSpec)) regionMeetMeansCard

/-- THE TIED CARD OF 'stockyardlaw05.RegionMinusMeans'. -/
def regionMinusMeansCard : Claim7 := { stood := { row := regionMinusMeansRow, standIns := [], harness := (true, "c670125cf5138806d9f082110a52e1110a5ec06029bc4981f713dbc56151a580"), looks := false }, kinds := [], alts := [], laidByText := true, laidKinds := [.data, .pinned], laidTests := true, laidLooks := .later }
def RegionMinusMeansCardSaid : Prop := Claim7.holds Tryd.pinned (.plain (OpenSpec.ofChange regionMinusMeansSpec)) regionMinusMeansCard

/-- THE SECOND FORM's CARD OF 'stockyardlaw05.RegionPoint'. -/
def regionPointUptoCard : Claim7 := { stood := { row := regionPointUptoRow, standIns := [], harness := (true, "c670125cf5138806d9f082110a52e1110a5ec06029bc4981f713dbc56151a580"), looks := false }, kinds := [], alts := [], laidByText := true, laidKinds := [.data, .pinned], laidTests := true, laidLooks := .later }
def RegionPointUptoCardSaid : Prop := Claim7.holds Tryd.pinned (.plain (OpenSpec.upto regionPointSpec)) regionPointUptoCard

/-- THE SECOND FORM's CARD OF 'stockyardlaw05.RegionChecks'. -/
def regionChecksUptoCard : Claim7 := { stood := { row := regionChecksUptoRow, standIns := [], harness := (true, "c670125cf5138806d9f082110a52e1110a5ec06029bc4981f713dbc56151a580"), looks := false }, kinds := [], alts := [], laidByText := true, laidKinds := [.data, .pinned], laidTests := true, laidLooks := .later }
def RegionChecksUptoCardSaid : Prop := Claim7.holds Tryd.pinned (.plain (OpenSpec.upto regionChecksSpec)) regionChecksUptoCard

/-- THE SECOND FORM's CARD OF 'stockyardlaw05.RegionWitness'. -/
def regionWitnessUptoCard : Claim7 := { stood := { row := regionWitnessUptoRow, standIns := [], harness := (true, "c670125cf5138806d9f082110a52e1110a5ec06029bc4981f713dbc56151a580"), looks := false }, kinds := [], alts := [], laidByText := true, laidKinds := [.data, .pinned], laidTests := true, laidLooks := .later }
def RegionWitnessUptoCardSaid : Prop := Claim7.holds Tryd.pinned (.plain (OpenSpec.upto regionWitnessSpec)) regionWitnessUptoCard

/-- THE SECOND FORM's CARD OF 'stockyardlaw05.RegionKeeps'. -/
def regionKeepsUptoCard : Claim7 := { stood := { row := regionKeepsUptoRow, standIns := [], harness := (true, "c670125cf5138806d9f082110a52e1110a5ec06029bc4981f713dbc56151a580"), looks := false }, kinds := [], alts := [], laidByText := true, laidKinds := [.data, .pinned], laidTests := true, laidLooks := .later }
def RegionKeepsUptoCardSaid : Prop := Claim7.holds Tryd.pinned (.plain (OpenSpec.upto regionKeepsSpec)) regionKeepsUptoCard

/-- THE SECOND FORM's CARD OF 'stockyardlaw05.RegionMeetMeans'. -/
def regionMeetMeansUptoCard : Claim7 := { stood := { row := regionMeetMeansUptoRow, standIns := [], harness := (true, "c670125cf5138806d9f082110a52e1110a5ec06029bc4981f713dbc56151a580"), looks := false }, kinds := [], alts := [], laidByText := true, laidKinds := [.data, .pinned], laidTests := true, laidLooks := .later }
def RegionMeetMeansUptoCardSaid : Prop := Claim7.holds Tryd.pinned (.plain (OpenSpec.upto regionMeetMeansSpec)) regionMeetMeansUptoCard

/-- THE SECOND FORM's CARD OF 'stockyardlaw05.RegionMinusMeans'. -/
def regionMinusMeansUptoCard : Claim7 := { stood := { row := regionMinusMeansUptoRow, standIns := [], harness := (true, "c670125cf5138806d9f082110a52e1110a5ec06029bc4981f713dbc56151a580"), looks := false }, kinds := [], alts := [], laidByText := true, laidKinds := [.data, .pinned], laidTests := true, laidLooks := .later }
def RegionMinusMeansUptoCardSaid : Prop := Claim7.holds Tryd.pinned (.plain (OpenSpec.upto regionMinusMeansSpec)) regionMinusMeansUptoCard
end Rows
end Go.Proofs.YtcmfkmhmehhkpaaDoor
