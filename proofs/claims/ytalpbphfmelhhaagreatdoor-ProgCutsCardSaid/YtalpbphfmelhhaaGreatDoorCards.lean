/-
  DERIVED. GIVEN WITH THE SEED: THE CARDS: each row of YtalpbphfmelhhaaGreatDoorRows.lean that lists a variable, with what it lists TIED to the program's text (the seventh form; the later family's looks); each row that meets fmt, with fmt's text TOLD by the authors' own Lean function (tested against real Go, not proved from fmt's source: count such statements apart). THE CARD IS WHAT COUNTS. Prove the row's statement (the work); the ties are given (YtalpbphfmelhhaaGreatDoorTie.lean); close each card by the builder's one call (the guide's Derived/Test/ToyasCard.lean, 'card_holds'). Laid BY PROGRAM, IN A SANDBOX (cutbox-door.mjs). By AI agents, Wed Nov 11 2026. No macro, syntax, notation, axiom, sorry.
-/
import Derived.Test.YtalpbphfmelhhaaGreatDoorRows
import GoSem.ClaimSeven
namespace Go.Proofs.YtalpbphfmelhhaaGreatDoor
namespace Rows

/-- THE TIED CARD OF 'racelaw9.ProgChecks'. -/
def progChecksCard : Claim7 := { stood := { row := progChecksRow, standIns := [], harness := (true, "2bfca760256cdd01a861e9b5edbc65ec6c3d8b2dbf90938c2cb0bc8c6d229047"), looks := true }, kinds := [], alts := [], laidByText := true, laidKinds := [.data, .data, .data], laidTests := true, laidLooks := .later }
def ProgChecksCardSaid : Prop := Claim7.holds Tryz.pinned (.plain (OpenSpec.ofChange progChecksSpec)) progChecksCard

/-- THE TIED CARD OF 'racelaw9.ProgRuns'. -/
def progRunsCard : Claim7 := { stood := { row := progRunsRow, standIns := [], harness := (true, "2bfca760256cdd01a861e9b5edbc65ec6c3d8b2dbf90938c2cb0bc8c6d229047"), looks := true }, kinds := [], alts := [], laidByText := true, laidKinds := [.data, .data, .data], laidTests := true, laidLooks := .later }
def ProgRunsCardSaid : Prop := Claim7.holds Tryz.pinned (.plain (OpenSpec.ofChange progRunsSpec)) progRunsCard

/-- THE TIED CARD OF 'racelaw9.ProgTexts'. -/
def progTextsCard : Claim7 := { stood := { row := progTextsRow, standIns := [], harness := (true, "2bfca760256cdd01a861e9b5edbc65ec6c3d8b2dbf90938c2cb0bc8c6d229047"), looks := true }, kinds := [], alts := [], laidByText := true, laidKinds := [.data, .data, .data], laidTests := true, laidLooks := .later }
def ProgTextsCardSaid : Prop := Claim7.holds Tryz.pinned (.plain (OpenSpec.ofChange progTextsSpec)) progTextsCard

/-- THE TIED CARD OF 'racelaw9.ProgBack'. -/
def progBackCard : Claim7 := { stood := { row := progBackRow, standIns := [], harness := (true, "2bfca760256cdd01a861e9b5edbc65ec6c3d8b2dbf90938c2cb0bc8c6d229047"), looks := true }, kinds := [], alts := [], laidByText := true, laidKinds := [.data, .data, .data], laidTests := true, laidLooks := .later }
def ProgBackCardSaid : Prop := Claim7.holds Tryz.pinned (.plain (OpenSpec.ofChange progBackSpec)) progBackCard

/-- THE TIED CARD OF 'racelaw9.ProgReads'. -/
def progReadsCard : Claim7 := { stood := { row := progReadsRow, standIns := [], harness := (true, "2bfca760256cdd01a861e9b5edbc65ec6c3d8b2dbf90938c2cb0bc8c6d229047"), looks := true }, kinds := [], alts := [], laidByText := true, laidKinds := [.data, .data, .data], laidTests := true, laidLooks := .later }
def ProgReadsCardSaid : Prop := Claim7.holds Tryz.pinned (.plain (OpenSpec.ofChange progReadsSpec)) progReadsCard

/-- THE TIED CARD OF 'racelaw9.ProgJoins'. -/
def progJoinsCard : Claim7 := { stood := { row := progJoinsRow, standIns := [], harness := (true, "2bfca760256cdd01a861e9b5edbc65ec6c3d8b2dbf90938c2cb0bc8c6d229047"), looks := true }, kinds := [], alts := [], laidByText := true, laidKinds := [.data, .data, .data], laidTests := true, laidLooks := .later }
def ProgJoinsCardSaid : Prop := Claim7.holds Tryz.pinned (.plain (OpenSpec.ofChange progJoinsSpec)) progJoinsCard

/-- THE TIED CARD OF 'racelaw9.ProgNeeds'. -/
def progNeedsCard : Claim7 := { stood := { row := progNeedsRow, standIns := [], harness := (true, "2bfca760256cdd01a861e9b5edbc65ec6c3d8b2dbf90938c2cb0bc8c6d229047"), looks := true }, kinds := [], alts := [], laidByText := true, laidKinds := [.data, .data, .data], laidTests := true, laidLooks := .later }
def ProgNeedsCardSaid : Prop := Claim7.holds Tryz.pinned (.plain (OpenSpec.ofChange progNeedsSpec)) progNeedsCard

/-- THE TIED CARD OF 'racelaw9.ProgCuts'. -/
def progCutsCard : Claim7 := { stood := { row := progCutsRow, standIns := [], harness := (true, "2bfca760256cdd01a861e9b5edbc65ec6c3d8b2dbf90938c2cb0bc8c6d229047"), looks := true }, kinds := [], alts := [], laidByText := true, laidKinds := [.data, .data, .data], laidTests := true, laidLooks := .later }
def ProgCutsCardSaid : Prop := Claim7.holds Tryz.pinned (.plain (OpenSpec.ofChange progCutsSpec)) progCutsCard

/-- THE SECOND FORM's CARD OF 'racelaw9.ProgChecks'. -/
def progChecksUptoCard : Claim7 := { stood := { row := progChecksUptoRow, standIns := [], harness := (true, "2bfca760256cdd01a861e9b5edbc65ec6c3d8b2dbf90938c2cb0bc8c6d229047"), looks := true }, kinds := [], alts := [], laidByText := true, laidKinds := [.data, .data, .data], laidTests := true, laidLooks := .later }
def ProgChecksUptoCardSaid : Prop := Claim7.holds Tryz.pinned (.plain (OpenSpec.upto progChecksSpec)) progChecksUptoCard

/-- THE SECOND FORM's CARD OF 'racelaw9.ProgRuns'. -/
def progRunsUptoCard : Claim7 := { stood := { row := progRunsUptoRow, standIns := [], harness := (true, "2bfca760256cdd01a861e9b5edbc65ec6c3d8b2dbf90938c2cb0bc8c6d229047"), looks := true }, kinds := [], alts := [], laidByText := true, laidKinds := [.data, .data, .data], laidTests := true, laidLooks := .later }
def ProgRunsUptoCardSaid : Prop := Claim7.holds Tryz.pinned (.plain (OpenSpec.upto progRunsSpec)) progRunsUptoCard

/-- THE SECOND FORM's CARD OF 'racelaw9.ProgTexts'. -/
def progTextsUptoCard : Claim7 := { stood := { row := progTextsUptoRow, standIns := [], harness := (true, "2bfca760256cdd01a861e9b5edbc65ec6c3d8b2dbf90938c2cb0bc8c6d229047"), looks := true }, kinds := [], alts := [], laidByText := true, laidKinds := [.data, .data, .data], laidTests := true, laidLooks := .later }
def ProgTextsUptoCardSaid : Prop := Claim7.holds Tryz.pinned (.plain (OpenSpec.upto progTextsSpec)) progTextsUptoCard

/-- THE SECOND FORM's CARD OF 'racelaw9.ProgBack'. -/
def progBackUptoCard : Claim7 := { stood := { row := progBackUptoRow, standIns := [], harness := (true, "2bfca760256cdd01a861e9b5edbc65ec6c3d8b2dbf90938c2cb0bc8c6d229047"), looks := true }, kinds := [], alts := [], laidByText := true, laidKinds := [.data, .data, .data], laidTests := true, laidLooks := .later }
def ProgBackUptoCardSaid : Prop := Claim7.holds Tryz.pinned (.plain (OpenSpec.upto progBackSpec)) progBackUptoCard

/-- THE SECOND FORM's CARD OF 'racelaw9.ProgReads'. -/
def progReadsUptoCard : Claim7 := { stood := { row := progReadsUptoRow, standIns := [], harness := (true, "2bfca760256cdd01a861e9b5edbc65ec6c3d8b2dbf90938c2cb0bc8c6d229047"), looks := true }, kinds := [], alts := [], laidByText := true, laidKinds := [.data, .data, .data], laidTests := true, laidLooks := .later }
def ProgReadsUptoCardSaid : Prop := Claim7.holds Tryz.pinned (.plain (OpenSpec.upto progReadsSpec)) progReadsUptoCard

/-- THE SECOND FORM's CARD OF 'racelaw9.ProgJoins'. -/
def progJoinsUptoCard : Claim7 := { stood := { row := progJoinsUptoRow, standIns := [], harness := (true, "2bfca760256cdd01a861e9b5edbc65ec6c3d8b2dbf90938c2cb0bc8c6d229047"), looks := true }, kinds := [], alts := [], laidByText := true, laidKinds := [.data, .data, .data], laidTests := true, laidLooks := .later }
def ProgJoinsUptoCardSaid : Prop := Claim7.holds Tryz.pinned (.plain (OpenSpec.upto progJoinsSpec)) progJoinsUptoCard

/-- THE SECOND FORM's CARD OF 'racelaw9.ProgNeeds'. -/
def progNeedsUptoCard : Claim7 := { stood := { row := progNeedsUptoRow, standIns := [], harness := (true, "2bfca760256cdd01a861e9b5edbc65ec6c3d8b2dbf90938c2cb0bc8c6d229047"), looks := true }, kinds := [], alts := [], laidByText := true, laidKinds := [.data, .data, .data], laidTests := true, laidLooks := .later }
def ProgNeedsUptoCardSaid : Prop := Claim7.holds Tryz.pinned (.plain (OpenSpec.upto progNeedsSpec)) progNeedsUptoCard

/-- THE SECOND FORM's CARD OF 'racelaw9.ProgCuts'. -/
def progCutsUptoCard : Claim7 := { stood := { row := progCutsUptoRow, standIns := [], harness := (true, "2bfca760256cdd01a861e9b5edbc65ec6c3d8b2dbf90938c2cb0bc8c6d229047"), looks := true }, kinds := [], alts := [], laidByText := true, laidKinds := [.data, .data, .data], laidTests := true, laidLooks := .later }
def ProgCutsUptoCardSaid : Prop := Claim7.holds Tryz.pinned (.plain (OpenSpec.upto progCutsSpec)) progCutsUptoCard
end Rows
end Go.Proofs.YtalpbphfmelhhaaGreatDoor
