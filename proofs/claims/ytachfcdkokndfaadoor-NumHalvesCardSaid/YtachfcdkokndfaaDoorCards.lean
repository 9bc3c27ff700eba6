/-
  DERIVED. GIVEN WITH THE SEED: THE CARDS: each row of YtachfcdkokndfaaDoorRows.lean that lists a variable, with what it lists TIED to the program's text (the seventh form; the later family's looks); each row that meets fmt, with fmt's text TOLD by the authors' own Lean function (tested against real Go, not proved from fmt's source: count such statements apart). THE CARD IS WHAT COUNTS. Prove the row's statement (the work); the ties are given (YtachfcdkokndfaaDoorTie.lean); close each card by the builder's one call (the guide's Derived/Test/ToyasCard.lean, 'card_holds'). Laid BY PROGRAM, IN A SANDBOX (cutbox-door.mjs). By AI agents, Wed Nov 11 2026. No macro, syntax, notation, axiom, sorry.
-/
import Derived.Test.YtachfcdkokndfaaDoorRows
import GoSem.ClaimSeven
namespace Go.Proofs.YtachfcdkokndfaaDoor
namespace Rows

/-- THE TIED CARD OF 'racelaw1.NumPrints'. -/
def numPrintsCard : Claim7 := { stood := { row := numPrintsRow, standIns := [], harness := (true, "64e9cb1d2521b82af97c2b41f0ca13d5882631a8abb65e8f73980be9454ad207"), looks := false }, kinds := [], alts := [], laidByText := true, laidKinds := [.data, .data, .data], laidTests := true, laidLooks := .later }
def NumPrintsCardSaid : Prop := Claim7.holds Tryd.pinned (.plain (OpenSpec.ofChange numPrintsSpec)) numPrintsCard

/-- THE TIED CARD OF 'racelaw1.NumParses'. -/
def numParsesCard : Claim7 := { stood := { row := numParsesRow, standIns := [], harness := (true, "64e9cb1d2521b82af97c2b41f0ca13d5882631a8abb65e8f73980be9454ad207"), looks := false }, kinds := [], alts := [], laidByText := true, laidKinds := [.data, .data, .data], laidTests := true, laidLooks := .later }
def NumParsesCardSaid : Prop := Claim7.holds Tryd.pinned (.plain (OpenSpec.ofChange numParsesSpec)) numParsesCard

/-- THE TIED CARD OF 'racelaw1.NumSigns'. -/
def numSignsCard : Claim7 := { stood := { row := numSignsRow, standIns := [], harness := (true, "64e9cb1d2521b82af97c2b41f0ca13d5882631a8abb65e8f73980be9454ad207"), looks := false }, kinds := [], alts := [], laidByText := true, laidKinds := [.data, .data, .data], laidTests := true, laidLooks := .later }
def NumSignsCardSaid : Prop := Claim7.holds Tryd.pinned (.plain (OpenSpec.ofChange numSignsSpec)) numSignsCard

/-- THE TIED CARD OF 'racelaw1.NumBits'. -/
def numBitsCard : Claim7 := { stood := { row := numBitsRow, standIns := [], harness := (true, "64e9cb1d2521b82af97c2b41f0ca13d5882631a8abb65e8f73980be9454ad207"), looks := false }, kinds := [], alts := [], laidByText := true, laidKinds := [.data, .data, .data], laidTests := true, laidLooks := .later }
def NumBitsCardSaid : Prop := Claim7.holds Tryd.pinned (.plain (OpenSpec.ofChange numBitsSpec)) numBitsCard

/-- THE TIED CARD OF 'racelaw1.NumBack'. -/
def numBackCard : Claim7 := { stood := { row := numBackRow, standIns := [], harness := (true, "64e9cb1d2521b82af97c2b41f0ca13d5882631a8abb65e8f73980be9454ad207"), looks := false }, kinds := [], alts := [], laidByText := true, laidKinds := [.data, .data, .data], laidTests := true, laidLooks := .later }
def NumBackCardSaid : Prop := Claim7.holds Tryd.pinned (.plain (OpenSpec.ofChange numBackSpec)) numBackCard

/-- THE TIED CARD OF 'racelaw1.NumOrder'. -/
def numOrderCard : Claim7 := { stood := { row := numOrderRow, standIns := [], harness := (true, "64e9cb1d2521b82af97c2b41f0ca13d5882631a8abb65e8f73980be9454ad207"), looks := false }, kinds := [], alts := [], laidByText := true, laidKinds := [.data, .data, .data], laidTests := true, laidLooks := .later }
def NumOrderCardSaid : Prop := Claim7.holds Tryd.pinned (.plain (OpenSpec.ofChange numOrderSpec)) numOrderCard

/-- THE TIED CARD OF 'racelaw1.NumSums'. -/
def numSumsCard : Claim7 := { stood := { row := numSumsRow, standIns := [], harness := (true, "64e9cb1d2521b82af97c2b41f0ca13d5882631a8abb65e8f73980be9454ad207"), looks := false }, kinds := [], alts := [], laidByText := true, laidKinds := [.data, .data, .data], laidTests := true, laidLooks := .later }
def NumSumsCardSaid : Prop := Claim7.holds Tryd.pinned (.plain (OpenSpec.ofChange numSumsSpec)) numSumsCard

/-- THE TIED CARD OF 'racelaw1.NumNext'. -/
def numNextCard : Claim7 := { stood := { row := numNextRow, standIns := [], harness := (true, "64e9cb1d2521b82af97c2b41f0ca13d5882631a8abb65e8f73980be9454ad207"), looks := false }, kinds := [], alts := [], laidByText := true, laidKinds := [.data, .data, .data], laidTests := true, laidLooks := .later }
def NumNextCardSaid : Prop := Claim7.holds Tryd.pinned (.plain (OpenSpec.ofChange numNextSpec)) numNextCard

/-- THE TIED CARD OF 'racelaw1.NumEnds'. -/
def numEndsCard : Claim7 := { stood := { row := numEndsRow, standIns := [], harness := (true, "64e9cb1d2521b82af97c2b41f0ca13d5882631a8abb65e8f73980be9454ad207"), looks := false }, kinds := [], alts := [], laidByText := true, laidKinds := [.data, .data, .data], laidTests := true, laidLooks := .later }
def NumEndsCardSaid : Prop := Claim7.holds Tryd.pinned (.plain (OpenSpec.ofChange numEndsSpec)) numEndsCard

/-- THE TIED CARD OF 'racelaw1.NumReckons'. -/
def numReckonsCard : Claim7 := { stood := { row := numReckonsRow, standIns := [], harness := (true, "64e9cb1d2521b82af97c2b41f0ca13d5882631a8abb65e8f73980be9454ad207"), looks := false }, kinds := [], alts := [], laidByText := true, laidKinds := [.data, .data, .data], laidTests := true, laidLooks := .later }
def NumReckonsCardSaid : Prop := Claim7.holds Tryd.pinned (.plain (OpenSpec.ofChange numReckonsSpec)) numReckonsCard

/-- THE TIED CARD OF 'racelaw1.NumWholes'. -/
def numWholesCard : Claim7 := { stood := { row := numWholesRow, standIns := [], harness := (true, "64e9cb1d2521b82af97c2b41f0ca13d5882631a8abb65e8f73980be9454ad207"), looks := false }, kinds := [], alts := [], laidByText := true, laidKinds := [.data, .data, .data], laidTests := true, laidLooks := .later }
def NumWholesCardSaid : Prop := Claim7.holds Tryd.pinned (.plain (OpenSpec.ofChange numWholesSpec)) numWholesCard

/-- THE TIED CARD OF 'racelaw1.NumHalves'. -/
def numHalvesCard : Claim7 := { stood := { row := numHalvesRow, standIns := [], harness := (true, "64e9cb1d2521b82af97c2b41f0ca13d5882631a8abb65e8f73980be9454ad207"), looks := false }, kinds := [], alts := [], laidByText := true, laidKinds := [.data, .data, .data], laidTests := true, laidLooks := .later }
def NumHalvesCardSaid : Prop := Claim7.holds Tryd.pinned (.plain (OpenSpec.ofChange numHalvesSpec)) numHalvesCard

/-- THE SECOND FORM's CARD OF 'racelaw1.NumPrints'. -/
def numPrintsUptoCard : Claim7 := { stood := { row := numPrintsUptoRow, standIns := [], harness := (true, "64e9cb1d2521b82af97c2b41f0ca13d5882631a8abb65e8f73980be9454ad207"), looks := false }, kinds := [], alts := [], laidByText := true, laidKinds := [.data, .data, .data], laidTests := true, laidLooks := .later }
def NumPrintsUptoCardSaid : Prop := Claim7.holds Tryd.pinned (.plain (OpenSpec.upto numPrintsSpec)) numPrintsUptoCard

/-- THE SECOND FORM's CARD OF 'racelaw1.NumParses'. -/
def numParsesUptoCard : Claim7 := { stood := { row := numParsesUptoRow, standIns := [], harness := (true, "64e9cb1d2521b82af97c2b41f0ca13d5882631a8abb65e8f73980be9454ad207"), looks := false }, kinds := [], alts := [], laidByText := true, laidKinds := [.data, .data, .data], laidTests := true, laidLooks := .later }
def NumParsesUptoCardSaid : Prop := Claim7.holds Tryd.pinned (.plain (OpenSpec.upto numParsesSpec)) numParsesUptoCard

/-- THE SECOND FORM's CARD OF 'racelaw1.NumSigns'. -/
def numSignsUptoCard : Claim7 := { stood := { row := numSignsUptoRow, standIns := [], harness := (true, "64e9cb1d2521b82af97c2b41f0ca13d5882631a8abb65e8f73980be9454ad207"), looks := false }, kinds := [], alts := [], laidByText := true, laidKinds := [.data, .data, .data], laidTests := true, laidLooks := .later }
def NumSignsUptoCardSaid : Prop := Claim7.holds Tryd.pinned (.plain (OpenSpec.upto numSignsSpec)) numSignsUptoCard

/-- THE SECOND FORM's CARD OF 'racelaw1.NumBits'. -/
def numBitsUptoCard : Claim7 := { stood := { row := numBitsUptoRow, standIns := [], harness := (true, "64e9cb1d2521b82af97c2b41f0ca13d5882631a8abb65e8f73980be9454ad207"), looks := false }, kinds := [], alts := [], laidByText := true, laidKinds := [.data, .data, .data], laidTests := true, laidLooks := .later }
def NumBitsUptoCardSaid : Prop := Claim7.holds Tryd.pinned (.plain (OpenSpec.upto numBitsSpec)) numBitsUptoCard

/-- THE SECOND FORM's CARD OF 'racelaw1.NumBack'. -/
def numBackUptoCard : Claim7 := { stood := { row := numBackUptoRow, standIns := [], harness := (true, "64e9cb1d2521b82af97c2b41f0ca13d5882631a8abb65e8f73980be9454ad207"), looks := false }, kinds := [], alts := [], laidByText := true, laidKinds := [.data, .data, .data], laidTests := true, laidLooks := .later }
def NumBackUptoCardSaid : Prop := Claim7.holds Tryd.pinned (.plain (OpenSpec.upto numBackSpec)) numBackUptoCard

/-- THE SECOND FORM's CARD OF 'racelaw1.NumOrder'. -/
def numOrderUptoCard : Claim7 := { stood := { row := numOrderUptoRow, standIns := [], harness := (true, "64e9cb1d2521b82af97c2b41f0ca13d5882631a8abb65e8f73980be9454ad207"), looks := false }, kinds := [], alts := [], laidByText := true, laidKinds := [.data, .data, .data], laidTests := true, laidLooks := .later }
def NumOrderUptoCardSaid : Prop := Claim7.holds Tryd.pinned (.plain (OpenSpec.upto numOrderSpec)) numOrderUptoCard

/-- THE SECOND FORM's CARD OF 'racelaw1.NumSums'. -/
def numSumsUptoCard : Claim7 := { stood := { row := numSumsUptoRow, standIns := [], harness := (true, "64e9cb1d2521b82af97c2b41f0ca13d5882631a8abb65e8f73980be9454ad207"), looks := false }, kinds := [], alts := [], laidByText := true, laidKinds := [.data, .data, .data], laidTests := true, laidLooks := .later }
def NumSumsUptoCardSaid : Prop := Claim7.holds Tryd.pinned (.plain (OpenSpec.upto numSumsSpec)) numSumsUptoCard

/-- THE SECOND FORM's CARD OF 'racelaw1.NumNext'. -/
def numNextUptoCard : Claim7 := { stood := { row := numNextUptoRow, standIns := [], harness := (true, "64e9cb1d2521b82af97c2b41f0ca13d5882631a8abb65e8f73980be9454ad207"), looks := false }, kinds := [], alts := [], laidByText := true, laidKinds := [.data, .data, .data], laidTests := true, laidLooks := .later }
def NumNextUptoCardSaid : Prop := Claim7.holds Tryd.pinned (.plain (OpenSpec.upto numNextSpec)) numNextUptoCard

/-- THE SECOND FORM's CARD OF 'racelaw1.NumEnds'. -/
def numEndsUptoCard : Claim7 := { stood := { row := numEndsUptoRow, standIns := [], harness := (true, "64e9cb1d2521b82af97c2b41f0ca13d5882631a8abb65e8f73980be9454ad207"), looks := false }, kinds := [], alts := [], laidByText := true, laidKinds := [.data, .data, .data], laidTests := true, laidLooks := .later }
def NumEndsUptoCardSaid : Prop := Claim7.holds Tryd.pinned (.plain (OpenSpec.upto numEndsSpec)) numEndsUptoCard

/-- THE SECOND FORM's CARD OF 'racelaw1.NumReckons'. -/
def numReckonsUptoCard : Claim7 := { stood := { row := numReckonsUptoRow, standIns := [], harness := (true, "64e9cb1d2521b82af97c2b41f0ca13d5882631a8abb65e8f73980be9454ad207"), looks := false }, kinds := [], alts := [], laidByText := true, laidKinds := [.data, .data, .data], laidTests := true, laidLooks := .later }
def NumReckonsUptoCardSaid : Prop := Claim7.holds Tryd.pinned (.plain (OpenSpec.upto numReckonsSpec)) numReckonsUptoCard

/-- THE SECOND FORM's CARD OF 'racelaw1.NumWholes'. -/
def numWholesUptoCard : Claim7 := { stood := { row := numWholesUptoRow, standIns := [], harness := (true, "64e9cb1d2521b82af97c2b41f0ca13d5882631a8abb65e8f73980be9454ad207"), looks := false }, kinds := [], alts := [], laidByText := true, laidKinds := [.data, .data, .data], laidTests := true, laidLooks := .later }
def NumWholesUptoCardSaid : Prop := Claim7.holds Tryd.pinned (.plain (OpenSpec.upto numWholesSpec)) numWholesUptoCard

/-- THE SECOND FORM's CARD OF 'racelaw1.NumHalves'. -/
def numHalvesUptoCard : Claim7 := { stood := { row := numHalvesUptoRow, standIns := [], harness := (true, "64e9cb1d2521b82af97c2b41f0ca13d5882631a8abb65e8f73980be9454ad207"), looks := false }, kinds := [], alts := [], laidByText := true, laidKinds := [.data, .data, .data], laidTests := true, laidLooks := .later }
def NumHalvesUptoCardSaid : Prop := Claim7.holds Tryd.pinned (.plain (OpenSpec.upto numHalvesSpec)) numHalvesUptoCard
end Rows
end Go.Proofs.YtachfcdkokndfaaDoor
