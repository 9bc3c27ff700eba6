/-
  DERIVED. GIVEN WITH THE SEED: THE CARDS: each row of YtecgjhjglklcnaaDoorRows.lean that lists a variable, with what it lists TIED to the program's text (the seventh form; the later family's looks); each row that meets fmt, with fmt's text TOLD by the authors' own Lean function (tested against real Go, not proved from fmt's source: count such statements apart). THE CARD IS WHAT COUNTS. Prove the row's statement (the work); the ties are given (YtecgjhjglklcnaaDoorTie.lean); close each card by the builder's one call (the guide's Derived/Test/ToyasCard.lean, 'card_holds'). Laid BY PROGRAM, IN A SANDBOX (cutbox-door.mjs). By AI agents, Wed Nov 11 2026. No macro, syntax, notation, axiom, sorry.
-/
import Derived.Test.YtecgjhjglklcnaaDoorRows
import GoSem.ClaimSeven
namespace Go.Proofs.YtecgjhjglklcnaaDoor
namespace Rows

/-- THE TIED CARD OF 'racelaw3.DatumKinds'. -/
def datumKindsCard : Claim7 := { stood := { row := datumKindsRow, standIns := [], harness := (true, "6ed729256fd26777b442b51859ba5b95f80e311adf8883efa7cbc8ac7f0c60b0"), looks := false }, kinds := [], alts := [], laidByText := true, laidKinds := [.data, .data, .data], laidTests := true, laidLooks := .later }
def DatumKindsCardSaid : Prop := Claim7.holds Tryd.pinned (.plain (OpenSpec.ofChange datumKindsSpec)) datumKindsCard

/-- THE TIED CARD OF 'racelaw3.DatumTexts'. -/
def datumTextsCard : Claim7 := { stood := { row := datumTextsRow, standIns := [], harness := (true, "6ed729256fd26777b442b51859ba5b95f80e311adf8883efa7cbc8ac7f0c60b0"), looks := false }, kinds := [], alts := [], laidByText := true, laidKinds := [.data, .data, .data], laidTests := true, laidLooks := .later }
def DatumTextsCardSaid : Prop := Claim7.holds Tryd.pinned (.plain (OpenSpec.ofChange datumTextsSpec)) datumTextsCard

/-- THE TIED CARD OF 'racelaw3.DatumQuotes'. -/
def datumQuotesCard : Claim7 := { stood := { row := datumQuotesRow, standIns := [], harness := (true, "6ed729256fd26777b442b51859ba5b95f80e311adf8883efa7cbc8ac7f0c60b0"), looks := false }, kinds := [], alts := [], laidByText := true, laidKinds := [.data, .data, .data], laidTests := true, laidLooks := .later }
def DatumQuotesCardSaid : Prop := Claim7.holds Tryd.pinned (.plain (OpenSpec.ofChange datumQuotesSpec)) datumQuotesCard

/-- THE TIED CARD OF 'racelaw3.DatumAdds'. -/
def datumAddsCard : Claim7 := { stood := { row := datumAddsRow, standIns := [], harness := (true, "6ed729256fd26777b442b51859ba5b95f80e311adf8883efa7cbc8ac7f0c60b0"), looks := false }, kinds := [], alts := [], laidByText := true, laidKinds := [.data, .data, .data], laidTests := true, laidLooks := .later }
def DatumAddsCardSaid : Prop := Claim7.holds Tryd.pinned (.plain (OpenSpec.ofChange datumAddsSpec)) datumAddsCard

/-- THE TIED CARD OF 'racelaw3.DatumCompares'. -/
def datumComparesCard : Claim7 := { stood := { row := datumComparesRow, standIns := [], harness := (true, "6ed729256fd26777b442b51859ba5b95f80e311adf8883efa7cbc8ac7f0c60b0"), looks := false }, kinds := [], alts := [], laidByText := true, laidKinds := [.data, .data, .data], laidTests := true, laidLooks := .later }
def DatumComparesCardSaid : Prop := Claim7.holds Tryd.pinned (.plain (OpenSpec.ofChange datumComparesSpec)) datumComparesCard

/-- THE TIED CARD OF 'racelaw3.DatumOrder'. -/
def datumOrderCard : Claim7 := { stood := { row := datumOrderRow, standIns := [], harness := (true, "6ed729256fd26777b442b51859ba5b95f80e311adf8883efa7cbc8ac7f0c60b0"), looks := false }, kinds := [], alts := [], laidByText := true, laidKinds := [.data, .data, .data], laidTests := true, laidLooks := .later }
def DatumOrderCardSaid : Prop := Claim7.holds Tryd.pinned (.plain (OpenSpec.ofChange datumOrderSpec)) datumOrderCard

/-- THE TIED CARD OF 'racelaw3.DatumBytes'. -/
def datumBytesCard : Claim7 := { stood := { row := datumBytesRow, standIns := [], harness := (true, "6ed729256fd26777b442b51859ba5b95f80e311adf8883efa7cbc8ac7f0c60b0"), looks := false }, kinds := [], alts := [], laidByText := true, laidKinds := [.data, .data, .data], laidTests := true, laidLooks := .later }
def DatumBytesCardSaid : Prop := Claim7.holds Tryd.pinned (.plain (OpenSpec.ofChange datumBytesSpec)) datumBytesCard

/-- THE TIED CARD OF 'racelaw3.DatumBack'. -/
def datumBackCard : Claim7 := { stood := { row := datumBackRow, standIns := [], harness := (true, "6ed729256fd26777b442b51859ba5b95f80e311adf8883efa7cbc8ac7f0c60b0"), looks := false }, kinds := [], alts := [], laidByText := true, laidKinds := [.data, .data, .data], laidTests := true, laidLooks := .later }
def DatumBackCardSaid : Prop := Claim7.holds Tryd.pinned (.plain (OpenSpec.ofChange datumBackSpec)) datumBackCard

/-- THE SECOND FORM's CARD OF 'racelaw3.DatumKinds'. -/
def datumKindsUptoCard : Claim7 := { stood := { row := datumKindsUptoRow, standIns := [], harness := (true, "6ed729256fd26777b442b51859ba5b95f80e311adf8883efa7cbc8ac7f0c60b0"), looks := false }, kinds := [], alts := [], laidByText := true, laidKinds := [.data, .data, .data], laidTests := true, laidLooks := .later }
def DatumKindsUptoCardSaid : Prop := Claim7.holds Tryd.pinned (.plain (OpenSpec.upto datumKindsSpec)) datumKindsUptoCard

/-- THE SECOND FORM's CARD OF 'racelaw3.DatumTexts'. -/
def datumTextsUptoCard : Claim7 := { stood := { row := datumTextsUptoRow, standIns := [], harness := (true, "6ed729256fd26777b442b51859ba5b95f80e311adf8883efa7cbc8ac7f0c60b0"), looks := false }, kinds := [], alts := [], laidByText := true, laidKinds := [.data, .data, .data], laidTests := true, laidLooks := .later }
def DatumTextsUptoCardSaid : Prop := Claim7.holds Tryd.pinned (.plain (OpenSpec.upto datumTextsSpec)) datumTextsUptoCard

/-- THE SECOND FORM's CARD OF 'racelaw3.DatumQuotes'. -/
def datumQuotesUptoCard : Claim7 := { stood := { row := datumQuotesUptoRow, standIns := [], harness := (true, "6ed729256fd26777b442b51859ba5b95f80e311adf8883efa7cbc8ac7f0c60b0"), looks := false }, kinds := [], alts := [], laidByText := true, laidKinds := [.data, .data, .data], laidTests := true, laidLooks := .later }
def DatumQuotesUptoCardSaid : Prop := Claim7.holds Tryd.pinned (.plain (OpenSpec.upto datumQuotesSpec)) datumQuotesUptoCard

/-- THE SECOND FORM's CARD OF 'racelaw3.DatumAdds'. -/
def datumAddsUptoCard : Claim7 := { stood := { row := datumAddsUptoRow, standIns := [], harness := (true, "6ed729256fd26777b442b51859ba5b95f80e311adf8883efa7cbc8ac7f0c60b0"), looks := false }, kinds := [], alts := [], laidByText := true, laidKinds := [.data, .data, .data], laidTests := true, laidLooks := .later }
def DatumAddsUptoCardSaid : Prop := Claim7.holds Tryd.pinned (.plain (OpenSpec.upto datumAddsSpec)) datumAddsUptoCard

/-- THE SECOND FORM's CARD OF 'racelaw3.DatumCompares'. -/
def datumComparesUptoCard : Claim7 := { stood := { row := datumComparesUptoRow, standIns := [], harness := (true, "6ed729256fd26777b442b51859ba5b95f80e311adf8883efa7cbc8ac7f0c60b0"), looks := false }, kinds := [], alts := [], laidByText := true, laidKinds := [.data, .data, .data], laidTests := true, laidLooks := .later }
def DatumComparesUptoCardSaid : Prop := Claim7.holds Tryd.pinned (.plain (OpenSpec.upto datumComparesSpec)) datumComparesUptoCard

/-- THE SECOND FORM's CARD OF 'racelaw3.DatumOrder'. -/
def datumOrderUptoCard : Claim7 := { stood := { row := datumOrderUptoRow, standIns := [], harness := (true, "6ed729256fd26777b442b51859ba5b95f80e311adf8883efa7cbc8ac7f0c60b0"), looks := false }, kinds := [], alts := [], laidByText := true, laidKinds := [.data, .data, .data], laidTests := true, laidLooks := .later }
def DatumOrderUptoCardSaid : Prop := Claim7.holds Tryd.pinned (.plain (OpenSpec.upto datumOrderSpec)) datumOrderUptoCard

/-- THE SECOND FORM's CARD OF 'racelaw3.DatumBytes'. -/
def datumBytesUptoCard : Claim7 := { stood := { row := datumBytesUptoRow, standIns := [], harness := (true, "6ed729256fd26777b442b51859ba5b95f80e311adf8883efa7cbc8ac7f0c60b0"), looks := false }, kinds := [], alts := [], laidByText := true, laidKinds := [.data, .data, .data], laidTests := true, laidLooks := .later }
def DatumBytesUptoCardSaid : Prop := Claim7.holds Tryd.pinned (.plain (OpenSpec.upto datumBytesSpec)) datumBytesUptoCard

/-- THE SECOND FORM's CARD OF 'racelaw3.DatumBack'. -/
def datumBackUptoCard : Claim7 := { stood := { row := datumBackUptoRow, standIns := [], harness := (true, "6ed729256fd26777b442b51859ba5b95f80e311adf8883efa7cbc8ac7f0c60b0"), looks := false }, kinds := [], alts := [], laidByText := true, laidKinds := [.data, .data, .data], laidTests := true, laidLooks := .later }
def DatumBackUptoCardSaid : Prop := Claim7.holds Tryd.pinned (.plain (OpenSpec.upto datumBackSpec)) datumBackUptoCard
end Rows
end Go.Proofs.YtecgjhjglklcnaaDoor
