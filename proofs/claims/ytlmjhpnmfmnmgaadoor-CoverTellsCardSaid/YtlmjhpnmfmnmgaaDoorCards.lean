/-
  DERIVED. GIVEN WITH THE SEED: THE CARDS: each row of YtlmjhpnmfmnmgaaDoorRows.lean that lists a variable, with what it lists TIED to the program's text (the seventh form; the later family's looks); each row that meets fmt, with fmt's text TOLD by the authors' own Lean function (tested against real Go, not proved from fmt's source: count such statements apart). THE CARD IS WHAT COUNTS. Prove the row's statement (the work); the ties are given (YtlmjhpnmfmnmgaaDoorTie.lean); close each card by the builder's one call (the guide's Derived/Test/ToyasCard.lean, 'card_holds'). Laid BY PROGRAM, IN A SANDBOX (cutbox-door.mjs). By AI agents, Wed Nov 11 2026. No macro, syntax, notation, axiom, sorry.
-/
import Derived.Test.YtlmjhpnmfmnmgaaDoorRows
import GoSem.ClaimSeven
namespace Go.Proofs.YtlmjhpnmfmnmgaaDoor
namespace Rows

/-- THE TIED CARD OF 'palletlaw24.CoverTells'. -/
def coverTellsCard : Claim7 := { stood := { row := coverTellsRow, standIns := [], harness := (true, "fca51c1127abe396201119b1a65a5416d6d9d503135c32425230788a095605eb"), looks := false }, kinds := [], alts := [], laidByText := true, laidKinds := [.data, .data, .data], laidTests := true, laidLooks := .later }
def CoverTellsCardSaid : Prop := Claim7.holds Tryd.pinned (.plain (OpenSpec.ofChange coverTellsSpec)) coverTellsCard

/-- THE TIED CARD OF 'palletlaw24.CoverExact'. -/
def coverExactCard : Claim7 := { stood := { row := coverExactRow, standIns := [], harness := (true, "fca51c1127abe396201119b1a65a5416d6d9d503135c32425230788a095605eb"), looks := false }, kinds := [], alts := [], laidByText := true, laidKinds := [.data, .data, .data], laidTests := true, laidLooks := .later }
def CoverExactCardSaid : Prop := Claim7.holds Tryd.pinned (.plain (OpenSpec.ofChange coverExactSpec)) coverExactCard

/-- THE TIED CARD OF 'palletlaw24.CoverGrows'. -/
def coverGrowsCard : Claim7 := { stood := { row := coverGrowsRow, standIns := [], harness := (true, "fca51c1127abe396201119b1a65a5416d6d9d503135c32425230788a095605eb"), looks := false }, kinds := [], alts := [], laidByText := true, laidKinds := [.data, .data, .data], laidTests := true, laidLooks := .later }
def CoverGrowsCardSaid : Prop := Claim7.holds Tryd.pinned (.plain (OpenSpec.ofChange coverGrowsSpec)) coverGrowsCard

/-- THE TIED CARD OF 'palletlaw14.LexRemarks'. -/
def lexRemarksCard : Claim7 := { stood := { row := lexRemarksRow, standIns := [], harness := (true, "fca51c1127abe396201119b1a65a5416d6d9d503135c32425230788a095605eb"), looks := false }, kinds := [], alts := [], laidByText := true, laidKinds := [.data, .pinned], laidTests := true, laidLooks := .later }
def LexRemarksCardSaid : Prop := Claim7.holds Tryd.pinned (.plain (OpenSpec.ofChange lexRemarksSpec)) lexRemarksCard

/-- THE TIED CARD OF 'palletlaw14.LexPlaces'. -/
def lexPlacesCard : Claim7 := { stood := { row := lexPlacesRow, standIns := [], harness := (true, "fca51c1127abe396201119b1a65a5416d6d9d503135c32425230788a095605eb"), looks := false }, kinds := [], alts := [], laidByText := true, laidKinds := [.data, .pinned], laidTests := true, laidLooks := .later }
def LexPlacesCardSaid : Prop := Claim7.holds Tryd.pinned (.plain (OpenSpec.ofChange lexPlacesSpec)) lexPlacesCard

/-- THE TIED CARD OF 'palletlaw14.LexNumbers'. -/
def lexNumbersCard : Claim7 := { stood := { row := lexNumbersRow, standIns := [], harness := (true, "fca51c1127abe396201119b1a65a5416d6d9d503135c32425230788a095605eb"), looks := false }, kinds := [], alts := [], laidByText := true, laidKinds := [.data, .pinned], laidTests := true, laidLooks := .later }
def LexNumbersCardSaid : Prop := Claim7.holds Tryd.pinned (.plain (OpenSpec.ofChange lexNumbersSpec)) lexNumbersCard

/-- THE TIED CARD OF 'palletlaw14.LexBack'. -/
def lexBackCard : Claim7 := { stood := { row := lexBackRow, standIns := [], harness := (true, "fca51c1127abe396201119b1a65a5416d6d9d503135c32425230788a095605eb"), looks := false }, kinds := [], alts := [], laidByText := true, laidKinds := [.data, .pinned], laidTests := true, laidLooks := .later }
def LexBackCardSaid : Prop := Claim7.holds Tryd.pinned (.plain (OpenSpec.ofChange lexBackSpec)) lexBackCard

/-- THE TIED CARD OF 'palletlaw14.LexTells'. -/
def lexTellsCard : Claim7 := { stood := { row := lexTellsRow, standIns := [], harness := (true, "fca51c1127abe396201119b1a65a5416d6d9d503135c32425230788a095605eb"), looks := false }, kinds := [], alts := [], laidByText := true, laidKinds := [.data, .pinned], laidTests := true, laidLooks := .later }
def LexTellsCardSaid : Prop := Claim7.holds Tryd.pinned (.plain (OpenSpec.ofChange lexTellsSpec)) lexTellsCard

/-- THE SECOND FORM's CARD OF 'palletlaw24.CoverTells'. -/
def coverTellsUptoCard : Claim7 := { stood := { row := coverTellsUptoRow, standIns := [], harness := (true, "fca51c1127abe396201119b1a65a5416d6d9d503135c32425230788a095605eb"), looks := false }, kinds := [], alts := [], laidByText := true, laidKinds := [.data, .data, .data], laidTests := true, laidLooks := .later }
def CoverTellsUptoCardSaid : Prop := Claim7.holds Tryd.pinned (.plain (OpenSpec.upto coverTellsSpec)) coverTellsUptoCard

/-- THE SECOND FORM's CARD OF 'palletlaw24.CoverExact'. -/
def coverExactUptoCard : Claim7 := { stood := { row := coverExactUptoRow, standIns := [], harness := (true, "fca51c1127abe396201119b1a65a5416d6d9d503135c32425230788a095605eb"), looks := false }, kinds := [], alts := [], laidByText := true, laidKinds := [.data, .data, .data], laidTests := true, laidLooks := .later }
def CoverExactUptoCardSaid : Prop := Claim7.holds Tryd.pinned (.plain (OpenSpec.upto coverExactSpec)) coverExactUptoCard

/-- THE SECOND FORM's CARD OF 'palletlaw24.CoverGrows'. -/
def coverGrowsUptoCard : Claim7 := { stood := { row := coverGrowsUptoRow, standIns := [], harness := (true, "fca51c1127abe396201119b1a65a5416d6d9d503135c32425230788a095605eb"), looks := false }, kinds := [], alts := [], laidByText := true, laidKinds := [.data, .data, .data], laidTests := true, laidLooks := .later }
def CoverGrowsUptoCardSaid : Prop := Claim7.holds Tryd.pinned (.plain (OpenSpec.upto coverGrowsSpec)) coverGrowsUptoCard

/-- THE SECOND FORM's CARD OF 'palletlaw14.LexRemarks'. -/
def lexRemarksUptoCard : Claim7 := { stood := { row := lexRemarksUptoRow, standIns := [], harness := (true, "fca51c1127abe396201119b1a65a5416d6d9d503135c32425230788a095605eb"), looks := false }, kinds := [], alts := [], laidByText := true, laidKinds := [.data, .pinned], laidTests := true, laidLooks := .later }
def LexRemarksUptoCardSaid : Prop := Claim7.holds Tryd.pinned (.plain (OpenSpec.upto lexRemarksSpec)) lexRemarksUptoCard

/-- THE SECOND FORM's CARD OF 'palletlaw14.LexPlaces'. -/
def lexPlacesUptoCard : Claim7 := { stood := { row := lexPlacesUptoRow, standIns := [], harness := (true, "fca51c1127abe396201119b1a65a5416d6d9d503135c32425230788a095605eb"), looks := false }, kinds := [], alts := [], laidByText := true, laidKinds := [.data, .pinned], laidTests := true, laidLooks := .later }
def LexPlacesUptoCardSaid : Prop := Claim7.holds Tryd.pinned (.plain (OpenSpec.upto lexPlacesSpec)) lexPlacesUptoCard

/-- THE SECOND FORM's CARD OF 'palletlaw14.LexNumbers'. -/
def lexNumbersUptoCard : Claim7 := { stood := { row := lexNumbersUptoRow, standIns := [], harness := (true, "fca51c1127abe396201119b1a65a5416d6d9d503135c32425230788a095605eb"), looks := false }, kinds := [], alts := [], laidByText := true, laidKinds := [.data, .pinned], laidTests := true, laidLooks := .later }
def LexNumbersUptoCardSaid : Prop := Claim7.holds Tryd.pinned (.plain (OpenSpec.upto lexNumbersSpec)) lexNumbersUptoCard

/-- THE SECOND FORM's CARD OF 'palletlaw14.LexBack'. -/
def lexBackUptoCard : Claim7 := { stood := { row := lexBackUptoRow, standIns := [], harness := (true, "fca51c1127abe396201119b1a65a5416d6d9d503135c32425230788a095605eb"), looks := false }, kinds := [], alts := [], laidByText := true, laidKinds := [.data, .pinned], laidTests := true, laidLooks := .later }
def LexBackUptoCardSaid : Prop := Claim7.holds Tryd.pinned (.plain (OpenSpec.upto lexBackSpec)) lexBackUptoCard

/-- THE SECOND FORM's CARD OF 'palletlaw14.LexTells'. -/
def lexTellsUptoCard : Claim7 := { stood := { row := lexTellsUptoRow, standIns := [], harness := (true, "fca51c1127abe396201119b1a65a5416d6d9d503135c32425230788a095605eb"), looks := false }, kinds := [], alts := [], laidByText := true, laidKinds := [.data, .pinned], laidTests := true, laidLooks := .later }
def LexTellsUptoCardSaid : Prop := Claim7.holds Tryd.pinned (.plain (OpenSpec.upto lexTellsSpec)) lexTellsUptoCard
end Rows
end Go.Proofs.YtlmjhpnmfmnmgaaDoor
