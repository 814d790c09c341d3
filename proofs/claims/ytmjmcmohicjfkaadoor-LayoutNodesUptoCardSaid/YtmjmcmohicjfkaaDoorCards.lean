/-
  DERIVED. GIVEN WITH THE SEED: THE CARDS: each row of YtmjmcmohicjfkaaDoorRows.lean that lists a variable, with what it lists TIED to the program's text (the seventh form; the later family's looks); each row that meets fmt, with fmt's text TOLD by the authors' own Lean function (tested against real Go, not proved from fmt's source: count such statements apart). THE CARD IS WHAT COUNTS. Prove the row's statement (the work); the ties are given (YtmjmcmohicjfkaaDoorTie.lean); close each card by the builder's one call (the guide's Derived/Test/ToyasCard.lean, 'card_holds'). Laid BY PROGRAM, IN A SANDBOX (cutbox-door.mjs). By AI agents, Wed Nov 11 2026. No macro, syntax, notation, axiom, sorry.
-/
import Derived.Test.YtmjmcmohicjfkaaDoorRows
import GoSem.ClaimSeven
namespace Go.Proofs.YtmjmcmohicjfkaaDoor
namespace Rows

/-- THE TIED CARD OF 'majordomolaw05.TablesUnlike'. -/
def tablesUnlikeCard : Claim7 := { stood := { row := tablesUnlikeRow, standIns := [], harness := (true, "711e8ca83005955f64ceece59a27bf0968b01c06a56cd03dfe7d88f47e26b93b"), looks := false }, kinds := [], alts := [], laidByText := true, laidKinds := [.data, .pinned], laidTests := true, laidLooks := .later }
def TablesUnlikeCardSaid : Prop := Claim7.holds Tryd.pinned (.plain (OpenSpec.ofChange tablesUnlikeSpec)) tablesUnlikeCard

/-- THE TIED CARD OF 'majordomolaw03.LayoutNodes'. -/
def layoutNodesCard : Claim7 := { stood := { row := layoutNodesRow, standIns := [], harness := (true, "711e8ca83005955f64ceece59a27bf0968b01c06a56cd03dfe7d88f47e26b93b"), looks := false }, kinds := [], alts := [], laidByText := true, laidKinds := [.data, .data, .pinned], laidTests := true, laidLooks := .later }
def LayoutNodesCardSaid : Prop := Claim7.holds Tryd.pinned (.plain (OpenSpec.ofChange layoutNodesSpec)) layoutNodesCard

/-- THE TIED CARD OF 'majordomolaw03.LayoutTakes'. -/
def layoutTakesCard : Claim7 := { stood := { row := layoutTakesRow, standIns := [], harness := (true, "711e8ca83005955f64ceece59a27bf0968b01c06a56cd03dfe7d88f47e26b93b"), looks := false }, kinds := [], alts := [], laidByText := true, laidKinds := [.data, .data, .pinned], laidTests := true, laidLooks := .later }
def LayoutTakesCardSaid : Prop := Claim7.holds Tryd.pinned (.plain (OpenSpec.ofChange layoutTakesSpec)) layoutTakesCard

/-- THE TIED CARD OF 'majordomolaw05.TablesOrder'. -/
def tablesOrderCard : Claim7 := { stood := { row := tablesOrderRow, standIns := [], harness := (true, "711e8ca83005955f64ceece59a27bf0968b01c06a56cd03dfe7d88f47e26b93b"), looks := false }, kinds := [], alts := [], laidByText := true, laidKinds := [.data, .pinned], laidTests := true, laidLooks := .later }
def TablesOrderCardSaid : Prop := Claim7.holds Tryd.pinned (.plain (OpenSpec.ofChange tablesOrderSpec)) tablesOrderCard

/-- THE TIED CARD OF 'majordomolaw05.TablesRows'. -/
def tablesRowsCard : Claim7 := { stood := { row := tablesRowsRow, standIns := [], harness := (true, "711e8ca83005955f64ceece59a27bf0968b01c06a56cd03dfe7d88f47e26b93b"), looks := false }, kinds := [], alts := [], laidByText := true, laidKinds := [.data, .pinned], laidTests := true, laidLooks := .later }
def TablesRowsCardSaid : Prop := Claim7.holds Tryd.pinned (.plain (OpenSpec.ofChange tablesRowsSpec)) tablesRowsCard

/-- THE SECOND FORM's CARD OF 'majordomolaw05.TablesUnlike'. -/
def tablesUnlikeUptoCard : Claim7 := { stood := { row := tablesUnlikeUptoRow, standIns := [], harness := (true, "711e8ca83005955f64ceece59a27bf0968b01c06a56cd03dfe7d88f47e26b93b"), looks := false }, kinds := [], alts := [], laidByText := true, laidKinds := [.data, .pinned], laidTests := true, laidLooks := .later }
def TablesUnlikeUptoCardSaid : Prop := Claim7.holds Tryd.pinned (.plain (OpenSpec.upto tablesUnlikeSpec)) tablesUnlikeUptoCard

/-- THE SECOND FORM's CARD OF 'majordomolaw03.LayoutNodes'. -/
def layoutNodesUptoCard : Claim7 := { stood := { row := layoutNodesUptoRow, standIns := [], harness := (true, "711e8ca83005955f64ceece59a27bf0968b01c06a56cd03dfe7d88f47e26b93b"), looks := false }, kinds := [], alts := [], laidByText := true, laidKinds := [.data, .data, .pinned], laidTests := true, laidLooks := .later }
def LayoutNodesUptoCardSaid : Prop := Claim7.holds Tryd.pinned (.plain (OpenSpec.upto layoutNodesSpec)) layoutNodesUptoCard

/-- THE SECOND FORM's CARD OF 'majordomolaw03.LayoutTakes'. -/
def layoutTakesUptoCard : Claim7 := { stood := { row := layoutTakesUptoRow, standIns := [], harness := (true, "711e8ca83005955f64ceece59a27bf0968b01c06a56cd03dfe7d88f47e26b93b"), looks := false }, kinds := [], alts := [], laidByText := true, laidKinds := [.data, .data, .pinned], laidTests := true, laidLooks := .later }
def LayoutTakesUptoCardSaid : Prop := Claim7.holds Tryd.pinned (.plain (OpenSpec.upto layoutTakesSpec)) layoutTakesUptoCard

/-- THE SECOND FORM's CARD OF 'majordomolaw05.TablesOrder'. -/
def tablesOrderUptoCard : Claim7 := { stood := { row := tablesOrderUptoRow, standIns := [], harness := (true, "711e8ca83005955f64ceece59a27bf0968b01c06a56cd03dfe7d88f47e26b93b"), looks := false }, kinds := [], alts := [], laidByText := true, laidKinds := [.data, .pinned], laidTests := true, laidLooks := .later }
def TablesOrderUptoCardSaid : Prop := Claim7.holds Tryd.pinned (.plain (OpenSpec.upto tablesOrderSpec)) tablesOrderUptoCard

/-- THE SECOND FORM's CARD OF 'majordomolaw05.TablesRows'. -/
def tablesRowsUptoCard : Claim7 := { stood := { row := tablesRowsUptoRow, standIns := [], harness := (true, "711e8ca83005955f64ceece59a27bf0968b01c06a56cd03dfe7d88f47e26b93b"), looks := false }, kinds := [], alts := [], laidByText := true, laidKinds := [.data, .pinned], laidTests := true, laidLooks := .later }
def TablesRowsUptoCardSaid : Prop := Claim7.holds Tryd.pinned (.plain (OpenSpec.upto tablesRowsSpec)) tablesRowsUptoCard
end Rows
end Go.Proofs.YtmjmcmohicjfkaaDoor
