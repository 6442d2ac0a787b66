/-
  DERIVED. GIVEN WITH THE SEED: THE CARDS: each row of YtolfcdjbchdkgaaDoorRows.lean that lists a variable, with what it lists TIED to the program's text (the seventh form; the later family's looks); each row that meets fmt, with fmt's text TOLD by the authors' own Lean function (tested against real Go, not proved from fmt's source: count such statements apart). THE CARD IS WHAT COUNTS. Prove the row's statement (the work); the ties are given (YtolfcdjbchdkgaaDoorTie.lean); close each card by the builder's one call (the guide's Derived/Test/ToyasCard.lean, 'card_holds'). Laid BY PROGRAM, IN A SANDBOX (cutbox-door.mjs). By AI agents, Wed Nov 11 2026. No macro, syntax, notation, axiom, sorry.
-/
import Derived.Test.YtolfcdjbchdkgaaDoorRows
import GoSem.ClaimSeven
namespace Go.Proofs.YtolfcdjbchdkgaaDoor
namespace Rows

/-- THE TIED CARD OF 'treadlelaw05.SpanPlays'. -/
def spanPlaysCard : Claim7 := { stood := { row := spanPlaysRow, standIns := [], harness := (true, "420b7c9b758b7d467ed3fa79469ec42a709c9575e54d241a0f06166ae375ec92"), looks := false }, kinds := [], alts := [], laidByText := true, laidKinds := [.data], laidTests := true, laidLooks := .later }
def SpanPlaysCardSaid : Prop := Claim7.holds Tryd.pinned (.plain (OpenSpec.ofChange spanPlaysSpec)) spanPlaysCard

/-- THE TIED CARD OF 'treadlelaw07.CellApart'. -/
def cellApartCard : Claim7 := { stood := { row := cellApartRow, standIns := [], harness := (true, "420b7c9b758b7d467ed3fa79469ec42a709c9575e54d241a0f06166ae375ec92"), looks := false }, kinds := [], alts := [], laidByText := true, laidKinds := [.data], laidTests := true, laidLooks := .later }
def CellApartCardSaid : Prop := Claim7.holds Tryd.pinned (.plain (OpenSpec.ofChange cellApartSpec)) cellApartCard

/-- THE TIED CARD OF 'treadlelaw07.CellOwn'. -/
def cellOwnCard : Claim7 := { stood := { row := cellOwnRow, standIns := [], harness := (true, "420b7c9b758b7d467ed3fa79469ec42a709c9575e54d241a0f06166ae375ec92"), looks := false }, kinds := [], alts := [], laidByText := true, laidKinds := [.data], laidTests := true, laidLooks := .later }
def CellOwnCardSaid : Prop := Claim7.holds Tryd.pinned (.plain (OpenSpec.ofChange cellOwnSpec)) cellOwnCard

/-- THE TIED CARD OF 'treadlelaw07.CellPlays'. -/
def cellPlaysCard : Claim7 := { stood := { row := cellPlaysRow, standIns := [], harness := (true, "420b7c9b758b7d467ed3fa79469ec42a709c9575e54d241a0f06166ae375ec92"), looks := false }, kinds := [], alts := [], laidByText := true, laidKinds := [.data], laidTests := true, laidLooks := .later }
def CellPlaysCardSaid : Prop := Claim7.holds Tryd.pinned (.plain (OpenSpec.ofChange cellPlaysSpec)) cellPlaysCard

/-- THE TIED CARD OF 'treadlelaw07.CellBack'. -/
def cellBackCard : Claim7 := { stood := { row := cellBackRow, standIns := [], harness := (true, "420b7c9b758b7d467ed3fa79469ec42a709c9575e54d241a0f06166ae375ec92"), looks := false }, kinds := [], alts := [], laidByText := true, laidKinds := [.data], laidTests := true, laidLooks := .later }
def CellBackCardSaid : Prop := Claim7.holds Tryd.pinned (.plain (OpenSpec.ofChange cellBackSpec)) cellBackCard

/-- THE SECOND FORM's CARD OF 'treadlelaw05.SpanPlays'. -/
def spanPlaysUptoCard : Claim7 := { stood := { row := spanPlaysUptoRow, standIns := [], harness := (true, "420b7c9b758b7d467ed3fa79469ec42a709c9575e54d241a0f06166ae375ec92"), looks := false }, kinds := [], alts := [], laidByText := true, laidKinds := [.data], laidTests := true, laidLooks := .later }
def SpanPlaysUptoCardSaid : Prop := Claim7.holds Tryd.pinned (.plain (OpenSpec.upto spanPlaysSpec)) spanPlaysUptoCard

/-- THE SECOND FORM's CARD OF 'treadlelaw07.CellApart'. -/
def cellApartUptoCard : Claim7 := { stood := { row := cellApartUptoRow, standIns := [], harness := (true, "420b7c9b758b7d467ed3fa79469ec42a709c9575e54d241a0f06166ae375ec92"), looks := false }, kinds := [], alts := [], laidByText := true, laidKinds := [.data], laidTests := true, laidLooks := .later }
def CellApartUptoCardSaid : Prop := Claim7.holds Tryd.pinned (.plain (OpenSpec.upto cellApartSpec)) cellApartUptoCard

/-- THE SECOND FORM's CARD OF 'treadlelaw07.CellOwn'. -/
def cellOwnUptoCard : Claim7 := { stood := { row := cellOwnUptoRow, standIns := [], harness := (true, "420b7c9b758b7d467ed3fa79469ec42a709c9575e54d241a0f06166ae375ec92"), looks := false }, kinds := [], alts := [], laidByText := true, laidKinds := [.data], laidTests := true, laidLooks := .later }
def CellOwnUptoCardSaid : Prop := Claim7.holds Tryd.pinned (.plain (OpenSpec.upto cellOwnSpec)) cellOwnUptoCard

/-- THE SECOND FORM's CARD OF 'treadlelaw07.CellPlays'. -/
def cellPlaysUptoCard : Claim7 := { stood := { row := cellPlaysUptoRow, standIns := [], harness := (true, "420b7c9b758b7d467ed3fa79469ec42a709c9575e54d241a0f06166ae375ec92"), looks := false }, kinds := [], alts := [], laidByText := true, laidKinds := [.data], laidTests := true, laidLooks := .later }
def CellPlaysUptoCardSaid : Prop := Claim7.holds Tryd.pinned (.plain (OpenSpec.upto cellPlaysSpec)) cellPlaysUptoCard

/-- THE SECOND FORM's CARD OF 'treadlelaw07.CellBack'. -/
def cellBackUptoCard : Claim7 := { stood := { row := cellBackUptoRow, standIns := [], harness := (true, "420b7c9b758b7d467ed3fa79469ec42a709c9575e54d241a0f06166ae375ec92"), looks := false }, kinds := [], alts := [], laidByText := true, laidKinds := [.data], laidTests := true, laidLooks := .later }
def CellBackUptoCardSaid : Prop := Claim7.holds Tryd.pinned (.plain (OpenSpec.upto cellBackSpec)) cellBackUptoCard
end Rows
end Go.Proofs.YtolfcdjbchdkgaaDoor
