/-
  DERIVED. GIVEN WITH THE SEED: THE CARDS: each row of YtnpkkcbgfnnfmaaDoorRows.lean that lists a variable, with what it lists TIED to the program's text (the seventh form; the later family's looks); each row that meets fmt, with fmt's text TOLD by the authors' own Lean function (tested against real Go, not proved from fmt's source: count such statements apart). THE CARD IS WHAT COUNTS. Prove the row's statement (the work); the ties are given (YtnpkkcbgfnnfmaaDoorTie.lean); close each card by the builder's one call (the guide's Derived/Test/ToyasCard.lean, 'card_holds'). Laid BY PROGRAM, IN A SANDBOX (cutbox-door.mjs). By AI agents, Wed Nov 11 2026. No macro, syntax, notation, axiom, sorry.
-/
import Derived.Test.YtnpkkcbgfnnfmaaDoorRows
import GoSem.ClaimSeven
namespace Go.Proofs.YtnpkkcbgfnnfmaaDoor
namespace Rows

/-- THE TIED CARD OF 'smaltolaw10.HeaderTexts'. -/
def headerTextsCard : Claim7 := { stood := { row := headerTextsRow, standIns := [], harness := (true, "3a194311f093e139d20d3f943578b0e50ffbdf4d94dbc835f92c15c81e43a4c4"), looks := false }, kinds := [], alts := [], laidByText := true, laidKinds := [.data, .data, .data], laidTests := true, laidLooks := .later }
def HeaderTextsCardSaid : Prop := Claim7.holds Tryd.pinned (.plain (OpenSpec.ofChange headerTextsSpec)) headerTextsCard

/-- THE TIED CARD OF 'smaltolaw10.HeaderCuts'. -/
def headerCutsCard : Claim7 := { stood := { row := headerCutsRow, standIns := [], harness := (true, "3a194311f093e139d20d3f943578b0e50ffbdf4d94dbc835f92c15c81e43a4c4"), looks := false }, kinds := [], alts := [], laidByText := true, laidKinds := [.data, .data, .data], laidTests := true, laidLooks := .later }
def HeaderCutsCardSaid : Prop := Claim7.holds Tryd.pinned (.plain (OpenSpec.ofChange headerCutsSpec)) headerCutsCard

/-- THE TIED CARD OF 'smaltolaw11.PnmSizes'. -/
def pnmSizesCard : Claim7 := { stood := { row := pnmSizesRow, standIns := [], harness := (true, "3a194311f093e139d20d3f943578b0e50ffbdf4d94dbc835f92c15c81e43a4c4"), looks := false }, kinds := [], alts := [], laidByText := true, laidKinds := [.data, .data, .data], laidTests := true, laidLooks := .later }
def PnmSizesCardSaid : Prop := Claim7.holds Tryd.pinned (.plain (OpenSpec.ofChange pnmSizesSpec)) pnmSizesCard

/-- THE TIED CARD OF 'smaltolaw11.PnmDecodes'. -/
def pnmDecodesCard : Claim7 := { stood := { row := pnmDecodesRow, standIns := [], harness := (true, "3a194311f093e139d20d3f943578b0e50ffbdf4d94dbc835f92c15c81e43a4c4"), looks := false }, kinds := [], alts := [], laidByText := true, laidKinds := [.data, .data, .data], laidTests := true, laidLooks := .later }
def PnmDecodesCardSaid : Prop := Claim7.holds Tryd.pinned (.plain (OpenSpec.ofChange pnmDecodesSpec)) pnmDecodesCard

/-- THE TIED CARD OF 'smaltolaw11.PnmCuts'. -/
def pnmCutsCard : Claim7 := { stood := { row := pnmCutsRow, standIns := [], harness := (true, "3a194311f093e139d20d3f943578b0e50ffbdf4d94dbc835f92c15c81e43a4c4"), looks := false }, kinds := [], alts := [], laidByText := true, laidKinds := [.data, .data, .data], laidTests := true, laidLooks := .later }
def PnmCutsCardSaid : Prop := Claim7.holds Tryd.pinned (.plain (OpenSpec.ofChange pnmCutsSpec)) pnmCutsCard

/-- THE TIED CARD OF 'smaltolaw11.PnmSamples'. -/
def pnmSamplesCard : Claim7 := { stood := { row := pnmSamplesRow, standIns := [], harness := (true, "3a194311f093e139d20d3f943578b0e50ffbdf4d94dbc835f92c15c81e43a4c4"), looks := false }, kinds := [], alts := [], laidByText := true, laidKinds := [.data, .data, .data], laidTests := true, laidLooks := .later }
def PnmSamplesCardSaid : Prop := Claim7.holds Tryd.pinned (.plain (OpenSpec.ofChange pnmSamplesSpec)) pnmSamplesCard

/-- THE TIED CARD OF 'smaltolaw11.PnmBack'. -/
def pnmBackCard : Claim7 := { stood := { row := pnmBackRow, standIns := [], harness := (true, "3a194311f093e139d20d3f943578b0e50ffbdf4d94dbc835f92c15c81e43a4c4"), looks := false }, kinds := [], alts := [], laidByText := true, laidKinds := [.data, .data, .data], laidTests := true, laidLooks := .later }
def PnmBackCardSaid : Prop := Claim7.holds Tryd.pinned (.plain (OpenSpec.ofChange pnmBackSpec)) pnmBackCard

/-- THE SECOND FORM's CARD OF 'smaltolaw10.HeaderTexts'. -/
def headerTextsUptoCard : Claim7 := { stood := { row := headerTextsUptoRow, standIns := [], harness := (true, "3a194311f093e139d20d3f943578b0e50ffbdf4d94dbc835f92c15c81e43a4c4"), looks := false }, kinds := [], alts := [], laidByText := true, laidKinds := [.data, .data, .data], laidTests := true, laidLooks := .later }
def HeaderTextsUptoCardSaid : Prop := Claim7.holds Tryd.pinned (.plain (OpenSpec.upto headerTextsSpec)) headerTextsUptoCard

/-- THE SECOND FORM's CARD OF 'smaltolaw10.HeaderCuts'. -/
def headerCutsUptoCard : Claim7 := { stood := { row := headerCutsUptoRow, standIns := [], harness := (true, "3a194311f093e139d20d3f943578b0e50ffbdf4d94dbc835f92c15c81e43a4c4"), looks := false }, kinds := [], alts := [], laidByText := true, laidKinds := [.data, .data, .data], laidTests := true, laidLooks := .later }
def HeaderCutsUptoCardSaid : Prop := Claim7.holds Tryd.pinned (.plain (OpenSpec.upto headerCutsSpec)) headerCutsUptoCard

/-- THE SECOND FORM's CARD OF 'smaltolaw11.PnmSizes'. -/
def pnmSizesUptoCard : Claim7 := { stood := { row := pnmSizesUptoRow, standIns := [], harness := (true, "3a194311f093e139d20d3f943578b0e50ffbdf4d94dbc835f92c15c81e43a4c4"), looks := false }, kinds := [], alts := [], laidByText := true, laidKinds := [.data, .data, .data], laidTests := true, laidLooks := .later }
def PnmSizesUptoCardSaid : Prop := Claim7.holds Tryd.pinned (.plain (OpenSpec.upto pnmSizesSpec)) pnmSizesUptoCard

/-- THE SECOND FORM's CARD OF 'smaltolaw11.PnmDecodes'. -/
def pnmDecodesUptoCard : Claim7 := { stood := { row := pnmDecodesUptoRow, standIns := [], harness := (true, "3a194311f093e139d20d3f943578b0e50ffbdf4d94dbc835f92c15c81e43a4c4"), looks := false }, kinds := [], alts := [], laidByText := true, laidKinds := [.data, .data, .data], laidTests := true, laidLooks := .later }
def PnmDecodesUptoCardSaid : Prop := Claim7.holds Tryd.pinned (.plain (OpenSpec.upto pnmDecodesSpec)) pnmDecodesUptoCard

/-- THE SECOND FORM's CARD OF 'smaltolaw11.PnmCuts'. -/
def pnmCutsUptoCard : Claim7 := { stood := { row := pnmCutsUptoRow, standIns := [], harness := (true, "3a194311f093e139d20d3f943578b0e50ffbdf4d94dbc835f92c15c81e43a4c4"), looks := false }, kinds := [], alts := [], laidByText := true, laidKinds := [.data, .data, .data], laidTests := true, laidLooks := .later }
def PnmCutsUptoCardSaid : Prop := Claim7.holds Tryd.pinned (.plain (OpenSpec.upto pnmCutsSpec)) pnmCutsUptoCard

/-- THE SECOND FORM's CARD OF 'smaltolaw11.PnmSamples'. -/
def pnmSamplesUptoCard : Claim7 := { stood := { row := pnmSamplesUptoRow, standIns := [], harness := (true, "3a194311f093e139d20d3f943578b0e50ffbdf4d94dbc835f92c15c81e43a4c4"), looks := false }, kinds := [], alts := [], laidByText := true, laidKinds := [.data, .data, .data], laidTests := true, laidLooks := .later }
def PnmSamplesUptoCardSaid : Prop := Claim7.holds Tryd.pinned (.plain (OpenSpec.upto pnmSamplesSpec)) pnmSamplesUptoCard

/-- THE SECOND FORM's CARD OF 'smaltolaw11.PnmBack'. -/
def pnmBackUptoCard : Claim7 := { stood := { row := pnmBackUptoRow, standIns := [], harness := (true, "3a194311f093e139d20d3f943578b0e50ffbdf4d94dbc835f92c15c81e43a4c4"), looks := false }, kinds := [], alts := [], laidByText := true, laidKinds := [.data, .data, .data], laidTests := true, laidLooks := .later }
def PnmBackUptoCardSaid : Prop := Claim7.holds Tryd.pinned (.plain (OpenSpec.upto pnmBackSpec)) pnmBackUptoCard
end Rows
end Go.Proofs.YtnpkkcbgfnnfmaaDoor
