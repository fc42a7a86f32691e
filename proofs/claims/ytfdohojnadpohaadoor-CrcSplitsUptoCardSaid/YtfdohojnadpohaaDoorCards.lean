/-
  DERIVED. GIVEN WITH THE SEED: THE CARDS: each row of YtfdohojnadpohaaDoorRows.lean that lists a variable, with what it lists TIED to the program's text (the seventh form; the later family's looks); each row that meets fmt, with fmt's text TOLD by the authors' own Lean function (tested against real Go, not proved from fmt's source: count such statements apart). THE CARD IS WHAT COUNTS. Prove the row's statement (the work); the ties are given (YtfdohojnadpohaaDoorTie.lean); close each card by the builder's one call (the guide's Derived/Test/ToyasCard.lean, 'card_holds'). Laid BY PROGRAM, IN A SANDBOX (cutbox-door.mjs). By AI agents, Wed Nov 11 2026. No macro, syntax, notation, axiom, sorry.
-/
import Derived.Test.YtfdohojnadpohaaDoorRows
import GoSem.ClaimSeven
namespace Go.Proofs.YtfdohojnadpohaaDoor
namespace Rows

/-- THE TIED CARD OF 'satchellaw02.CrcSums'. -/
def crcSumsCard : Claim7 := { stood := { row := crcSumsRow, standIns := [], harness := (true, "b5e83db519bf147a647e0decf5addf959eded53ec76eec26c2b219f8222077c5"), looks := false }, kinds := [], alts := [], laidByText := true, laidKinds := [.data], laidTests := true, laidLooks := .later }
def CrcSumsCardSaid : Prop := Claim7.holds Tryd.pinned (.plain (OpenSpec.ofChange crcSumsSpec)) crcSumsCard

/-- THE TIED CARD OF 'satchellaw02.CrcUpdates'. -/
def crcUpdatesCard : Claim7 := { stood := { row := crcUpdatesRow, standIns := [], harness := (true, "b5e83db519bf147a647e0decf5addf959eded53ec76eec26c2b219f8222077c5"), looks := false }, kinds := [], alts := [], laidByText := true, laidKinds := [.data], laidTests := true, laidLooks := .later }
def CrcUpdatesCardSaid : Prop := Claim7.holds Tryd.pinned (.plain (OpenSpec.ofChange crcUpdatesSpec)) crcUpdatesCard

/-- THE TIED CARD OF 'satchellaw02.CrcBurst'. -/
def crcBurstCard : Claim7 := { stood := { row := crcBurstRow, standIns := [], harness := (true, "b5e83db519bf147a647e0decf5addf959eded53ec76eec26c2b219f8222077c5"), looks := false }, kinds := [], alts := [], laidByText := true, laidKinds := [.data], laidTests := true, laidLooks := .later }
def CrcBurstCardSaid : Prop := Claim7.holds Tryd.pinned (.plain (OpenSpec.ofChange crcBurstSpec)) crcBurstCard

/-- THE TIED CARD OF 'satchellaw02.CrcThree'. -/
def crcThreeCard : Claim7 := { stood := { row := crcThreeRow, standIns := [], harness := (true, "b5e83db519bf147a647e0decf5addf959eded53ec76eec26c2b219f8222077c5"), looks := false }, kinds := [], alts := [], laidByText := true, laidKinds := [.data], laidTests := true, laidLooks := .later }
def CrcThreeCardSaid : Prop := Claim7.holds Tryd.pinned (.plain (OpenSpec.ofChange crcThreeSpec)) crcThreeCard

/-- THE TIED CARD OF 'satchellaw02.CrcDigests'. -/
def crcDigestsCard : Claim7 := { stood := { row := crcDigestsRow, standIns := [], harness := (true, "b5e83db519bf147a647e0decf5addf959eded53ec76eec26c2b219f8222077c5"), looks := false }, kinds := [], alts := [], laidByText := true, laidKinds := [.data], laidTests := true, laidLooks := .later }
def CrcDigestsCardSaid : Prop := Claim7.holds Tryd.pinned (.plain (OpenSpec.ofChange crcDigestsSpec)) crcDigestsCard

/-- THE TIED CARD OF 'satchellaw02.CrcCombines'. -/
def crcCombinesCard : Claim7 := { stood := { row := crcCombinesRow, standIns := [], harness := (true, "b5e83db519bf147a647e0decf5addf959eded53ec76eec26c2b219f8222077c5"), looks := false }, kinds := [], alts := [], laidByText := true, laidKinds := [.data], laidTests := true, laidLooks := .later }
def CrcCombinesCardSaid : Prop := Claim7.holds Tryd.pinned (.plain (OpenSpec.ofChange crcCombinesSpec)) crcCombinesCard

/-- THE TIED CARD OF 'satchellaw02.CrcSplits'. -/
def crcSplitsCard : Claim7 := { stood := { row := crcSplitsRow, standIns := [], harness := (true, "b5e83db519bf147a647e0decf5addf959eded53ec76eec26c2b219f8222077c5"), looks := false }, kinds := [], alts := [], laidByText := true, laidKinds := [.data], laidTests := true, laidLooks := .later }
def CrcSplitsCardSaid : Prop := Claim7.holds Tryd.pinned (.plain (OpenSpec.ofChange crcSplitsSpec)) crcSplitsCard

/-- THE SECOND FORM's CARD OF 'satchellaw02.CrcSums'. -/
def crcSumsUptoCard : Claim7 := { stood := { row := crcSumsUptoRow, standIns := [], harness := (true, "b5e83db519bf147a647e0decf5addf959eded53ec76eec26c2b219f8222077c5"), looks := false }, kinds := [], alts := [], laidByText := true, laidKinds := [.data], laidTests := true, laidLooks := .later }
def CrcSumsUptoCardSaid : Prop := Claim7.holds Tryd.pinned (.plain (OpenSpec.upto crcSumsSpec)) crcSumsUptoCard

/-- THE SECOND FORM's CARD OF 'satchellaw02.CrcUpdates'. -/
def crcUpdatesUptoCard : Claim7 := { stood := { row := crcUpdatesUptoRow, standIns := [], harness := (true, "b5e83db519bf147a647e0decf5addf959eded53ec76eec26c2b219f8222077c5"), looks := false }, kinds := [], alts := [], laidByText := true, laidKinds := [.data], laidTests := true, laidLooks := .later }
def CrcUpdatesUptoCardSaid : Prop := Claim7.holds Tryd.pinned (.plain (OpenSpec.upto crcUpdatesSpec)) crcUpdatesUptoCard

/-- THE SECOND FORM's CARD OF 'satchellaw02.CrcBurst'. -/
def crcBurstUptoCard : Claim7 := { stood := { row := crcBurstUptoRow, standIns := [], harness := (true, "b5e83db519bf147a647e0decf5addf959eded53ec76eec26c2b219f8222077c5"), looks := false }, kinds := [], alts := [], laidByText := true, laidKinds := [.data], laidTests := true, laidLooks := .later }
def CrcBurstUptoCardSaid : Prop := Claim7.holds Tryd.pinned (.plain (OpenSpec.upto crcBurstSpec)) crcBurstUptoCard

/-- THE SECOND FORM's CARD OF 'satchellaw02.CrcThree'. -/
def crcThreeUptoCard : Claim7 := { stood := { row := crcThreeUptoRow, standIns := [], harness := (true, "b5e83db519bf147a647e0decf5addf959eded53ec76eec26c2b219f8222077c5"), looks := false }, kinds := [], alts := [], laidByText := true, laidKinds := [.data], laidTests := true, laidLooks := .later }
def CrcThreeUptoCardSaid : Prop := Claim7.holds Tryd.pinned (.plain (OpenSpec.upto crcThreeSpec)) crcThreeUptoCard

/-- THE SECOND FORM's CARD OF 'satchellaw02.CrcDigests'. -/
def crcDigestsUptoCard : Claim7 := { stood := { row := crcDigestsUptoRow, standIns := [], harness := (true, "b5e83db519bf147a647e0decf5addf959eded53ec76eec26c2b219f8222077c5"), looks := false }, kinds := [], alts := [], laidByText := true, laidKinds := [.data], laidTests := true, laidLooks := .later }
def CrcDigestsUptoCardSaid : Prop := Claim7.holds Tryd.pinned (.plain (OpenSpec.upto crcDigestsSpec)) crcDigestsUptoCard

/-- THE SECOND FORM's CARD OF 'satchellaw02.CrcCombines'. -/
def crcCombinesUptoCard : Claim7 := { stood := { row := crcCombinesUptoRow, standIns := [], harness := (true, "b5e83db519bf147a647e0decf5addf959eded53ec76eec26c2b219f8222077c5"), looks := false }, kinds := [], alts := [], laidByText := true, laidKinds := [.data], laidTests := true, laidLooks := .later }
def CrcCombinesUptoCardSaid : Prop := Claim7.holds Tryd.pinned (.plain (OpenSpec.upto crcCombinesSpec)) crcCombinesUptoCard

/-- THE SECOND FORM's CARD OF 'satchellaw02.CrcSplits'. -/
def crcSplitsUptoCard : Claim7 := { stood := { row := crcSplitsUptoRow, standIns := [], harness := (true, "b5e83db519bf147a647e0decf5addf959eded53ec76eec26c2b219f8222077c5"), looks := false }, kinds := [], alts := [], laidByText := true, laidKinds := [.data], laidTests := true, laidLooks := .later }
def CrcSplitsUptoCardSaid : Prop := Claim7.holds Tryd.pinned (.plain (OpenSpec.upto crcSplitsSpec)) crcSplitsUptoCard
end Rows
end Go.Proofs.YtfdohojnadpohaaDoor
