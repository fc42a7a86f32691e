/-
  DERIVED. GIVEN WITH THE SEED: THE CARDS: each row of YtkcipbjikimlfaaDoorRows.lean that lists a variable, with what it lists TIED to the program's text (the seventh form; the later family's looks); each row that meets fmt, with fmt's text TOLD by the authors' own Lean function (tested against real Go, not proved from fmt's source: count such statements apart). THE CARD IS WHAT COUNTS. Prove the row's statement (the work); the ties are given (YtkcipbjikimlfaaDoorTie.lean); close each card by the builder's one call (the guide's Derived/Test/ToyasCard.lean, 'card_holds'). Laid BY PROGRAM, IN A SANDBOX (cutbox-door.mjs). By AI agents, Wed Nov 11 2026. No macro, syntax, notation, axiom, sorry.
-/
import Derived.Test.YtkcipbjikimlfaaDoorRows
import GoSem.ClaimSeven
namespace Go.Proofs.YtkcipbjikimlfaaDoor
namespace Rows

/-- THE TIED CARD OF 'satchellaw10.BlocksSound'. -/
def blocksSoundCard : Claim7 := { stood := { row := blocksSoundRow, standIns := [], harness := (true, "888211a4c7cc34b24f910337737e3ccd5153e52a4acdb747f690f9d00978bb95"), looks := false }, kinds := [], alts := [], laidByText := true, laidKinds := [.data], laidTests := true, laidLooks := .later }
def BlocksSoundCardSaid : Prop := Claim7.holds Tryd.pinned (.plain (OpenSpec.ofChange blocksSoundSpec)) blocksSoundCard

/-- THE TIED CARD OF 'satchellaw10.BlocksThere'. -/
def blocksThereCard : Claim7 := { stood := { row := blocksThereRow, standIns := [], harness := (true, "888211a4c7cc34b24f910337737e3ccd5153e52a4acdb747f690f9d00978bb95"), looks := false }, kinds := [], alts := [], laidByText := true, laidKinds := [.data], laidTests := true, laidLooks := .later }
def BlocksThereCardSaid : Prop := Claim7.holds Tryd.pinned (.plain (OpenSpec.ofChange blocksThereSpec)) blocksThereCard

/-- THE TIED CARD OF 'satchellaw10.BlocksChecks'. -/
def blocksChecksCard : Claim7 := { stood := { row := blocksChecksRow, standIns := [], harness := (true, "888211a4c7cc34b24f910337737e3ccd5153e52a4acdb747f690f9d00978bb95"), looks := false }, kinds := [], alts := [], laidByText := true, laidKinds := [.data], laidTests := true, laidLooks := .later }
def BlocksChecksCardSaid : Prop := Claim7.holds Tryd.pinned (.plain (OpenSpec.ofChange blocksChecksSpec)) blocksChecksCard

/-- THE TIED CARD OF 'satchellaw10.BlocksLoads'. -/
def blocksLoadsCard : Claim7 := { stood := { row := blocksLoadsRow, standIns := [], harness := (true, "888211a4c7cc34b24f910337737e3ccd5153e52a4acdb747f690f9d00978bb95"), looks := false }, kinds := [], alts := [], laidByText := true, laidKinds := [.data], laidTests := true, laidLooks := .later }
def BlocksLoadsCardSaid : Prop := Claim7.holds Tryd.pinned (.plain (OpenSpec.ofChange blocksLoadsSpec)) blocksLoadsCard

/-- THE TIED CARD OF 'satchellaw10.BlocksPlays'. -/
def blocksPlaysCard : Claim7 := { stood := { row := blocksPlaysRow, standIns := [], harness := (true, "888211a4c7cc34b24f910337737e3ccd5153e52a4acdb747f690f9d00978bb95"), looks := false }, kinds := [], alts := [], laidByText := true, laidKinds := [.data], laidTests := true, laidLooks := .later }
def BlocksPlaysCardSaid : Prop := Claim7.holds Tryd.pinned (.plain (OpenSpec.ofChange blocksPlaysSpec)) blocksPlaysCard

/-- THE SECOND FORM's CARD OF 'satchellaw10.BlocksSound'. -/
def blocksSoundUptoCard : Claim7 := { stood := { row := blocksSoundUptoRow, standIns := [], harness := (true, "888211a4c7cc34b24f910337737e3ccd5153e52a4acdb747f690f9d00978bb95"), looks := false }, kinds := [], alts := [], laidByText := true, laidKinds := [.data], laidTests := true, laidLooks := .later }
def BlocksSoundUptoCardSaid : Prop := Claim7.holds Tryd.pinned (.plain (OpenSpec.upto blocksSoundSpec)) blocksSoundUptoCard

/-- THE SECOND FORM's CARD OF 'satchellaw10.BlocksThere'. -/
def blocksThereUptoCard : Claim7 := { stood := { row := blocksThereUptoRow, standIns := [], harness := (true, "888211a4c7cc34b24f910337737e3ccd5153e52a4acdb747f690f9d00978bb95"), looks := false }, kinds := [], alts := [], laidByText := true, laidKinds := [.data], laidTests := true, laidLooks := .later }
def BlocksThereUptoCardSaid : Prop := Claim7.holds Tryd.pinned (.plain (OpenSpec.upto blocksThereSpec)) blocksThereUptoCard

/-- THE SECOND FORM's CARD OF 'satchellaw10.BlocksChecks'. -/
def blocksChecksUptoCard : Claim7 := { stood := { row := blocksChecksUptoRow, standIns := [], harness := (true, "888211a4c7cc34b24f910337737e3ccd5153e52a4acdb747f690f9d00978bb95"), looks := false }, kinds := [], alts := [], laidByText := true, laidKinds := [.data], laidTests := true, laidLooks := .later }
def BlocksChecksUptoCardSaid : Prop := Claim7.holds Tryd.pinned (.plain (OpenSpec.upto blocksChecksSpec)) blocksChecksUptoCard

/-- THE SECOND FORM's CARD OF 'satchellaw10.BlocksLoads'. -/
def blocksLoadsUptoCard : Claim7 := { stood := { row := blocksLoadsUptoRow, standIns := [], harness := (true, "888211a4c7cc34b24f910337737e3ccd5153e52a4acdb747f690f9d00978bb95"), looks := false }, kinds := [], alts := [], laidByText := true, laidKinds := [.data], laidTests := true, laidLooks := .later }
def BlocksLoadsUptoCardSaid : Prop := Claim7.holds Tryd.pinned (.plain (OpenSpec.upto blocksLoadsSpec)) blocksLoadsUptoCard

/-- THE SECOND FORM's CARD OF 'satchellaw10.BlocksPlays'. -/
def blocksPlaysUptoCard : Claim7 := { stood := { row := blocksPlaysUptoRow, standIns := [], harness := (true, "888211a4c7cc34b24f910337737e3ccd5153e52a4acdb747f690f9d00978bb95"), looks := false }, kinds := [], alts := [], laidByText := true, laidKinds := [.data], laidTests := true, laidLooks := .later }
def BlocksPlaysUptoCardSaid : Prop := Claim7.holds Tryd.pinned (.plain (OpenSpec.upto blocksPlaysSpec)) blocksPlaysUptoCard
end Rows
end Go.Proofs.YtkcipbjikimlfaaDoor
