/-
  DERIVED. GIVEN WITH THE SEED: THE CARDS: each row of YtlckhfjkdahfpaaDoorRows.lean that lists a variable, with what it lists TIED to the program's text (the seventh form; the later family's looks); each row that meets fmt, with fmt's text TOLD by the authors' own Lean function (tested against real Go, not proved from fmt's source: count such statements apart). THE CARD IS WHAT COUNTS. Prove the row's statement (the work); the ties are given (YtlckhfjkdahfpaaDoorTie.lean); close each card by the builder's one call (the guide's Derived/Test/ToyasCard.lean, 'card_holds'). Laid BY PROGRAM, IN A SANDBOX (cutbox-door.mjs). By AI agents, Wed Nov 11 2026. No macro, syntax, notation, axiom, sorry.
-/
import Derived.Test.YtlckhfjkdahfpaaDoorRows
import GoSem.ClaimSeven
namespace Go.Proofs.YtlckhfjkdahfpaaDoor
namespace Rows

/-- THE TIED CARD OF 'satchellaw11.TokensNames'. -/
def tokensNamesCard : Claim7 := { stood := { row := tokensNamesRow, standIns := [], harness := (true, "cf1d25bcd0ca33caa9c763bfccc18e06d2a17fecf63ac582aa022894b63d2563"), looks := false }, kinds := [], alts := [], laidByText := true, laidKinds := [.data], laidTests := true, laidLooks := .later }
def TokensNamesCardSaid : Prop := Claim7.holds Tryd.pinned (.plain (OpenSpec.ofChange tokensNamesSpec)) tokensNamesCard

/-- THE TIED CARD OF 'satchellaw11.TokensThere'. -/
def tokensThereCard : Claim7 := { stood := { row := tokensThereRow, standIns := [], harness := (true, "cf1d25bcd0ca33caa9c763bfccc18e06d2a17fecf63ac582aa022894b63d2563"), looks := false }, kinds := [], alts := [], laidByText := true, laidKinds := [.data], laidTests := true, laidLooks := .later }
def TokensThereCardSaid : Prop := Claim7.holds Tryd.pinned (.plain (OpenSpec.ofChange tokensThereSpec)) tokensThereCard

/-- THE TIED CARD OF 'satchellaw11.TokensFull'. -/
def tokensFullCard : Claim7 := { stood := { row := tokensFullRow, standIns := [], harness := (true, "cf1d25bcd0ca33caa9c763bfccc18e06d2a17fecf63ac582aa022894b63d2563"), looks := false }, kinds := [], alts := [], laidByText := true, laidKinds := [.data], laidTests := true, laidLooks := .later }
def TokensFullCardSaid : Prop := Claim7.holds Tryd.pinned (.plain (OpenSpec.ofChange tokensFullSpec)) tokensFullCard

/-- THE TIED CARD OF 'satchellaw11.TokensPlays'. -/
def tokensPlaysCard : Claim7 := { stood := { row := tokensPlaysRow, standIns := [], harness := (true, "cf1d25bcd0ca33caa9c763bfccc18e06d2a17fecf63ac582aa022894b63d2563"), looks := false }, kinds := [], alts := [], laidByText := true, laidKinds := [.data], laidTests := true, laidLooks := .later }
def TokensPlaysCardSaid : Prop := Claim7.holds Tryd.pinned (.plain (OpenSpec.ofChange tokensPlaysSpec)) tokensPlaysCard

/-- THE TIED CARD OF 'satchellaw11.TokensOpens'. -/
def tokensOpensCard : Claim7 := { stood := { row := tokensOpensRow, standIns := [], harness := (true, "cf1d25bcd0ca33caa9c763bfccc18e06d2a17fecf63ac582aa022894b63d2563"), looks := false }, kinds := [], alts := [], laidByText := true, laidKinds := [.data], laidTests := true, laidLooks := .later }
def TokensOpensCardSaid : Prop := Claim7.holds Tryd.pinned (.plain (OpenSpec.ofChange tokensOpensSpec)) tokensOpensCard

/-- THE TIED CARD OF 'satchellaw11.TokensAll'. -/
def tokensAllCard : Claim7 := { stood := { row := tokensAllRow, standIns := [], harness := (true, "cf1d25bcd0ca33caa9c763bfccc18e06d2a17fecf63ac582aa022894b63d2563"), looks := false }, kinds := [], alts := [], laidByText := true, laidKinds := [.data], laidTests := true, laidLooks := .later }
def TokensAllCardSaid : Prop := Claim7.holds Tryd.pinned (.plain (OpenSpec.ofChange tokensAllSpec)) tokensAllCard

/-- THE SECOND FORM's CARD OF 'satchellaw11.TokensNames'. -/
def tokensNamesUptoCard : Claim7 := { stood := { row := tokensNamesUptoRow, standIns := [], harness := (true, "cf1d25bcd0ca33caa9c763bfccc18e06d2a17fecf63ac582aa022894b63d2563"), looks := false }, kinds := [], alts := [], laidByText := true, laidKinds := [.data], laidTests := true, laidLooks := .later }
def TokensNamesUptoCardSaid : Prop := Claim7.holds Tryd.pinned (.plain (OpenSpec.upto tokensNamesSpec)) tokensNamesUptoCard

/-- THE SECOND FORM's CARD OF 'satchellaw11.TokensThere'. -/
def tokensThereUptoCard : Claim7 := { stood := { row := tokensThereUptoRow, standIns := [], harness := (true, "cf1d25bcd0ca33caa9c763bfccc18e06d2a17fecf63ac582aa022894b63d2563"), looks := false }, kinds := [], alts := [], laidByText := true, laidKinds := [.data], laidTests := true, laidLooks := .later }
def TokensThereUptoCardSaid : Prop := Claim7.holds Tryd.pinned (.plain (OpenSpec.upto tokensThereSpec)) tokensThereUptoCard

/-- THE SECOND FORM's CARD OF 'satchellaw11.TokensFull'. -/
def tokensFullUptoCard : Claim7 := { stood := { row := tokensFullUptoRow, standIns := [], harness := (true, "cf1d25bcd0ca33caa9c763bfccc18e06d2a17fecf63ac582aa022894b63d2563"), looks := false }, kinds := [], alts := [], laidByText := true, laidKinds := [.data], laidTests := true, laidLooks := .later }
def TokensFullUptoCardSaid : Prop := Claim7.holds Tryd.pinned (.plain (OpenSpec.upto tokensFullSpec)) tokensFullUptoCard

/-- THE SECOND FORM's CARD OF 'satchellaw11.TokensPlays'. -/
def tokensPlaysUptoCard : Claim7 := { stood := { row := tokensPlaysUptoRow, standIns := [], harness := (true, "cf1d25bcd0ca33caa9c763bfccc18e06d2a17fecf63ac582aa022894b63d2563"), looks := false }, kinds := [], alts := [], laidByText := true, laidKinds := [.data], laidTests := true, laidLooks := .later }
def TokensPlaysUptoCardSaid : Prop := Claim7.holds Tryd.pinned (.plain (OpenSpec.upto tokensPlaysSpec)) tokensPlaysUptoCard

/-- THE SECOND FORM's CARD OF 'satchellaw11.TokensOpens'. -/
def tokensOpensUptoCard : Claim7 := { stood := { row := tokensOpensUptoRow, standIns := [], harness := (true, "cf1d25bcd0ca33caa9c763bfccc18e06d2a17fecf63ac582aa022894b63d2563"), looks := false }, kinds := [], alts := [], laidByText := true, laidKinds := [.data], laidTests := true, laidLooks := .later }
def TokensOpensUptoCardSaid : Prop := Claim7.holds Tryd.pinned (.plain (OpenSpec.upto tokensOpensSpec)) tokensOpensUptoCard

/-- THE SECOND FORM's CARD OF 'satchellaw11.TokensAll'. -/
def tokensAllUptoCard : Claim7 := { stood := { row := tokensAllUptoRow, standIns := [], harness := (true, "cf1d25bcd0ca33caa9c763bfccc18e06d2a17fecf63ac582aa022894b63d2563"), looks := false }, kinds := [], alts := [], laidByText := true, laidKinds := [.data], laidTests := true, laidLooks := .later }
def TokensAllUptoCardSaid : Prop := Claim7.holds Tryd.pinned (.plain (OpenSpec.upto tokensAllSpec)) tokensAllUptoCard
end Rows
end Go.Proofs.YtlckhfjkdahfpaaDoor
