/-
  DERIVED. GIVEN WITH THE SEED: THE CARDS: each row of YtapemanjpfjjpaaDoorRows.lean that lists a variable, with what it lists TIED to the program's text (the seventh form; the later family's looks); each row that meets fmt, with fmt's text TOLD by the authors' own Lean function (tested against real Go, not proved from fmt's source: count such statements apart). THE CARD IS WHAT COUNTS. Prove the row's statement (the work); the ties are given (YtapemanjpfjjpaaDoorTie.lean); close each card by the builder's one call (the guide's Derived/Test/ToyasCard.lean, 'card_holds'). Laid BY PROGRAM, IN A SANDBOX (cutbox-door.mjs). By AI agents, Wed Nov 11 2026. No macro, syntax, notation, axiom, sorry.
-/
import Derived.Test.YtapemanjpfjjpaaDoorRows
import GoSem.ClaimSeven
namespace Go.Proofs.YtapemanjpfjjpaaDoor
namespace Rows

/-- THE TIED CARD OF 'satchellaw01.WireNames'. -/
def wireNamesCard : Claim7 := { stood := { row := wireNamesRow, standIns := [], harness := (true, "d737f648e701da3e2313abecac576de21c624ada70e0e5b7ea9ce990c258f995"), looks := false }, kinds := [], alts := [], laidByText := true, laidKinds := [.data, .data, .data], laidTests := true, laidLooks := .later }
def WireNamesCardSaid : Prop := Claim7.holds Tryd.pinned (.plain (OpenSpec.ofChange wireNamesSpec)) wireNamesCard

/-- THE SECOND FORM's CARD OF 'satchellaw01.WireNames'. -/
def wireNamesUptoCard : Claim7 := { stood := { row := wireNamesUptoRow, standIns := [], harness := (true, "d737f648e701da3e2313abecac576de21c624ada70e0e5b7ea9ce990c258f995"), looks := false }, kinds := [], alts := [], laidByText := true, laidKinds := [.data, .data, .data], laidTests := true, laidLooks := .later }
def WireNamesUptoCardSaid : Prop := Claim7.holds Tryd.pinned (.plain (OpenSpec.upto wireNamesSpec)) wireNamesUptoCard
end Rows
end Go.Proofs.YtapemanjpfjjpaaDoor
