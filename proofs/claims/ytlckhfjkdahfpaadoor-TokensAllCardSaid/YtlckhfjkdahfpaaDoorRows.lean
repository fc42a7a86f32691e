/-
  NARROWER THAN 'FOR EVERY INPUT', by the rows' own cells (each row's printed sentence says how): TokensNames: laid · TokensThere: laid · TokensFull: laid · TokensPlays: laid · TokensOpens: laid · TokensAll: laid.
  DERIVED. THE GIVEN ROWS OF THIS SEAT. 6 by the template 'for every input the law returns true; each argument reads behind the call as it read before'; 0 by the template 'total and deterministic' (their statements: YtlckhfjkdahfpaaDoorTotals.lean).
  GIVEN WITH THE SEED: the statements are not yours to turn. If you find one false, say at which input.
  Laid BY PROGRAM, IN A SANDBOX (cutbox-rows.mjs): the forced cells as the released guide's own fill.sh prints them over the translation a8f6b9ab7db6d285… (all of the seat's roots in one cut). By AI agents, Wed Nov 11 2026. No macro, syntax, notation, axiom, sorry.
-/
import Derived.Test.YtlckhfjkdahfpaaDoorChecked
import GoSem.Claim
import GoSem.ClaimJoined
import GoSem.ClaimMapViews
import Derived.JoinedTies
import Derived.KernelRfl
namespace Go.Proofs.YtlckhfjkdahfpaaDoor
/- THE CELL 'sum', in the pinned program and in every row, IS THE sha256 OF THE DUMP (.gsa) THAT YtlckhfjkdahfpaaDoorProg.lean LOADS. Nothing in Lean hashes anything: it is a label: what it is worth is what the hold of that sum in a sandbox is worth. -/
noncomputable def Tryd.pinned : Pinned := { name := "ytlckhfjkdahfpaadoor", sum := "a8f6b9ab7db6d28592b7e12413c8f0e6def446fe197460994d5c755f47a05392", checked := Tryd.checked }
namespace Rows
def none {H : Type} : Left H := { results := [], args := [] }

/- WHAT THE LISTED PACKAGE-LEVEL VARIABLES READ AS WHEN THE CALL BEGINS. Each datum BY PROGRAM (the guide's laid-datum.mjs) off the statement by which the dump's own 'gosem.cut.vars' lays the variable. In a bare row this is a premise. The card (YtlckhfjkdahfpaaDoorCards.lean) ties it to the program's text. -/
def laid_satchel_crc_nibble {H : Type} : DataW H := .agg [.lit (.int .u32 0), .lit (.int .u32 498536548), .lit (.int .u32 997073096), .lit (.int .u32 651767980), .lit (.int .u32 1994146192), .lit (.int .u32 1802195444), .lit (.int .u32 1303535960), .lit (.int .u32 1342533948), .lit (.int .u32 3988292384), .lit (.int .u32 4027552580), .lit (.int .u32 3604390888), .lit (.int .u32 3412177804), .lit (.int .u32 2607071920), .lit (.int .u32 2262029012), .lit (.int .u32 2685067896), .lit (.int .u32 3183342108)]

/-- 'satchellaw11.TokensNames': WHATEVER THE INPUT: true; the input reads as it did. -/
def tokensNamesSpec : ChangeSpec := { name := "tokensNames", fn := fun _ => fun
  | [] => { results := [.lit (.bool true)], args := [] }
  | _ => none }
def tokensNamesRow : OpenClaim := { program := "ytlckhfjkdahfpaadoor", sum := "a8f6b9ab7db6d28592b7e12413c8f0e6def446fe197460994d5c755f47a05392", func := "satchel/satchellaw11.TokensNames", spec := "tokensNames", unfollowed := true, recurses := true, named := ["satchel/crc.nibble"], apart := false, laid := [("satchel/crc.nibble", laid_satchel_crc_nibble)] }
def TokensNamesSaid : Prop := tokensNamesRow.holds Tryd.pinned (OpenSpec.ofChange tokensNamesSpec)

/-- ITS FALSE NEIGHBOUR: 'it returns false'. Refute it at one input. -/
def tokensNamesWrong : ChangeSpec := { name := "tokensNames", fn := fun _ => fun
  | [] => { results := [.lit (.bool false)], args := [] }
  | _ => none }
def TokensNamesWrongFalsely : Prop := tokensNamesRow.holds Tryd.pinned (OpenSpec.ofChange tokensNamesWrong)

/-- 'satchellaw11.TokensThere': WHATEVER THE INPUT: true; the input reads as it did. -/
def tokensThereSpec : ChangeSpec := { name := "tokensThere", fn := fun _ => fun
  | [d] => { results := [.lit (.bool true)], args := [d] }
  | _ => none }
def tokensThereRow : OpenClaim := { program := "ytlckhfjkdahfpaadoor", sum := "a8f6b9ab7db6d28592b7e12413c8f0e6def446fe197460994d5c755f47a05392", func := "satchel/satchellaw11.TokensThere", spec := "tokensThere", unfollowed := true, recurses := true, named := ["satchel/crc.nibble"], apart := false, laid := [("satchel/crc.nibble", laid_satchel_crc_nibble)] }
def TokensThereSaid : Prop := tokensThereRow.holds Tryd.pinned (OpenSpec.ofChange tokensThereSpec)

/-- ITS FALSE NEIGHBOUR: 'it returns false'. Refute it at one input. -/
def tokensThereWrong : ChangeSpec := { name := "tokensThere", fn := fun _ => fun
  | [d] => { results := [.lit (.bool false)], args := [d] }
  | _ => none }
def TokensThereWrongFalsely : Prop := tokensThereRow.holds Tryd.pinned (OpenSpec.ofChange tokensThereWrong)

/-- 'satchellaw11.TokensFull': WHATEVER THE INPUT: true; the input reads as it did. -/
def tokensFullSpec : ChangeSpec := { name := "tokensFull", fn := fun _ => fun
  | [d] => { results := [.lit (.bool true)], args := [d] }
  | _ => none }
def tokensFullRow : OpenClaim := { program := "ytlckhfjkdahfpaadoor", sum := "a8f6b9ab7db6d28592b7e12413c8f0e6def446fe197460994d5c755f47a05392", func := "satchel/satchellaw11.TokensFull", spec := "tokensFull", unfollowed := true, recurses := true, named := ["satchel/crc.nibble"], apart := false, laid := [("satchel/crc.nibble", laid_satchel_crc_nibble)] }
def TokensFullSaid : Prop := tokensFullRow.holds Tryd.pinned (OpenSpec.ofChange tokensFullSpec)

/-- ITS FALSE NEIGHBOUR: 'it returns false'. Refute it at one input. -/
def tokensFullWrong : ChangeSpec := { name := "tokensFull", fn := fun _ => fun
  | [d] => { results := [.lit (.bool false)], args := [d] }
  | _ => none }
def TokensFullWrongFalsely : Prop := tokensFullRow.holds Tryd.pinned (OpenSpec.ofChange tokensFullWrong)

/-- 'satchellaw11.TokensPlays': WHATEVER THE INPUT: true; the input reads as it did. -/
def tokensPlaysSpec : ChangeSpec := { name := "tokensPlays", fn := fun _ => fun
  | [d1, d2, d3] => { results := [.lit (.bool true)], args := [d1, d2, d3] }
  | _ => none }
def tokensPlaysRow : OpenClaim := { program := "ytlckhfjkdahfpaadoor", sum := "a8f6b9ab7db6d28592b7e12413c8f0e6def446fe197460994d5c755f47a05392", func := "satchel/satchellaw11.TokensPlays", spec := "tokensPlays", unfollowed := true, recurses := true, named := ["satchel/crc.nibble"], apart := false, laid := [("satchel/crc.nibble", laid_satchel_crc_nibble)] }
def TokensPlaysSaid : Prop := tokensPlaysRow.holds Tryd.pinned (OpenSpec.ofChange tokensPlaysSpec)

/-- ITS FALSE NEIGHBOUR: 'it returns false'. Refute it at one input. -/
def tokensPlaysWrong : ChangeSpec := { name := "tokensPlays", fn := fun _ => fun
  | [d1, d2, d3] => { results := [.lit (.bool false)], args := [d1, d2, d3] }
  | _ => none }
def TokensPlaysWrongFalsely : Prop := tokensPlaysRow.holds Tryd.pinned (OpenSpec.ofChange tokensPlaysWrong)

/-- 'satchellaw11.TokensOpens': WHATEVER THE INPUT: true; the input reads as it did. -/
def tokensOpensSpec : ChangeSpec := { name := "tokensOpens", fn := fun _ => fun
  | [d1, d2] => { results := [.lit (.bool true)], args := [d1, d2] }
  | _ => none }
def tokensOpensRow : OpenClaim := { program := "ytlckhfjkdahfpaadoor", sum := "a8f6b9ab7db6d28592b7e12413c8f0e6def446fe197460994d5c755f47a05392", func := "satchel/satchellaw11.TokensOpens", spec := "tokensOpens", unfollowed := true, recurses := true, named := ["satchel/crc.nibble"], apart := false, laid := [("satchel/crc.nibble", laid_satchel_crc_nibble)] }
def TokensOpensSaid : Prop := tokensOpensRow.holds Tryd.pinned (OpenSpec.ofChange tokensOpensSpec)

/-- ITS FALSE NEIGHBOUR: 'it returns false'. Refute it at one input. -/
def tokensOpensWrong : ChangeSpec := { name := "tokensOpens", fn := fun _ => fun
  | [d1, d2] => { results := [.lit (.bool false)], args := [d1, d2] }
  | _ => none }
def TokensOpensWrongFalsely : Prop := tokensOpensRow.holds Tryd.pinned (OpenSpec.ofChange tokensOpensWrong)

/-- 'satchellaw11.TokensAll': WHATEVER THE INPUT: true; the input reads as it did. -/
def tokensAllSpec : ChangeSpec := { name := "tokensAll", fn := fun _ => fun
  | [d1, d2] => { results := [.lit (.bool true)], args := [d1, d2] }
  | _ => none }
def tokensAllRow : OpenClaim := { program := "ytlckhfjkdahfpaadoor", sum := "a8f6b9ab7db6d28592b7e12413c8f0e6def446fe197460994d5c755f47a05392", func := "satchel/satchellaw11.TokensAll", spec := "tokensAll", unfollowed := true, recurses := true, named := ["satchel/crc.nibble"], apart := false, laid := [("satchel/crc.nibble", laid_satchel_crc_nibble)] }
def TokensAllSaid : Prop := tokensAllRow.holds Tryd.pinned (OpenSpec.ofChange tokensAllSpec)

/-- ITS FALSE NEIGHBOUR: 'it returns false'. Refute it at one input. -/
def tokensAllWrong : ChangeSpec := { name := "tokensAll", fn := fun _ => fun
  | [d1, d2] => { results := [.lit (.bool false)], args := [d1, d2] }
  | _ => none }
def TokensAllWrongFalsely : Prop := tokensAllRow.holds Tryd.pinned (OpenSpec.ofChange tokensAllWrong)

/- THE SECOND FORM. 'bulk': how many values and letters a reading holds, each counted each time it is reached (what is shared counts as often as it is met; a slice's spare places count too). A statement '..UptoSaid' is the law's where the arguments, and the package variables that the reading takes, are together of bulk at most 1048576: NARROWER than '..Said'. Prove '..Said' where nothing that the law and all that it calls make is longer than what came in: it says more and counts as full. Else prove '..UptoSaid'. A law counts once. -/
mutual
def uptoBulk {H : Type} : DataW H → Nat
  | .lit (.string bytes) => bytes.length + 1
  | .lit _ => 1
  | .nil => 1
  | .ptr d => uptoBulk d + 1
  | .slice elems spare => uptoBulkAll elems + uptoBulkAll spare + 1
  | .agg parts => uptoBulkAll parts + 1
  | .iface _ d => uptoBulk d + 1
  | .map entries => uptoBulkEntries entries + 1
  | .held _ => 1
def uptoBulkAll {H : Type} : List (DataW H) → Nat
  | [] => 0
  | d :: r => uptoBulk d + uptoBulkAll r
def uptoBulkEntries {H : Type} : List (Lit × DataW H) → Nat
  | [] => 0
  | x :: r => uptoBulkEntry x + uptoBulkEntries r
def uptoBulkEntry {H : Type} : Lit × DataW H → Nat
  | (.string bytes, d) => bytes.length + uptoBulk d + 1
  | (_, d) => uptoBulk d + 1
 end
def uptoSmall : (H : Type) → List (DataW H) → Bool := fun _ ds => decide (uptoBulkAll ds ≤ 1048576)
def OpenSpec.upto (s : _root_.Go.ChangeSpec) : _root_.Go.OpenSpec := { _root_.Go.OpenSpec.ofChange s with cond := some uptoSmall }

/-- 'satchellaw11.TokensNames', WHERE WHAT IT READS IS OF BULK AT MOST 1048576: true; the input reads as it did. -/
def tokensNamesUptoRow : OpenClaim := { program := "ytlckhfjkdahfpaadoor", sum := "a8f6b9ab7db6d28592b7e12413c8f0e6def446fe197460994d5c755f47a05392", func := "satchel/satchellaw11.TokensNames", spec := "tokensNames", unfollowed := true, recurses := true, named := ["satchel/crc.nibble"], apart := false, laid := [("satchel/crc.nibble", laid_satchel_crc_nibble)], narrowed := true }
def TokensNamesUptoSaid : Prop := tokensNamesUptoRow.holds Tryd.pinned (OpenSpec.upto tokensNamesSpec)

/-- 'satchellaw11.TokensThere', WHERE WHAT IT READS IS OF BULK AT MOST 1048576: true; the input reads as it did. -/
def tokensThereUptoRow : OpenClaim := { program := "ytlckhfjkdahfpaadoor", sum := "a8f6b9ab7db6d28592b7e12413c8f0e6def446fe197460994d5c755f47a05392", func := "satchel/satchellaw11.TokensThere", spec := "tokensThere", unfollowed := true, recurses := true, named := ["satchel/crc.nibble"], apart := false, laid := [("satchel/crc.nibble", laid_satchel_crc_nibble)], narrowed := true }
def TokensThereUptoSaid : Prop := tokensThereUptoRow.holds Tryd.pinned (OpenSpec.upto tokensThereSpec)

/-- 'satchellaw11.TokensFull', WHERE WHAT IT READS IS OF BULK AT MOST 1048576: true; the input reads as it did. -/
def tokensFullUptoRow : OpenClaim := { program := "ytlckhfjkdahfpaadoor", sum := "a8f6b9ab7db6d28592b7e12413c8f0e6def446fe197460994d5c755f47a05392", func := "satchel/satchellaw11.TokensFull", spec := "tokensFull", unfollowed := true, recurses := true, named := ["satchel/crc.nibble"], apart := false, laid := [("satchel/crc.nibble", laid_satchel_crc_nibble)], narrowed := true }
def TokensFullUptoSaid : Prop := tokensFullUptoRow.holds Tryd.pinned (OpenSpec.upto tokensFullSpec)

/-- 'satchellaw11.TokensPlays', WHERE WHAT IT READS IS OF BULK AT MOST 1048576: true; the input reads as it did. -/
def tokensPlaysUptoRow : OpenClaim := { program := "ytlckhfjkdahfpaadoor", sum := "a8f6b9ab7db6d28592b7e12413c8f0e6def446fe197460994d5c755f47a05392", func := "satchel/satchellaw11.TokensPlays", spec := "tokensPlays", unfollowed := true, recurses := true, named := ["satchel/crc.nibble"], apart := false, laid := [("satchel/crc.nibble", laid_satchel_crc_nibble)], narrowed := true }
def TokensPlaysUptoSaid : Prop := tokensPlaysUptoRow.holds Tryd.pinned (OpenSpec.upto tokensPlaysSpec)

/-- 'satchellaw11.TokensOpens', WHERE WHAT IT READS IS OF BULK AT MOST 1048576: true; the input reads as it did. -/
def tokensOpensUptoRow : OpenClaim := { program := "ytlckhfjkdahfpaadoor", sum := "a8f6b9ab7db6d28592b7e12413c8f0e6def446fe197460994d5c755f47a05392", func := "satchel/satchellaw11.TokensOpens", spec := "tokensOpens", unfollowed := true, recurses := true, named := ["satchel/crc.nibble"], apart := false, laid := [("satchel/crc.nibble", laid_satchel_crc_nibble)], narrowed := true }
def TokensOpensUptoSaid : Prop := tokensOpensUptoRow.holds Tryd.pinned (OpenSpec.upto tokensOpensSpec)

/-- 'satchellaw11.TokensAll', WHERE WHAT IT READS IS OF BULK AT MOST 1048576: true; the input reads as it did. -/
def tokensAllUptoRow : OpenClaim := { program := "ytlckhfjkdahfpaadoor", sum := "a8f6b9ab7db6d28592b7e12413c8f0e6def446fe197460994d5c755f47a05392", func := "satchel/satchellaw11.TokensAll", spec := "tokensAll", unfollowed := true, recurses := true, named := ["satchel/crc.nibble"], apart := false, laid := [("satchel/crc.nibble", laid_satchel_crc_nibble)], narrowed := true }
def TokensAllUptoSaid : Prop := tokensAllUptoRow.holds Tryd.pinned (OpenSpec.upto tokensAllSpec)

end Rows
end Go.Proofs.YtlckhfjkdahfpaaDoor
