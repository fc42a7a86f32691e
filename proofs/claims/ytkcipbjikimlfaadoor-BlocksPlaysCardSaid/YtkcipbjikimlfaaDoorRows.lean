/-
  NARROWER THAN 'FOR EVERY INPUT', by the rows' own cells (each row's printed sentence says how): BlocksSound: laid · BlocksThere: laid · BlocksChecks: laid · BlocksLoads: laid · BlocksPlays: laid.
  DERIVED. THE GIVEN ROWS OF THIS SEAT. 5 by the template 'for every input the law returns true; each argument reads behind the call as it read before'; 0 by the template 'total and deterministic' (their statements: YtkcipbjikimlfaaDoorTotals.lean).
  GIVEN WITH THE SEED: the statements are not yours to turn. If you find one false, say at which input.
  Laid BY PROGRAM, IN A SANDBOX (cutbox-rows.mjs): the forced cells as the released guide's own fill.sh prints them over the translation db8cb7037d0d28f9… (all of the seat's roots in one cut). By AI agents, Wed Nov 11 2026. No macro, syntax, notation, axiom, sorry.
-/
import Derived.Test.YtkcipbjikimlfaaDoorChecked
import GoSem.Claim
import GoSem.ClaimJoined
import GoSem.ClaimMapViews
import Derived.JoinedTies
import Derived.KernelRfl
namespace Go.Proofs.YtkcipbjikimlfaaDoor
/- THE CELL 'sum', in the pinned program and in every row, IS THE sha256 OF THE DUMP (.gsa) THAT YtkcipbjikimlfaaDoorProg.lean LOADS. Nothing in Lean hashes anything: it is a label: what it is worth is what the hold of that sum in a sandbox is worth. -/
noncomputable def Tryd.pinned : Pinned := { name := "ytkcipbjikimlfaadoor", sum := "db8cb7037d0d28f90e90a4ace1be00fca7c057c941c352b46fa2d988e494a0b7", checked := Tryd.checked }
namespace Rows
def none {H : Type} : Left H := { results := [], args := [] }

/- WHAT THE LISTED PACKAGE-LEVEL VARIABLES READ AS WHEN THE CALL BEGINS. Each datum BY PROGRAM (the guide's laid-datum.mjs) off the statement by which the dump's own 'gosem.cut.vars' lays the variable. In a bare row this is a premise. The card (YtkcipbjikimlfaaDoorCards.lean) ties it to the program's text. -/
def laid_satchel_crc_nibble {H : Type} : DataW H := .agg [.lit (.int .u32 0), .lit (.int .u32 498536548), .lit (.int .u32 997073096), .lit (.int .u32 651767980), .lit (.int .u32 1994146192), .lit (.int .u32 1802195444), .lit (.int .u32 1303535960), .lit (.int .u32 1342533948), .lit (.int .u32 3988292384), .lit (.int .u32 4027552580), .lit (.int .u32 3604390888), .lit (.int .u32 3412177804), .lit (.int .u32 2607071920), .lit (.int .u32 2262029012), .lit (.int .u32 2685067896), .lit (.int .u32 3183342108)]

/-- 'satchellaw10.BlocksSound': WHATEVER THE INPUT: true; the input reads as it did. -/
def blocksSoundSpec : ChangeSpec := { name := "blocksSound", fn := fun _ => fun
  | [d] => { results := [.lit (.bool true)], args := [d] }
  | _ => none }
def blocksSoundRow : OpenClaim := { program := "ytkcipbjikimlfaadoor", sum := "db8cb7037d0d28f90e90a4ace1be00fca7c057c941c352b46fa2d988e494a0b7", func := "satchel/satchellaw10.BlocksSound", spec := "blocksSound", unfollowed := true, recurses := true, named := ["satchel/crc.nibble"], apart := false, laid := [("satchel/crc.nibble", laid_satchel_crc_nibble)] }
def BlocksSoundSaid : Prop := blocksSoundRow.holds Tryd.pinned (OpenSpec.ofChange blocksSoundSpec)

/-- ITS FALSE NEIGHBOUR: 'it returns false'. Refute it at one input. -/
def blocksSoundWrong : ChangeSpec := { name := "blocksSound", fn := fun _ => fun
  | [d] => { results := [.lit (.bool false)], args := [d] }
  | _ => none }
def BlocksSoundWrongFalsely : Prop := blocksSoundRow.holds Tryd.pinned (OpenSpec.ofChange blocksSoundWrong)

/-- 'satchellaw10.BlocksThere': WHATEVER THE INPUT: true; the input reads as it did. -/
def blocksThereSpec : ChangeSpec := { name := "blocksThere", fn := fun _ => fun
  | [d1, d2, d3] => { results := [.lit (.bool true)], args := [d1, d2, d3] }
  | _ => none }
def blocksThereRow : OpenClaim := { program := "ytkcipbjikimlfaadoor", sum := "db8cb7037d0d28f90e90a4ace1be00fca7c057c941c352b46fa2d988e494a0b7", func := "satchel/satchellaw10.BlocksThere", spec := "blocksThere", unfollowed := true, recurses := true, named := ["satchel/crc.nibble"], apart := false, laid := [("satchel/crc.nibble", laid_satchel_crc_nibble)] }
def BlocksThereSaid : Prop := blocksThereRow.holds Tryd.pinned (OpenSpec.ofChange blocksThereSpec)

/-- ITS FALSE NEIGHBOUR: 'it returns false'. Refute it at one input. -/
def blocksThereWrong : ChangeSpec := { name := "blocksThere", fn := fun _ => fun
  | [d1, d2, d3] => { results := [.lit (.bool false)], args := [d1, d2, d3] }
  | _ => none }
def BlocksThereWrongFalsely : Prop := blocksThereRow.holds Tryd.pinned (OpenSpec.ofChange blocksThereWrong)

/-- 'satchellaw10.BlocksChecks': WHATEVER THE INPUT: true; the input reads as it did. -/
def blocksChecksSpec : ChangeSpec := { name := "blocksChecks", fn := fun _ => fun
  | [d] => { results := [.lit (.bool true)], args := [d] }
  | _ => none }
def blocksChecksRow : OpenClaim := { program := "ytkcipbjikimlfaadoor", sum := "db8cb7037d0d28f90e90a4ace1be00fca7c057c941c352b46fa2d988e494a0b7", func := "satchel/satchellaw10.BlocksChecks", spec := "blocksChecks", unfollowed := true, recurses := true, named := ["satchel/crc.nibble"], apart := false, laid := [("satchel/crc.nibble", laid_satchel_crc_nibble)] }
def BlocksChecksSaid : Prop := blocksChecksRow.holds Tryd.pinned (OpenSpec.ofChange blocksChecksSpec)

/-- ITS FALSE NEIGHBOUR: 'it returns false'. Refute it at one input. -/
def blocksChecksWrong : ChangeSpec := { name := "blocksChecks", fn := fun _ => fun
  | [d] => { results := [.lit (.bool false)], args := [d] }
  | _ => none }
def BlocksChecksWrongFalsely : Prop := blocksChecksRow.holds Tryd.pinned (OpenSpec.ofChange blocksChecksWrong)

/-- 'satchellaw10.BlocksLoads': WHATEVER THE INPUT: true; the input reads as it did. -/
def blocksLoadsSpec : ChangeSpec := { name := "blocksLoads", fn := fun _ => fun
  | [d1, d2] => { results := [.lit (.bool true)], args := [d1, d2] }
  | _ => none }
def blocksLoadsRow : OpenClaim := { program := "ytkcipbjikimlfaadoor", sum := "db8cb7037d0d28f90e90a4ace1be00fca7c057c941c352b46fa2d988e494a0b7", func := "satchel/satchellaw10.BlocksLoads", spec := "blocksLoads", unfollowed := true, recurses := true, named := ["satchel/crc.nibble"], apart := false, laid := [("satchel/crc.nibble", laid_satchel_crc_nibble)] }
def BlocksLoadsSaid : Prop := blocksLoadsRow.holds Tryd.pinned (OpenSpec.ofChange blocksLoadsSpec)

/-- ITS FALSE NEIGHBOUR: 'it returns false'. Refute it at one input. -/
def blocksLoadsWrong : ChangeSpec := { name := "blocksLoads", fn := fun _ => fun
  | [d1, d2] => { results := [.lit (.bool false)], args := [d1, d2] }
  | _ => none }
def BlocksLoadsWrongFalsely : Prop := blocksLoadsRow.holds Tryd.pinned (OpenSpec.ofChange blocksLoadsWrong)

/-- 'satchellaw10.BlocksPlays': WHATEVER THE INPUT: true; the input reads as it did. -/
def blocksPlaysSpec : ChangeSpec := { name := "blocksPlays", fn := fun _ => fun
  | [d1, d2] => { results := [.lit (.bool true)], args := [d1, d2] }
  | _ => none }
def blocksPlaysRow : OpenClaim := { program := "ytkcipbjikimlfaadoor", sum := "db8cb7037d0d28f90e90a4ace1be00fca7c057c941c352b46fa2d988e494a0b7", func := "satchel/satchellaw10.BlocksPlays", spec := "blocksPlays", unfollowed := true, recurses := true, named := ["satchel/crc.nibble"], apart := false, laid := [("satchel/crc.nibble", laid_satchel_crc_nibble)] }
def BlocksPlaysSaid : Prop := blocksPlaysRow.holds Tryd.pinned (OpenSpec.ofChange blocksPlaysSpec)

/-- ITS FALSE NEIGHBOUR: 'it returns false'. Refute it at one input. -/
def blocksPlaysWrong : ChangeSpec := { name := "blocksPlays", fn := fun _ => fun
  | [d1, d2] => { results := [.lit (.bool false)], args := [d1, d2] }
  | _ => none }
def BlocksPlaysWrongFalsely : Prop := blocksPlaysRow.holds Tryd.pinned (OpenSpec.ofChange blocksPlaysWrong)

/- THE SECOND FORM. 'bulk': how many values and letters a reading holds, each counted each time it is reached (what is shared counts as often as it is met; a slice's spare places count too). A statement '..UptoSaid' is the law's where the arguments, and the package variables that the reading takes, are together of bulk at most 1048576: NARROWER than '..Said'. Prove '..Said' where nothing that the law and all that it calls make is longer than what came in: it says more and counts as full. Else prove '..UptoSaid'. A law counts once. -/
mutual
def uptoBulk {H : Type} : DataW H → Nat
  | .lit (.string bytes) => bytes.length + 1
  | .lit _ => 1
  | .nil => 1
  | .ptr d => uptoBulk d + 1
  | .slice elems spare => uptoBulkAll elems + uptoBulkAll spare + 1
  | .agg parts => uptoBulkAll parts + 1
  | .iface _ d => uptoBulk d + 1
  | .map entries => uptoBulkEntries entries + 1
  | .held _ => 1
def uptoBulkAll {H : Type} : List (DataW H) → Nat
  | [] => 0
  | d :: r => uptoBulk d + uptoBulkAll r
def uptoBulkEntries {H : Type} : List (Lit × DataW H) → Nat
  | [] => 0
  | x :: r => uptoBulkEntry x + uptoBulkEntries r
def uptoBulkEntry {H : Type} : Lit × DataW H → Nat
  | (.string bytes, d) => bytes.length + uptoBulk d + 1
  | (_, d) => uptoBulk d + 1
 end
def uptoSmall : (H : Type) → List (DataW H) → Bool := fun _ ds => decide (uptoBulkAll ds ≤ 1048576)
def OpenSpec.upto (s : _root_.Go.ChangeSpec) : _root_.Go.OpenSpec := { _root_.Go.OpenSpec.ofChange s with cond := some uptoSmall }

/-- 'satchellaw10.BlocksSound', WHERE WHAT IT READS IS OF BULK AT MOST 1048576: true; the input reads as it did. -/
def blocksSoundUptoRow : OpenClaim := { program := "ytkcipbjikimlfaadoor", sum := "db8cb7037d0d28f90e90a4ace1be00fca7c057c941c352b46fa2d988e494a0b7", func := "satchel/satchellaw10.BlocksSound", spec := "blocksSound", unfollowed := true, recurses := true, named := ["satchel/crc.nibble"], apart := false, laid := [("satchel/crc.nibble", laid_satchel_crc_nibble)], narrowed := true }
def BlocksSoundUptoSaid : Prop := blocksSoundUptoRow.holds Tryd.pinned (OpenSpec.upto blocksSoundSpec)

/-- 'satchellaw10.BlocksThere', WHERE WHAT IT READS IS OF BULK AT MOST 1048576: true; the input reads as it did. -/
def blocksThereUptoRow : OpenClaim := { program := "ytkcipbjikimlfaadoor", sum := "db8cb7037d0d28f90e90a4ace1be00fca7c057c941c352b46fa2d988e494a0b7", func := "satchel/satchellaw10.BlocksThere", spec := "blocksThere", unfollowed := true, recurses := true, named := ["satchel/crc.nibble"], apart := false, laid := [("satchel/crc.nibble", laid_satchel_crc_nibble)], narrowed := true }
def BlocksThereUptoSaid : Prop := blocksThereUptoRow.holds Tryd.pinned (OpenSpec.upto blocksThereSpec)

/-- 'satchellaw10.BlocksChecks', WHERE WHAT IT READS IS OF BULK AT MOST 1048576: true; the input reads as it did. -/
def blocksChecksUptoRow : OpenClaim := { program := "ytkcipbjikimlfaadoor", sum := "db8cb7037d0d28f90e90a4ace1be00fca7c057c941c352b46fa2d988e494a0b7", func := "satchel/satchellaw10.BlocksChecks", spec := "blocksChecks", unfollowed := true, recurses := true, named := ["satchel/crc.nibble"], apart := false, laid := [("satchel/crc.nibble", laid_satchel_crc_nibble)], narrowed := true }
def BlocksChecksUptoSaid : Prop := blocksChecksUptoRow.holds Tryd.pinned (OpenSpec.upto blocksChecksSpec)

/-- 'satchellaw10.BlocksLoads', WHERE WHAT IT READS IS OF BULK AT MOST 1048576: true; the input reads as it did. -/
def blocksLoadsUptoRow : OpenClaim := { program := "ytkcipbjikimlfaadoor", sum := "db8cb7037d0d28f90e90a4ace1be00fca7c057c941c352b46fa2d988e494a0b7", func := "satchel/satchellaw10.BlocksLoads", spec := "blocksLoads", unfollowed := true, recurses := true, named := ["satchel/crc.nibble"], apart := false, laid := [("satchel/crc.nibble", laid_satchel_crc_nibble)], narrowed := true }
def BlocksLoadsUptoSaid : Prop := blocksLoadsUptoRow.holds Tryd.pinned (OpenSpec.upto blocksLoadsSpec)

/-- 'satchellaw10.BlocksPlays', WHERE WHAT IT READS IS OF BULK AT MOST 1048576: true; the input reads as it did. -/
def blocksPlaysUptoRow : OpenClaim := { program := "ytkcipbjikimlfaadoor", sum := "db8cb7037d0d28f90e90a4ace1be00fca7c057c941c352b46fa2d988e494a0b7", func := "satchel/satchellaw10.BlocksPlays", spec := "blocksPlays", unfollowed := true, recurses := true, named := ["satchel/crc.nibble"], apart := false, laid := [("satchel/crc.nibble", laid_satchel_crc_nibble)], narrowed := true }
def BlocksPlaysUptoSaid : Prop := blocksPlaysUptoRow.holds Tryd.pinned (OpenSpec.upto blocksPlaysSpec)

end Rows
end Go.Proofs.YtkcipbjikimlfaaDoor
