/-
  No cell of these rows narrows 'for every input' (looked for: loops, veiled, ifaces, maps, wideKeys, modest, calm, conditions, laid).
  DERIVED. THE GIVEN ROWS OF THIS SEAT. 8 by the template 'for every input the law returns true; each argument reads behind the call as it read before'; 0 by the template 'total and deterministic' (their statements: YthkbbcdnmdjhdaaGreatTotals.lean).
  GIVEN WITH THE SEED: the statements are not yours to turn. If you find one false, say at which input.
  Laid BY PROGRAM, IN A SANDBOX (cutbox-rows.mjs): the forced cells as the released guide's own fill.sh prints them over the translation 79622a631915505e… (all of the seat's roots in one cut). By AI agents, Wed Nov 11 2026. No macro, syntax, notation, axiom, sorry.
-/
import Derived.Test.YthkbbcdnmdjhdaaGreatChecked
import GoSem.Claim
import GoSem.ClaimJoined
import GoSem.ClaimMapViews
import Derived.JoinedTies
import Derived.KernelRfl
namespace Go.Proofs.YthkbbcdnmdjhdaaGreat
/- THE CELL 'sum', in the pinned program and in every row, IS THE sha256 OF THE DUMP (.gsa) THAT YthkbbcdnmdjhdaaGreatProg.lean LOADS. Nothing in Lean hashes anything: it is a label: what it is worth is what the hold of that sum in a sandbox is worth. -/
noncomputable def Tryz.pinned : Pinned := { name := "ythkbbcdnmdjhdaagreat", sum := "79622a631915505e615f0e3a7cb228eb58dc77190c6f95e549705fc529299942", checked := Tryz.checked }
namespace Rows
def none {H : Type} : Left H := { results := [], args := [] }

/-- 'strongboxlaw13.CellApart': WHATEVER THE INPUT: true; the input reads as it did. -/
def cellApartSpec : ChangeSpec := { name := "cellApart", fn := fun _ => fun
  | [d1, d2] => { results := [.lit (.bool true)], args := [d1, d2] }
  | _ => none }
def cellApartRow : OpenClaim := { program := "ythkbbcdnmdjhdaagreat", sum := "79622a631915505e615f0e3a7cb228eb58dc77190c6f95e549705fc529299942", func := "strongbox/strongboxlaw13.CellApart", spec := "cellApart", unfollowed := true, recurses := true, apart := false }
def CellApartSaid : Prop := cellApartRow.holds Tryz.pinned (OpenSpec.ofChange cellApartSpec)

/-- ITS FALSE NEIGHBOUR: 'it returns false'. Refute it at one input. -/
def cellApartWrong : ChangeSpec := { name := "cellApart", fn := fun _ => fun
  | [d1, d2] => { results := [.lit (.bool false)], args := [d1, d2] }
  | _ => none }
def CellApartWrongFalsely : Prop := cellApartRow.holds Tryz.pinned (OpenSpec.ofChange cellApartWrong)

/-- 'strongboxlaw13.CellKnown': WHATEVER THE INPUT: true; the input reads as it did. -/
def cellKnownSpec : ChangeSpec := { name := "cellKnown", fn := fun _ => fun
  | [] => { results := [.lit (.bool true)], args := [] }
  | _ => none }
def cellKnownRow : OpenClaim := { program := "ythkbbcdnmdjhdaagreat", sum := "79622a631915505e615f0e3a7cb228eb58dc77190c6f95e549705fc529299942", func := "strongbox/strongboxlaw13.CellKnown", spec := "cellKnown", unfollowed := true, recurses := true, apart := false }
def CellKnownSaid : Prop := cellKnownRow.holds Tryz.pinned (OpenSpec.ofChange cellKnownSpec)

/-- ITS FALSE NEIGHBOUR: 'it returns false'. Refute it at one input. -/
def cellKnownWrong : ChangeSpec := { name := "cellKnown", fn := fun _ => fun
  | [] => { results := [.lit (.bool false)], args := [] }
  | _ => none }
def CellKnownWrongFalsely : Prop := cellKnownRow.holds Tryz.pinned (OpenSpec.ofChange cellKnownWrong)

/-- 'strongboxlaw13.CellFenced': WHATEVER THE INPUT: true; the input reads as it did. -/
def cellFencedSpec : ChangeSpec := { name := "cellFenced", fn := fun _ => fun
  | [d1, d2, d3] => { results := [.lit (.bool true)], args := [d1, d2, d3] }
  | _ => none }
def cellFencedRow : OpenClaim := { program := "ythkbbcdnmdjhdaagreat", sum := "79622a631915505e615f0e3a7cb228eb58dc77190c6f95e549705fc529299942", func := "strongbox/strongboxlaw13.CellFenced", spec := "cellFenced", unfollowed := true, recurses := true, apart := false }
def CellFencedSaid : Prop := cellFencedRow.holds Tryz.pinned (OpenSpec.ofChange cellFencedSpec)

/-- ITS FALSE NEIGHBOUR: 'it returns false'. Refute it at one input. -/
def cellFencedWrong : ChangeSpec := { name := "cellFenced", fn := fun _ => fun
  | [d1, d2, d3] => { results := [.lit (.bool false)], args := [d1, d2, d3] }
  | _ => none }
def CellFencedWrongFalsely : Prop := cellFencedRow.holds Tryz.pinned (OpenSpec.ofChange cellFencedWrong)

/-- 'strongboxlaw13.CellCrash': WHATEVER THE INPUT: true; the input reads as it did. -/
def cellCrashSpec : ChangeSpec := { name := "cellCrash", fn := fun _ => fun
  | [d1, d2] => { results := [.lit (.bool true)], args := [d1, d2] }
  | _ => none }
def cellCrashRow : OpenClaim := { program := "ythkbbcdnmdjhdaagreat", sum := "79622a631915505e615f0e3a7cb228eb58dc77190c6f95e549705fc529299942", func := "strongbox/strongboxlaw13.CellCrash", spec := "cellCrash", unfollowed := true, recurses := true, apart := false }
def CellCrashSaid : Prop := cellCrashRow.holds Tryz.pinned (OpenSpec.ofChange cellCrashSpec)

/-- ITS FALSE NEIGHBOUR: 'it returns false'. Refute it at one input. -/
def cellCrashWrong : ChangeSpec := { name := "cellCrash", fn := fun _ => fun
  | [d1, d2] => { results := [.lit (.bool false)], args := [d1, d2] }
  | _ => none }
def CellCrashWrongFalsely : Prop := cellCrashRow.holds Tryz.pinned (OpenSpec.ofChange cellCrashWrong)

/-- 'strongboxlaw12.ArrayPlays': WHATEVER THE INPUT: true; the input reads as it did. -/
def arrayPlaysSpec : ChangeSpec := { name := "arrayPlays", fn := fun _ => fun
  | [d1, d2, d3] => { results := [.lit (.bool true)], args := [d1, d2, d3] }
  | _ => none }
def arrayPlaysRow : OpenClaim := { program := "ythkbbcdnmdjhdaagreat", sum := "79622a631915505e615f0e3a7cb228eb58dc77190c6f95e549705fc529299942", func := "strongbox/strongboxlaw12.ArrayPlays", spec := "arrayPlays", inPlace := ["internal/bytealg.abigen_runtime_cmpstring"], unfollowed := true, recurses := true, apart := false }
def ArrayPlaysSaid : Prop := arrayPlaysRow.holds Tryz.pinned (OpenSpec.ofChange arrayPlaysSpec)

/-- ITS FALSE NEIGHBOUR: 'it returns false'. Refute it at one input. -/
def arrayPlaysWrong : ChangeSpec := { name := "arrayPlays", fn := fun _ => fun
  | [d1, d2, d3] => { results := [.lit (.bool false)], args := [d1, d2, d3] }
  | _ => none }
def ArrayPlaysWrongFalsely : Prop := arrayPlaysRow.holds Tryz.pinned (OpenSpec.ofChange arrayPlaysWrong)

/-- 'strongboxlaw20.BootAgain': WHATEVER THE INPUT: true; the input reads as it did. -/
def bootAgainSpec : ChangeSpec := { name := "bootAgain", fn := fun _ => fun
  | [d1, d2, d3] => { results := [.lit (.bool true)], args := [d1, d2, d3] }
  | _ => none }
def bootAgainRow : OpenClaim := { program := "ythkbbcdnmdjhdaagreat", sum := "79622a631915505e615f0e3a7cb228eb58dc77190c6f95e549705fc529299942", func := "strongbox/strongboxlaw20.BootAgain", spec := "bootAgain", inPlace := ["internal/bytealg.abigen_runtime_cmpstring"], unfollowed := true, recurses := true, apart := false }
def BootAgainSaid : Prop := bootAgainRow.holds Tryz.pinned (OpenSpec.ofChange bootAgainSpec)

/-- ITS FALSE NEIGHBOUR: 'it returns false'. Refute it at one input. -/
def bootAgainWrong : ChangeSpec := { name := "bootAgain", fn := fun _ => fun
  | [d1, d2, d3] => { results := [.lit (.bool false)], args := [d1, d2, d3] }
  | _ => none }
def BootAgainWrongFalsely : Prop := bootAgainRow.holds Tryz.pinned (OpenSpec.ofChange bootAgainWrong)

/-- 'strongboxlaw13.CellTells': WHATEVER THE INPUT: true; the input reads as it did. -/
def cellTellsSpec : ChangeSpec := { name := "cellTells", fn := fun _ => fun
  | [d1, d2] => { results := [.lit (.bool true)], args := [d1, d2] }
  | _ => none }
def cellTellsRow : OpenClaim := { program := "ythkbbcdnmdjhdaagreat", sum := "79622a631915505e615f0e3a7cb228eb58dc77190c6f95e549705fc529299942", func := "strongbox/strongboxlaw13.CellTells", spec := "cellTells", inPlace := ["internal/bytealg.abigen_runtime_cmpstring"], unfollowed := true, recurses := true, apart := false }
def CellTellsSaid : Prop := cellTellsRow.holds Tryz.pinned (OpenSpec.ofChange cellTellsSpec)

/-- ITS FALSE NEIGHBOUR: 'it returns false'. Refute it at one input. -/
def cellTellsWrong : ChangeSpec := { name := "cellTells", fn := fun _ => fun
  | [d1, d2] => { results := [.lit (.bool false)], args := [d1, d2] }
  | _ => none }
def CellTellsWrongFalsely : Prop := cellTellsRow.holds Tryz.pinned (OpenSpec.ofChange cellTellsWrong)

/-- 'strongboxlaw20.BootPlays': WHATEVER THE INPUT: true; the input reads as it did. -/
def bootPlaysSpec : ChangeSpec := { name := "bootPlays", fn := fun _ => fun
  | [d1, d2, d3] => { results := [.lit (.bool true)], args := [d1, d2, d3] }
  | _ => none }
def bootPlaysRow : OpenClaim := { program := "ythkbbcdnmdjhdaagreat", sum := "79622a631915505e615f0e3a7cb228eb58dc77190c6f95e549705fc529299942", func := "strongbox/strongboxlaw20.BootPlays", spec := "bootPlays", inPlace := ["internal/bytealg.abigen_runtime_cmpstring"], unfollowed := true, recurses := true, apart := false }
def BootPlaysSaid : Prop := bootPlaysRow.holds Tryz.pinned (OpenSpec.ofChange bootPlaysSpec)

/-- ITS FALSE NEIGHBOUR: 'it returns false'. Refute it at one input. -/
def bootPlaysWrong : ChangeSpec := { name := "bootPlays", fn := fun _ => fun
  | [d1, d2, d3] => { results := [.lit (.bool false)], args := [d1, d2, d3] }
  | _ => none }
def BootPlaysWrongFalsely : Prop := bootPlaysRow.holds Tryz.pinned (OpenSpec.ofChange bootPlaysWrong)

/- THE SECOND FORM. 'bulk': how many values and letters a reading holds, each counted each time it is reached (what is shared counts as often as it is met; a slice's spare places count too). A statement '..UptoSaid' is the law's where the arguments, and the package variables that the reading takes, are together of bulk at most 1048576: NARROWER than '..Said'. Prove '..Said' where nothing that the law and all that it calls make is longer than what came in: it says more and counts as full. Else prove '..UptoSaid'. A law counts once. -/
mutual
def uptoBulk {H : Type} : DataW H → Nat
  | .lit (.string bytes) => bytes.length + 1
  | .lit _ => 1
  | .nil => 1
  | .ptr d => uptoBulk d + 1
  | .slice elems spare => uptoBulkAll elems + uptoBulkAll spare + 1
  | .agg parts => uptoBulkAll parts + 1
  | .iface _ d => uptoBulk d + 1
  | .map entries => uptoBulkEntries entries + 1
  | .held _ => 1
def uptoBulkAll {H : Type} : List (DataW H) → Nat
  | [] => 0
  | d :: r => uptoBulk d + uptoBulkAll r
def uptoBulkEntries {H : Type} : List (Lit × DataW H) → Nat
  | [] => 0
  | x :: r => uptoBulkEntry x + uptoBulkEntries r
def uptoBulkEntry {H : Type} : Lit × DataW H → Nat
  | (.string bytes, d) => bytes.length + uptoBulk d + 1
  | (_, d) => uptoBulk d + 1
 end
def uptoSmall : (H : Type) → List (DataW H) → Bool := fun _ ds => decide (uptoBulkAll ds ≤ 1048576)
def OpenSpec.upto (s : _root_.Go.ChangeSpec) : _root_.Go.OpenSpec := { _root_.Go.OpenSpec.ofChange s with cond := some uptoSmall }

/-- 'strongboxlaw13.CellApart', WHERE WHAT IT READS IS OF BULK AT MOST 1048576: true; the input reads as it did. -/
def cellApartUptoRow : OpenClaim := { program := "ythkbbcdnmdjhdaagreat", sum := "79622a631915505e615f0e3a7cb228eb58dc77190c6f95e549705fc529299942", func := "strongbox/strongboxlaw13.CellApart", spec := "cellApart", unfollowed := true, recurses := true, apart := false, narrowed := true }
def CellApartUptoSaid : Prop := cellApartUptoRow.holds Tryz.pinned (OpenSpec.upto cellApartSpec)

/-- 'strongboxlaw13.CellKnown', WHERE WHAT IT READS IS OF BULK AT MOST 1048576: true; the input reads as it did. -/
def cellKnownUptoRow : OpenClaim := { program := "ythkbbcdnmdjhdaagreat", sum := "79622a631915505e615f0e3a7cb228eb58dc77190c6f95e549705fc529299942", func := "strongbox/strongboxlaw13.CellKnown", spec := "cellKnown", unfollowed := true, recurses := true, apart := false, narrowed := true }
def CellKnownUptoSaid : Prop := cellKnownUptoRow.holds Tryz.pinned (OpenSpec.upto cellKnownSpec)

/-- 'strongboxlaw13.CellFenced', WHERE WHAT IT READS IS OF BULK AT MOST 1048576: true; the input reads as it did. -/
def cellFencedUptoRow : OpenClaim := { program := "ythkbbcdnmdjhdaagreat", sum := "79622a631915505e615f0e3a7cb228eb58dc77190c6f95e549705fc529299942", func := "strongbox/strongboxlaw13.CellFenced", spec := "cellFenced", unfollowed := true, recurses := true, apart := false, narrowed := true }
def CellFencedUptoSaid : Prop := cellFencedUptoRow.holds Tryz.pinned (OpenSpec.upto cellFencedSpec)

/-- 'strongboxlaw13.CellCrash', WHERE WHAT IT READS IS OF BULK AT MOST 1048576: true; the input reads as it did. -/
def cellCrashUptoRow : OpenClaim := { program := "ythkbbcdnmdjhdaagreat", sum := "79622a631915505e615f0e3a7cb228eb58dc77190c6f95e549705fc529299942", func := "strongbox/strongboxlaw13.CellCrash", spec := "cellCrash", unfollowed := true, recurses := true, apart := false, narrowed := true }
def CellCrashUptoSaid : Prop := cellCrashUptoRow.holds Tryz.pinned (OpenSpec.upto cellCrashSpec)

/-- 'strongboxlaw12.ArrayPlays', WHERE WHAT IT READS IS OF BULK AT MOST 1048576: true; the input reads as it did. -/
def arrayPlaysUptoRow : OpenClaim := { program := "ythkbbcdnmdjhdaagreat", sum := "79622a631915505e615f0e3a7cb228eb58dc77190c6f95e549705fc529299942", func := "strongbox/strongboxlaw12.ArrayPlays", spec := "arrayPlays", inPlace := ["internal/bytealg.abigen_runtime_cmpstring"], unfollowed := true, recurses := true, apart := false, narrowed := true }
def ArrayPlaysUptoSaid : Prop := arrayPlaysUptoRow.holds Tryz.pinned (OpenSpec.upto arrayPlaysSpec)

/-- 'strongboxlaw20.BootAgain', WHERE WHAT IT READS IS OF BULK AT MOST 1048576: true; the input reads as it did. -/
def bootAgainUptoRow : OpenClaim := { program := "ythkbbcdnmdjhdaagreat", sum := "79622a631915505e615f0e3a7cb228eb58dc77190c6f95e549705fc529299942", func := "strongbox/strongboxlaw20.BootAgain", spec := "bootAgain", inPlace := ["internal/bytealg.abigen_runtime_cmpstring"], unfollowed := true, recurses := true, apart := false, narrowed := true }
def BootAgainUptoSaid : Prop := bootAgainUptoRow.holds Tryz.pinned (OpenSpec.upto bootAgainSpec)

/-- 'strongboxlaw13.CellTells', WHERE WHAT IT READS IS OF BULK AT MOST 1048576: true; the input reads as it did. -/
def cellTellsUptoRow : OpenClaim := { program := "ythkbbcdnmdjhdaagreat", sum := "79622a631915505e615f0e3a7cb228eb58dc77190c6f95e549705fc529299942", func := "strongbox/strongboxlaw13.CellTells", spec := "cellTells", inPlace := ["internal/bytealg.abigen_runtime_cmpstring"], unfollowed := true, recurses := true, apart := false, narrowed := true }
def CellTellsUptoSaid : Prop := cellTellsUptoRow.holds Tryz.pinned (OpenSpec.upto cellTellsSpec)

/-- 'strongboxlaw20.BootPlays', WHERE WHAT IT READS IS OF BULK AT MOST 1048576: true; the input reads as it did. -/
def bootPlaysUptoRow : OpenClaim := { program := "ythkbbcdnmdjhdaagreat", sum := "79622a631915505e615f0e3a7cb228eb58dc77190c6f95e549705fc529299942", func := "strongbox/strongboxlaw20.BootPlays", spec := "bootPlays", inPlace := ["internal/bytealg.abigen_runtime_cmpstring"], unfollowed := true, recurses := true, apart := false, narrowed := true }
def BootPlaysUptoSaid : Prop := bootPlaysUptoRow.holds Tryz.pinned (OpenSpec.upto bootPlaysSpec)

end Rows
end Go.Proofs.YthkbbcdnmdjhdaaGreat
