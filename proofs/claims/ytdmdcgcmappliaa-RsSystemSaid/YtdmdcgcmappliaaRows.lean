/-
  No cell of these rows narrows 'for every input' (looked for: loops, veiled, ifaces, maps, wideKeys, modest, calm, conditions, laid).
  DERIVED. THE GIVEN ROWS OF THIS SEAT. 13 by the template 'for every input the law returns true; each argument reads behind the call as it read before'; 0 by the template 'total and deterministic' (their statements: YtdmdcgcmappliaaTotals.lean).
  GIVEN WITH THE SEED: the statements are not yours to turn. If you find one false, say at which input.
  Laid BY PROGRAM, IN A SANDBOX (cutbox-rows.mjs): the forced cells as the released guide's own fill.sh prints them over the translation 0460e5f419779f60… (all of the seat's roots in one cut). By AI agents, Wed Nov 11 2026. No macro, syntax, notation, axiom, sorry.
-/
import Derived.Test.YtdmdcgcmappliaaChecked
import GoSem.Claim
import GoSem.ClaimJoined
import GoSem.ClaimMapViews
import Derived.JoinedTies
import Derived.KernelRfl
namespace Go.Proofs.Ytdmdcgcmappliaa
/- THE CELL 'sum', in the pinned program and in every row, IS THE sha256 OF THE DUMP (.gsa) THAT YtdmdcgcmappliaaProg.lean LOADS. Nothing in Lean hashes anything: it is a label: what it is worth is what the hold of that sum in a sandbox is worth. -/
noncomputable def Try.pinned : Pinned := { name := "ytdmdcgcmappliaa", sum := "0460e5f419779f60615542ed14f98bf7a2b5d8bcc3b3498a7395a4210c8a87b8", checked := Try.checked }
namespace Rows
def none {H : Type} : Left H := { results := [], args := [] }

/-- 'strongboxlaw2.MatrixInverts': WHATEVER THE INPUT: true; the input reads as it did. -/
def matrixInvertsSpec : ChangeSpec := { name := "matrixInverts", fn := fun _ => fun
  | [d] => { results := [.lit (.bool true)], args := [d] }
  | _ => none }
def matrixInvertsRow : OpenClaim := { program := "ytdmdcgcmappliaa", sum := "0460e5f419779f60615542ed14f98bf7a2b5d8bcc3b3498a7395a4210c8a87b8", func := "strongbox/strongboxlaw2.MatrixInverts", spec := "matrixInverts", unfollowed := true, recurses := true, apart := false }
def MatrixInvertsSaid : Prop := matrixInvertsRow.holds Try.pinned (OpenSpec.ofChange matrixInvertsSpec)

/-- ITS FALSE NEIGHBOUR: 'it returns false'. Refute it at one input. -/
def matrixInvertsWrong : ChangeSpec := { name := "matrixInverts", fn := fun _ => fun
  | [d] => { results := [.lit (.bool false)], args := [d] }
  | _ => none }
def MatrixInvertsWrongFalsely : Prop := matrixInvertsRow.holds Try.pinned (OpenSpec.ofChange matrixInvertsWrong)

/-- 'strongboxlaw2.MatrixPowers': WHATEVER THE INPUT: true; the input reads as it did. -/
def matrixPowersSpec : ChangeSpec := { name := "matrixPowers", fn := fun _ => fun
  | [d1, d2] => { results := [.lit (.bool true)], args := [d1, d2] }
  | _ => none }
def matrixPowersRow : OpenClaim := { program := "ytdmdcgcmappliaa", sum := "0460e5f419779f60615542ed14f98bf7a2b5d8bcc3b3498a7395a4210c8a87b8", func := "strongbox/strongboxlaw2.MatrixPowers", spec := "matrixPowers", unfollowed := true, recurses := true, apart := false }
def MatrixPowersSaid : Prop := matrixPowersRow.holds Try.pinned (OpenSpec.ofChange matrixPowersSpec)

/-- ITS FALSE NEIGHBOUR: 'it returns false'. Refute it at one input. -/
def matrixPowersWrong : ChangeSpec := { name := "matrixPowers", fn := fun _ => fun
  | [d1, d2] => { results := [.lit (.bool false)], args := [d1, d2] }
  | _ => none }
def MatrixPowersWrongFalsely : Prop := matrixPowersRow.holds Try.pinned (OpenSpec.ofChange matrixPowersWrong)

/-- 'strongboxlaw2.MatrixThree': WHATEVER THE INPUT: true; the input reads as it did. -/
def matrixThreeSpec : ChangeSpec := { name := "matrixThree", fn := fun _ => fun
  | [d1, d2, d3] => { results := [.lit (.bool true)], args := [d1, d2, d3] }
  | _ => none }
def matrixThreeRow : OpenClaim := { program := "ytdmdcgcmappliaa", sum := "0460e5f419779f60615542ed14f98bf7a2b5d8bcc3b3498a7395a4210c8a87b8", func := "strongbox/strongboxlaw2.MatrixThree", spec := "matrixThree", unfollowed := true, recurses := true, apart := false }
def MatrixThreeSaid : Prop := matrixThreeRow.holds Try.pinned (OpenSpec.ofChange matrixThreeSpec)

/-- ITS FALSE NEIGHBOUR: 'it returns false'. Refute it at one input. -/
def matrixThreeWrong : ChangeSpec := { name := "matrixThree", fn := fun _ => fun
  | [d1, d2, d3] => { results := [.lit (.bool false)], args := [d1, d2, d3] }
  | _ => none }
def MatrixThreeWrongFalsely : Prop := matrixThreeRow.holds Try.pinned (OpenSpec.ofChange matrixThreeWrong)

/-- 'strongboxlaw2.MatrixKnown': WHATEVER THE INPUT: true; the input reads as it did. -/
def matrixKnownSpec : ChangeSpec := { name := "matrixKnown", fn := fun _ => fun
  | [] => { results := [.lit (.bool true)], args := [] }
  | _ => none }
def matrixKnownRow : OpenClaim := { program := "ytdmdcgcmappliaa", sum := "0460e5f419779f60615542ed14f98bf7a2b5d8bcc3b3498a7395a4210c8a87b8", func := "strongbox/strongboxlaw2.MatrixKnown", spec := "matrixKnown", unfollowed := true, recurses := true, apart := false }
def MatrixKnownSaid : Prop := matrixKnownRow.holds Try.pinned (OpenSpec.ofChange matrixKnownSpec)

/-- ITS FALSE NEIGHBOUR: 'it returns false'. Refute it at one input. -/
def matrixKnownWrong : ChangeSpec := { name := "matrixKnown", fn := fun _ => fun
  | [] => { results := [.lit (.bool false)], args := [] }
  | _ => none }
def MatrixKnownWrongFalsely : Prop := matrixKnownRow.holds Try.pinned (OpenSpec.ofChange matrixKnownWrong)

/-- 'strongboxlaw2.MatrixSystem': WHATEVER THE INPUT: true; the input reads as it did. -/
def matrixSystemSpec : ChangeSpec := { name := "matrixSystem", fn := fun _ => fun
  | [d1, d2, d3] => { results := [.lit (.bool true)], args := [d1, d2, d3] }
  | _ => none }
def matrixSystemRow : OpenClaim := { program := "ytdmdcgcmappliaa", sum := "0460e5f419779f60615542ed14f98bf7a2b5d8bcc3b3498a7395a4210c8a87b8", func := "strongbox/strongboxlaw2.MatrixSystem", spec := "matrixSystem", unfollowed := true, recurses := true, apart := false }
def MatrixSystemSaid : Prop := matrixSystemRow.holds Try.pinned (OpenSpec.ofChange matrixSystemSpec)

/-- ITS FALSE NEIGHBOUR: 'it returns false'. Refute it at one input. -/
def matrixSystemWrong : ChangeSpec := { name := "matrixSystem", fn := fun _ => fun
  | [d1, d2, d3] => { results := [.lit (.bool false)], args := [d1, d2, d3] }
  | _ => none }
def MatrixSystemWrongFalsely : Prop := matrixSystemRow.holds Try.pinned (OpenSpec.ofChange matrixSystemWrong)

/-- 'strongboxlaw2.MatrixRows': WHATEVER THE INPUT: true; the input reads as it did. -/
def matrixRowsSpec : ChangeSpec := { name := "matrixRows", fn := fun _ => fun
  | [d1, d2, d3] => { results := [.lit (.bool true)], args := [d1, d2, d3] }
  | _ => none }
def matrixRowsRow : OpenClaim := { program := "ytdmdcgcmappliaa", sum := "0460e5f419779f60615542ed14f98bf7a2b5d8bcc3b3498a7395a4210c8a87b8", func := "strongbox/strongboxlaw2.MatrixRows", spec := "matrixRows", unfollowed := true, recurses := true, apart := false }
def MatrixRowsSaid : Prop := matrixRowsRow.holds Try.pinned (OpenSpec.ofChange matrixRowsSpec)

/-- ITS FALSE NEIGHBOUR: 'it returns false'. Refute it at one input. -/
def matrixRowsWrong : ChangeSpec := { name := "matrixRows", fn := fun _ => fun
  | [d1, d2, d3] => { results := [.lit (.bool false)], args := [d1, d2, d3] }
  | _ => none }
def MatrixRowsWrongFalsely : Prop := matrixRowsRow.holds Try.pinned (OpenSpec.ofChange matrixRowsWrong)

/-- 'strongboxlaw3.RsAdds': WHATEVER THE INPUT: true; the input reads as it did. -/
def rsAddsSpec : ChangeSpec := { name := "rsAdds", fn := fun _ => fun
  | [d1, d2, d3] => { results := [.lit (.bool true)], args := [d1, d2, d3] }
  | _ => none }
def rsAddsRow : OpenClaim := { program := "ytdmdcgcmappliaa", sum := "0460e5f419779f60615542ed14f98bf7a2b5d8bcc3b3498a7395a4210c8a87b8", func := "strongbox/strongboxlaw3.RsAdds", spec := "rsAdds", unfollowed := true, recurses := true, apart := false }
def RsAddsSaid : Prop := rsAddsRow.holds Try.pinned (OpenSpec.ofChange rsAddsSpec)

/-- ITS FALSE NEIGHBOUR: 'it returns false'. Refute it at one input. -/
def rsAddsWrong : ChangeSpec := { name := "rsAdds", fn := fun _ => fun
  | [d1, d2, d3] => { results := [.lit (.bool false)], args := [d1, d2, d3] }
  | _ => none }
def RsAddsWrongFalsely : Prop := rsAddsRow.holds Try.pinned (OpenSpec.ofChange rsAddsWrong)

/-- 'strongboxlaw3.RsAny': WHATEVER THE INPUT: true; the input reads as it did. -/
def rsAnySpec : ChangeSpec := { name := "rsAny", fn := fun _ => fun
  | [d1, d2, d3] => { results := [.lit (.bool true)], args := [d1, d2, d3] }
  | _ => none }
def rsAnyRow : OpenClaim := { program := "ytdmdcgcmappliaa", sum := "0460e5f419779f60615542ed14f98bf7a2b5d8bcc3b3498a7395a4210c8a87b8", func := "strongbox/strongboxlaw3.RsAny", spec := "rsAny", unfollowed := true, recurses := true, apart := false }
def RsAnySaid : Prop := rsAnyRow.holds Try.pinned (OpenSpec.ofChange rsAnySpec)

/-- ITS FALSE NEIGHBOUR: 'it returns false'. Refute it at one input. -/
def rsAnyWrong : ChangeSpec := { name := "rsAny", fn := fun _ => fun
  | [d1, d2, d3] => { results := [.lit (.bool false)], args := [d1, d2, d3] }
  | _ => none }
def RsAnyWrongFalsely : Prop := rsAnyRow.holds Try.pinned (OpenSpec.ofChange rsAnyWrong)

/-- 'strongboxlaw3.RsSystem': WHATEVER THE INPUT: true; the input reads as it did. -/
def rsSystemSpec : ChangeSpec := { name := "rsSystem", fn := fun _ => fun
  | [d1, d2, d3] => { results := [.lit (.bool true)], args := [d1, d2, d3] }
  | _ => none }
def rsSystemRow : OpenClaim := { program := "ytdmdcgcmappliaa", sum := "0460e5f419779f60615542ed14f98bf7a2b5d8bcc3b3498a7395a4210c8a87b8", func := "strongbox/strongboxlaw3.RsSystem", spec := "rsSystem", unfollowed := true, recurses := true, apart := false }
def RsSystemSaid : Prop := rsSystemRow.holds Try.pinned (OpenSpec.ofChange rsSystemSpec)

/-- ITS FALSE NEIGHBOUR: 'it returns false'. Refute it at one input. -/
def rsSystemWrong : ChangeSpec := { name := "rsSystem", fn := fun _ => fun
  | [d1, d2, d3] => { results := [.lit (.bool false)], args := [d1, d2, d3] }
  | _ => none }
def RsSystemWrongFalsely : Prop := rsSystemRow.holds Try.pinned (OpenSpec.ofChange rsSystemWrong)

/-- 'strongboxlaw3.RsKnown': WHATEVER THE INPUT: true; the input reads as it did. -/
def rsKnownSpec : ChangeSpec := { name := "rsKnown", fn := fun _ => fun
  | [] => { results := [.lit (.bool true)], args := [] }
  | _ => none }
def rsKnownRow : OpenClaim := { program := "ytdmdcgcmappliaa", sum := "0460e5f419779f60615542ed14f98bf7a2b5d8bcc3b3498a7395a4210c8a87b8", func := "strongbox/strongboxlaw3.RsKnown", spec := "rsKnown", unfollowed := true, recurses := true, apart := false }
def RsKnownSaid : Prop := rsKnownRow.holds Try.pinned (OpenSpec.ofChange rsKnownSpec)

/-- ITS FALSE NEIGHBOUR: 'it returns false'. Refute it at one input. -/
def rsKnownWrong : ChangeSpec := { name := "rsKnown", fn := fun _ => fun
  | [] => { results := [.lit (.bool false)], args := [] }
  | _ => none }
def RsKnownWrongFalsely : Prop := rsKnownRow.holds Try.pinned (OpenSpec.ofChange rsKnownWrong)

/-- 'strongboxlaw3.RsReckons': WHATEVER THE INPUT: true; the input reads as it did. -/
def rsReckonsSpec : ChangeSpec := { name := "rsReckons", fn := fun _ => fun
  | [d1, d2, d3] => { results := [.lit (.bool true)], args := [d1, d2, d3] }
  | _ => none }
def rsReckonsRow : OpenClaim := { program := "ytdmdcgcmappliaa", sum := "0460e5f419779f60615542ed14f98bf7a2b5d8bcc3b3498a7395a4210c8a87b8", func := "strongbox/strongboxlaw3.RsReckons", spec := "rsReckons", unfollowed := true, recurses := true, apart := false }
def RsReckonsSaid : Prop := rsReckonsRow.holds Try.pinned (OpenSpec.ofChange rsReckonsSpec)

/-- ITS FALSE NEIGHBOUR: 'it returns false'. Refute it at one input. -/
def rsReckonsWrong : ChangeSpec := { name := "rsReckons", fn := fun _ => fun
  | [d1, d2, d3] => { results := [.lit (.bool false)], args := [d1, d2, d3] }
  | _ => none }
def RsReckonsWrongFalsely : Prop := rsReckonsRow.holds Try.pinned (OpenSpec.ofChange rsReckonsWrong)

/-- 'strongboxlaw3.RsBack': WHATEVER THE INPUT: true; the input reads as it did. -/
def rsBackSpec : ChangeSpec := { name := "rsBack", fn := fun _ => fun
  | [d1, d2, d3] => { results := [.lit (.bool true)], args := [d1, d2, d3] }
  | _ => none }
def rsBackRow : OpenClaim := { program := "ytdmdcgcmappliaa", sum := "0460e5f419779f60615542ed14f98bf7a2b5d8bcc3b3498a7395a4210c8a87b8", func := "strongbox/strongboxlaw3.RsBack", spec := "rsBack", unfollowed := true, recurses := true, apart := false }
def RsBackSaid : Prop := rsBackRow.holds Try.pinned (OpenSpec.ofChange rsBackSpec)

/-- ITS FALSE NEIGHBOUR: 'it returns false'. Refute it at one input. -/
def rsBackWrong : ChangeSpec := { name := "rsBack", fn := fun _ => fun
  | [d1, d2, d3] => { results := [.lit (.bool false)], args := [d1, d2, d3] }
  | _ => none }
def RsBackWrongFalsely : Prop := rsBackRow.holds Try.pinned (OpenSpec.ofChange rsBackWrong)

/-- 'strongboxlaw3.RsTells': WHATEVER THE INPUT: true; the input reads as it did. -/
def rsTellsSpec : ChangeSpec := { name := "rsTells", fn := fun _ => fun
  | [d1, d2, d3] => { results := [.lit (.bool true)], args := [d1, d2, d3] }
  | _ => none }
def rsTellsRow : OpenClaim := { program := "ytdmdcgcmappliaa", sum := "0460e5f419779f60615542ed14f98bf7a2b5d8bcc3b3498a7395a4210c8a87b8", func := "strongbox/strongboxlaw3.RsTells", spec := "rsTells", unfollowed := true, recurses := true, apart := false }
def RsTellsSaid : Prop := rsTellsRow.holds Try.pinned (OpenSpec.ofChange rsTellsSpec)

/-- ITS FALSE NEIGHBOUR: 'it returns false'. Refute it at one input. -/
def rsTellsWrong : ChangeSpec := { name := "rsTells", fn := fun _ => fun
  | [d1, d2, d3] => { results := [.lit (.bool false)], args := [d1, d2, d3] }
  | _ => none }
def RsTellsWrongFalsely : Prop := rsTellsRow.holds Try.pinned (OpenSpec.ofChange rsTellsWrong)

/- THE SECOND FORM. 'bulk': how many values and letters a reading holds, each counted each time it is reached (what is shared counts as often as it is met; a slice's spare places count too). A statement '..UptoSaid' is the law's where the arguments, and the package variables that the reading takes, are together of bulk at most 1048576: NARROWER than '..Said'. Prove '..Said' where nothing that the law and all that it calls make is longer than what came in: it says more and counts as full. Else prove '..UptoSaid'. A law counts once. -/
mutual
def uptoBulk {H : Type} : DataW H → Nat
  | .lit (.string bytes) => bytes.length + 1
  | .lit _ => 1
  | .nil => 1
  | .ptr d => uptoBulk d + 1
  | .slice elems spare => uptoBulkAll elems + uptoBulkAll spare + 1
  | .agg parts => uptoBulkAll parts + 1
  | .iface _ d => uptoBulk d + 1
  | .map entries => uptoBulkEntries entries + 1
  | .held _ => 1
def uptoBulkAll {H : Type} : List (DataW H) → Nat
  | [] => 0
  | d :: r => uptoBulk d + uptoBulkAll r
def uptoBulkEntries {H : Type} : List (Lit × DataW H) → Nat
  | [] => 0
  | x :: r => uptoBulkEntry x + uptoBulkEntries r
def uptoBulkEntry {H : Type} : Lit × DataW H → Nat
  | (.string bytes, d) => bytes.length + uptoBulk d + 1
  | (_, d) => uptoBulk d + 1
 end
def uptoSmall : (H : Type) → List (DataW H) → Bool := fun _ ds => decide (uptoBulkAll ds ≤ 1048576)
def OpenSpec.upto (s : _root_.Go.ChangeSpec) : _root_.Go.OpenSpec := { _root_.Go.OpenSpec.ofChange s with cond := some uptoSmall }

/-- 'strongboxlaw2.MatrixInverts', WHERE WHAT IT READS IS OF BULK AT MOST 1048576: true; the input reads as it did. -/
def matrixInvertsUptoRow : OpenClaim := { program := "ytdmdcgcmappliaa", sum := "0460e5f419779f60615542ed14f98bf7a2b5d8bcc3b3498a7395a4210c8a87b8", func := "strongbox/strongboxlaw2.MatrixInverts", spec := "matrixInverts", unfollowed := true, recurses := true, apart := false, narrowed := true }
def MatrixInvertsUptoSaid : Prop := matrixInvertsUptoRow.holds Try.pinned (OpenSpec.upto matrixInvertsSpec)

/-- 'strongboxlaw2.MatrixPowers', WHERE WHAT IT READS IS OF BULK AT MOST 1048576: true; the input reads as it did. -/
def matrixPowersUptoRow : OpenClaim := { program := "ytdmdcgcmappliaa", sum := "0460e5f419779f60615542ed14f98bf7a2b5d8bcc3b3498a7395a4210c8a87b8", func := "strongbox/strongboxlaw2.MatrixPowers", spec := "matrixPowers", unfollowed := true, recurses := true, apart := false, narrowed := true }
def MatrixPowersUptoSaid : Prop := matrixPowersUptoRow.holds Try.pinned (OpenSpec.upto matrixPowersSpec)

/-- 'strongboxlaw2.MatrixThree', WHERE WHAT IT READS IS OF BULK AT MOST 1048576: true; the input reads as it did. -/
def matrixThreeUptoRow : OpenClaim := { program := "ytdmdcgcmappliaa", sum := "0460e5f419779f60615542ed14f98bf7a2b5d8bcc3b3498a7395a4210c8a87b8", func := "strongbox/strongboxlaw2.MatrixThree", spec := "matrixThree", unfollowed := true, recurses := true, apart := false, narrowed := true }
def MatrixThreeUptoSaid : Prop := matrixThreeUptoRow.holds Try.pinned (OpenSpec.upto matrixThreeSpec)

/-- 'strongboxlaw2.MatrixKnown', WHERE WHAT IT READS IS OF BULK AT MOST 1048576: true; the input reads as it did. -/
def matrixKnownUptoRow : OpenClaim := { program := "ytdmdcgcmappliaa", sum := "0460e5f419779f60615542ed14f98bf7a2b5d8bcc3b3498a7395a4210c8a87b8", func := "strongbox/strongboxlaw2.MatrixKnown", spec := "matrixKnown", unfollowed := true, recurses := true, apart := false, narrowed := true }
def MatrixKnownUptoSaid : Prop := matrixKnownUptoRow.holds Try.pinned (OpenSpec.upto matrixKnownSpec)

/-- 'strongboxlaw2.MatrixSystem', WHERE WHAT IT READS IS OF BULK AT MOST 1048576: true; the input reads as it did. -/
def matrixSystemUptoRow : OpenClaim := { program := "ytdmdcgcmappliaa", sum := "0460e5f419779f60615542ed14f98bf7a2b5d8bcc3b3498a7395a4210c8a87b8", func := "strongbox/strongboxlaw2.MatrixSystem", spec := "matrixSystem", unfollowed := true, recurses := true, apart := false, narrowed := true }
def MatrixSystemUptoSaid : Prop := matrixSystemUptoRow.holds Try.pinned (OpenSpec.upto matrixSystemSpec)

/-- 'strongboxlaw2.MatrixRows', WHERE WHAT IT READS IS OF BULK AT MOST 1048576: true; the input reads as it did. -/
def matrixRowsUptoRow : OpenClaim := { program := "ytdmdcgcmappliaa", sum := "0460e5f419779f60615542ed14f98bf7a2b5d8bcc3b3498a7395a4210c8a87b8", func := "strongbox/strongboxlaw2.MatrixRows", spec := "matrixRows", unfollowed := true, recurses := true, apart := false, narrowed := true }
def MatrixRowsUptoSaid : Prop := matrixRowsUptoRow.holds Try.pinned (OpenSpec.upto matrixRowsSpec)

/-- 'strongboxlaw3.RsAdds', WHERE WHAT IT READS IS OF BULK AT MOST 1048576: true; the input reads as it did. -/
def rsAddsUptoRow : OpenClaim := { program := "ytdmdcgcmappliaa", sum := "0460e5f419779f60615542ed14f98bf7a2b5d8bcc3b3498a7395a4210c8a87b8", func := "strongbox/strongboxlaw3.RsAdds", spec := "rsAdds", unfollowed := true, recurses := true, apart := false, narrowed := true }
def RsAddsUptoSaid : Prop := rsAddsUptoRow.holds Try.pinned (OpenSpec.upto rsAddsSpec)

/-- 'strongboxlaw3.RsAny', WHERE WHAT IT READS IS OF BULK AT MOST 1048576: true; the input reads as it did. -/
def rsAnyUptoRow : OpenClaim := { program := "ytdmdcgcmappliaa", sum := "0460e5f419779f60615542ed14f98bf7a2b5d8bcc3b3498a7395a4210c8a87b8", func := "strongbox/strongboxlaw3.RsAny", spec := "rsAny", unfollowed := true, recurses := true, apart := false, narrowed := true }
def RsAnyUptoSaid : Prop := rsAnyUptoRow.holds Try.pinned (OpenSpec.upto rsAnySpec)

/-- 'strongboxlaw3.RsSystem', WHERE WHAT IT READS IS OF BULK AT MOST 1048576: true; the input reads as it did. -/
def rsSystemUptoRow : OpenClaim := { program := "ytdmdcgcmappliaa", sum := "0460e5f419779f60615542ed14f98bf7a2b5d8bcc3b3498a7395a4210c8a87b8", func := "strongbox/strongboxlaw3.RsSystem", spec := "rsSystem", unfollowed := true, recurses := true, apart := false, narrowed := true }
def RsSystemUptoSaid : Prop := rsSystemUptoRow.holds Try.pinned (OpenSpec.upto rsSystemSpec)

/-- 'strongboxlaw3.RsKnown', WHERE WHAT IT READS IS OF BULK AT MOST 1048576: true; the input reads as it did. -/
def rsKnownUptoRow : OpenClaim := { program := "ytdmdcgcmappliaa", sum := "0460e5f419779f60615542ed14f98bf7a2b5d8bcc3b3498a7395a4210c8a87b8", func := "strongbox/strongboxlaw3.RsKnown", spec := "rsKnown", unfollowed := true, recurses := true, apart := false, narrowed := true }
def RsKnownUptoSaid : Prop := rsKnownUptoRow.holds Try.pinned (OpenSpec.upto rsKnownSpec)

/-- 'strongboxlaw3.RsReckons', WHERE WHAT IT READS IS OF BULK AT MOST 1048576: true; the input reads as it did. -/
def rsReckonsUptoRow : OpenClaim := { program := "ytdmdcgcmappliaa", sum := "0460e5f419779f60615542ed14f98bf7a2b5d8bcc3b3498a7395a4210c8a87b8", func := "strongbox/strongboxlaw3.RsReckons", spec := "rsReckons", unfollowed := true, recurses := true, apart := false, narrowed := true }
def RsReckonsUptoSaid : Prop := rsReckonsUptoRow.holds Try.pinned (OpenSpec.upto rsReckonsSpec)

/-- 'strongboxlaw3.RsBack', WHERE WHAT IT READS IS OF BULK AT MOST 1048576: true; the input reads as it did. -/
def rsBackUptoRow : OpenClaim := { program := "ytdmdcgcmappliaa", sum := "0460e5f419779f60615542ed14f98bf7a2b5d8bcc3b3498a7395a4210c8a87b8", func := "strongbox/strongboxlaw3.RsBack", spec := "rsBack", unfollowed := true, recurses := true, apart := false, narrowed := true }
def RsBackUptoSaid : Prop := rsBackUptoRow.holds Try.pinned (OpenSpec.upto rsBackSpec)

/-- 'strongboxlaw3.RsTells', WHERE WHAT IT READS IS OF BULK AT MOST 1048576: true; the input reads as it did. -/
def rsTellsUptoRow : OpenClaim := { program := "ytdmdcgcmappliaa", sum := "0460e5f419779f60615542ed14f98bf7a2b5d8bcc3b3498a7395a4210c8a87b8", func := "strongbox/strongboxlaw3.RsTells", spec := "rsTells", unfollowed := true, recurses := true, apart := false, narrowed := true }
def RsTellsUptoSaid : Prop := rsTellsUptoRow.holds Try.pinned (OpenSpec.upto rsTellsSpec)

end Rows
end Go.Proofs.Ytdmdcgcmappliaa
