/-
  No cell of these rows narrows 'for every input' (looked for: loops, veiled, ifaces, maps, wideKeys, modest, calm, conditions, laid).
  DERIVED. THE GIVEN ROWS OF THIS SEAT. 9 by the template 'for every input the law returns true; each argument reads behind the call as it read before'; 0 by the template 'total and deterministic' (their statements: YtnphkddhckcpmaaTotals.lean).
  GIVEN WITH THE SEED: the statements are not yours to turn. If you find one false, say at which input.
  Laid BY PROGRAM, IN A SANDBOX (cutbox-rows.mjs): the forced cells as the released guide's own fill.sh prints them over the translation 2f2ba6e6994c8640… (all of the seat's roots in one cut). By AI agents, Wed Nov 11 2026. No macro, syntax, notation, axiom, sorry.
-/
import Derived.Test.YtnphkddhckcpmaaChecked
import GoSem.Claim
import GoSem.ClaimJoined
import GoSem.ClaimMapViews
import Derived.JoinedTies
import Derived.KernelRfl
namespace Go.Proofs.Ytnphkddhckcpmaa
/- THE CELL 'sum', in the pinned program and in every row, IS THE sha256 OF THE DUMP (.gsa) THAT YtnphkddhckcpmaaProg.lean LOADS. Nothing in Lean hashes anything: it is a label: what it is worth is what the hold of that sum in a sandbox is worth. -/
noncomputable def Try.pinned : Pinned := { name := "ytnphkddhckcpmaa", sum := "2f2ba6e6994c86407450a1b8c34b19469f9539129303e450aa9ee393f9622242", checked := Try.checked }
namespace Rows
def none {H : Type} : Left H := { results := [], args := [] }

/-- 'strongboxlaw10.DiskFuse': WHATEVER THE INPUT: true; the input reads as it did. -/
def diskFuseSpec : ChangeSpec := { name := "diskFuse", fn := fun _ => fun
  | [d1, d2] => { results := [.lit (.bool true)], args := [d1, d2] }
  | _ => none }
def diskFuseRow : OpenClaim := { program := "ytnphkddhckcpmaa", sum := "2f2ba6e6994c86407450a1b8c34b19469f9539129303e450aa9ee393f9622242", func := "strongbox/strongboxlaw10.DiskFuse", spec := "diskFuse", apart := false }
def DiskFuseSaid : Prop := diskFuseRow.holds Try.pinned (OpenSpec.ofChange diskFuseSpec)

/-- ITS FALSE NEIGHBOUR: 'it returns false'. Refute it at one input. -/
def diskFuseWrong : ChangeSpec := { name := "diskFuse", fn := fun _ => fun
  | [d1, d2] => { results := [.lit (.bool false)], args := [d1, d2] }
  | _ => none }
def DiskFuseWrongFalsely : Prop := diskFuseRow.holds Try.pinned (OpenSpec.ofChange diskFuseWrong)

/-- 'strongboxlaw10.DiskApart': WHATEVER THE INPUT: true; the input reads as it did. -/
def diskApartSpec : ChangeSpec := { name := "diskApart", fn := fun _ => fun
  | [d] => { results := [.lit (.bool true)], args := [d] }
  | _ => none }
def diskApartRow : OpenClaim := { program := "ytnphkddhckcpmaa", sum := "2f2ba6e6994c86407450a1b8c34b19469f9539129303e450aa9ee393f9622242", func := "strongbox/strongboxlaw10.DiskApart", spec := "diskApart", inPlace := ["internal/bytealg.abigen_runtime_cmpstring"], unfollowed := true, recurses := true, apart := false }
def DiskApartSaid : Prop := diskApartRow.holds Try.pinned (OpenSpec.ofChange diskApartSpec)

/-- ITS FALSE NEIGHBOUR: 'it returns false'. Refute it at one input. -/
def diskApartWrong : ChangeSpec := { name := "diskApart", fn := fun _ => fun
  | [d] => { results := [.lit (.bool false)], args := [d] }
  | _ => none }
def DiskApartWrongFalsely : Prop := diskApartRow.holds Try.pinned (OpenSpec.ofChange diskApartWrong)

/-- 'strongboxlaw10.DiskFull': WHATEVER THE INPUT: true; the input reads as it did. -/
def diskFullSpec : ChangeSpec := { name := "diskFull", fn := fun _ => fun
  | [d1, d2] => { results := [.lit (.bool true)], args := [d1, d2] }
  | _ => none }
def diskFullRow : OpenClaim := { program := "ytnphkddhckcpmaa", sum := "2f2ba6e6994c86407450a1b8c34b19469f9539129303e450aa9ee393f9622242", func := "strongbox/strongboxlaw10.DiskFull", spec := "diskFull", inPlace := ["internal/bytealg.abigen_runtime_cmpstring"], unfollowed := true, recurses := true, apart := false }
def DiskFullSaid : Prop := diskFullRow.holds Try.pinned (OpenSpec.ofChange diskFullSpec)

/-- ITS FALSE NEIGHBOUR: 'it returns false'. Refute it at one input. -/
def diskFullWrong : ChangeSpec := { name := "diskFull", fn := fun _ => fun
  | [d1, d2] => { results := [.lit (.bool false)], args := [d1, d2] }
  | _ => none }
def DiskFullWrongFalsely : Prop := diskFullRow.holds Try.pinned (OpenSpec.ofChange diskFullWrong)

/-- 'strongboxlaw10.DiskLists': WHATEVER THE INPUT: true; the input reads as it did. -/
def diskListsSpec : ChangeSpec := { name := "diskLists", fn := fun _ => fun
  | [d1, d2] => { results := [.lit (.bool true)], args := [d1, d2] }
  | _ => none }
def diskListsRow : OpenClaim := { program := "ytnphkddhckcpmaa", sum := "2f2ba6e6994c86407450a1b8c34b19469f9539129303e450aa9ee393f9622242", func := "strongbox/strongboxlaw10.DiskLists", spec := "diskLists", inPlace := ["internal/bytealg.abigen_runtime_cmpstring"], unfollowed := true, recurses := true, apart := false }
def DiskListsSaid : Prop := diskListsRow.holds Try.pinned (OpenSpec.ofChange diskListsSpec)

/-- ITS FALSE NEIGHBOUR: 'it returns false'. Refute it at one input. -/
def diskListsWrong : ChangeSpec := { name := "diskLists", fn := fun _ => fun
  | [d1, d2] => { results := [.lit (.bool false)], args := [d1, d2] }
  | _ => none }
def DiskListsWrongFalsely : Prop := diskListsRow.holds Try.pinned (OpenSpec.ofChange diskListsWrong)

/-- 'strongboxlaw10.DiskFails': WHATEVER THE INPUT: true; the input reads as it did. -/
def diskFailsSpec : ChangeSpec := { name := "diskFails", fn := fun _ => fun
  | [d1, d2] => { results := [.lit (.bool true)], args := [d1, d2] }
  | _ => none }
def diskFailsRow : OpenClaim := { program := "ytnphkddhckcpmaa", sum := "2f2ba6e6994c86407450a1b8c34b19469f9539129303e450aa9ee393f9622242", func := "strongbox/strongboxlaw10.DiskFails", spec := "diskFails", inPlace := ["internal/bytealg.abigen_runtime_cmpstring"], unfollowed := true, recurses := true, apart := false }
def DiskFailsSaid : Prop := diskFailsRow.holds Try.pinned (OpenSpec.ofChange diskFailsSpec)

/-- ITS FALSE NEIGHBOUR: 'it returns false'. Refute it at one input. -/
def diskFailsWrong : ChangeSpec := { name := "diskFails", fn := fun _ => fun
  | [d1, d2] => { results := [.lit (.bool false)], args := [d1, d2] }
  | _ => none }
def DiskFailsWrongFalsely : Prop := diskFailsRow.holds Try.pinned (OpenSpec.ofChange diskFailsWrong)

/-- 'strongboxlaw10.DiskKnown': WHATEVER THE INPUT: true; the input reads as it did. -/
def diskKnownSpec : ChangeSpec := { name := "diskKnown", fn := fun _ => fun
  | [] => { results := [.lit (.bool true)], args := [] }
  | _ => none }
def diskKnownRow : OpenClaim := { program := "ytnphkddhckcpmaa", sum := "2f2ba6e6994c86407450a1b8c34b19469f9539129303e450aa9ee393f9622242", func := "strongbox/strongboxlaw10.DiskKnown", spec := "diskKnown", inPlace := ["internal/bytealg.abigen_runtime_cmpstring"], unfollowed := true, recurses := true, apart := false }
def DiskKnownSaid : Prop := diskKnownRow.holds Try.pinned (OpenSpec.ofChange diskKnownSpec)

/-- ITS FALSE NEIGHBOUR: 'it returns false'. Refute it at one input. -/
def diskKnownWrong : ChangeSpec := { name := "diskKnown", fn := fun _ => fun
  | [] => { results := [.lit (.bool false)], args := [] }
  | _ => none }
def DiskKnownWrongFalsely : Prop := diskKnownRow.holds Try.pinned (OpenSpec.ofChange diskKnownWrong)

/-- 'strongboxlaw10.DiskCrash': WHATEVER THE INPUT: true; the input reads as it did. -/
def diskCrashSpec : ChangeSpec := { name := "diskCrash", fn := fun _ => fun
  | [d1, d2] => { results := [.lit (.bool true)], args := [d1, d2] }
  | _ => none }
def diskCrashRow : OpenClaim := { program := "ytnphkddhckcpmaa", sum := "2f2ba6e6994c86407450a1b8c34b19469f9539129303e450aa9ee393f9622242", func := "strongbox/strongboxlaw10.DiskCrash", spec := "diskCrash", inPlace := ["internal/bytealg.abigen_runtime_cmpstring"], unfollowed := true, recurses := true, apart := false }
def DiskCrashSaid : Prop := diskCrashRow.holds Try.pinned (OpenSpec.ofChange diskCrashSpec)

/-- ITS FALSE NEIGHBOUR: 'it returns false'. Refute it at one input. -/
def diskCrashWrong : ChangeSpec := { name := "diskCrash", fn := fun _ => fun
  | [d1, d2] => { results := [.lit (.bool false)], args := [d1, d2] }
  | _ => none }
def DiskCrashWrongFalsely : Prop := diskCrashRow.holds Try.pinned (OpenSpec.ofChange diskCrashWrong)

/-- 'strongboxlaw10.DiskRename': WHATEVER THE INPUT: true; the input reads as it did. -/
def diskRenameSpec : ChangeSpec := { name := "diskRename", fn := fun _ => fun
  | [d1, d2] => { results := [.lit (.bool true)], args := [d1, d2] }
  | _ => none }
def diskRenameRow : OpenClaim := { program := "ytnphkddhckcpmaa", sum := "2f2ba6e6994c86407450a1b8c34b19469f9539129303e450aa9ee393f9622242", func := "strongbox/strongboxlaw10.DiskRename", spec := "diskRename", inPlace := ["internal/bytealg.abigen_runtime_cmpstring"], unfollowed := true, recurses := true, apart := false }
def DiskRenameSaid : Prop := diskRenameRow.holds Try.pinned (OpenSpec.ofChange diskRenameSpec)

/-- ITS FALSE NEIGHBOUR: 'it returns false'. Refute it at one input. -/
def diskRenameWrong : ChangeSpec := { name := "diskRename", fn := fun _ => fun
  | [d1, d2] => { results := [.lit (.bool false)], args := [d1, d2] }
  | _ => none }
def DiskRenameWrongFalsely : Prop := diskRenameRow.holds Try.pinned (OpenSpec.ofChange diskRenameWrong)

/-- 'strongboxlaw10.DiskPlays': WHATEVER THE INPUT: true; the input reads as it did. -/
def diskPlaysSpec : ChangeSpec := { name := "diskPlays", fn := fun _ => fun
  | [d1, d2] => { results := [.lit (.bool true)], args := [d1, d2] }
  | _ => none }
def diskPlaysRow : OpenClaim := { program := "ytnphkddhckcpmaa", sum := "2f2ba6e6994c86407450a1b8c34b19469f9539129303e450aa9ee393f9622242", func := "strongbox/strongboxlaw10.DiskPlays", spec := "diskPlays", inPlace := ["internal/bytealg.abigen_runtime_cmpstring"], unfollowed := true, recurses := true, apart := false }
def DiskPlaysSaid : Prop := diskPlaysRow.holds Try.pinned (OpenSpec.ofChange diskPlaysSpec)

/-- ITS FALSE NEIGHBOUR: 'it returns false'. Refute it at one input. -/
def diskPlaysWrong : ChangeSpec := { name := "diskPlays", fn := fun _ => fun
  | [d1, d2] => { results := [.lit (.bool false)], args := [d1, d2] }
  | _ => none }
def DiskPlaysWrongFalsely : Prop := diskPlaysRow.holds Try.pinned (OpenSpec.ofChange diskPlaysWrong)

/- THE SECOND FORM. 'bulk': how many values and letters a reading holds, each counted each time it is reached (what is shared counts as often as it is met; a slice's spare places count too). A statement '..UptoSaid' is the law's where the arguments, and the package variables that the reading takes, are together of bulk at most 1048576: NARROWER than '..Said'. Prove '..Said' where nothing that the law and all that it calls make is longer than what came in: it says more and counts as full. Else prove '..UptoSaid'. A law counts once. -/
mutual
def uptoBulk {H : Type} : DataW H → Nat
  | .lit (.string bytes) => bytes.length + 1
  | .lit _ => 1
  | .nil => 1
  | .ptr d => uptoBulk d + 1
  | .slice elems spare => uptoBulkAll elems + uptoBulkAll spare + 1
  | .agg parts => uptoBulkAll parts + 1
  | .iface _ d => uptoBulk d + 1
  | .map entries => uptoBulkEntries entries + 1
  | .held _ => 1
def uptoBulkAll {H : Type} : List (DataW H) → Nat
  | [] => 0
  | d :: r => uptoBulk d + uptoBulkAll r
def uptoBulkEntries {H : Type} : List (Lit × DataW H) → Nat
  | [] => 0
  | x :: r => uptoBulkEntry x + uptoBulkEntries r
def uptoBulkEntry {H : Type} : Lit × DataW H → Nat
  | (.string bytes, d) => bytes.length + uptoBulk d + 1
  | (_, d) => uptoBulk d + 1
 end
def uptoSmall : (H : Type) → List (DataW H) → Bool := fun _ ds => decide (uptoBulkAll ds ≤ 1048576)
def OpenSpec.upto (s : _root_.Go.ChangeSpec) : _root_.Go.OpenSpec := { _root_.Go.OpenSpec.ofChange s with cond := some uptoSmall }

/-- 'strongboxlaw10.DiskFuse', WHERE WHAT IT READS IS OF BULK AT MOST 1048576: true; the input reads as it did. -/
def diskFuseUptoRow : OpenClaim := { program := "ytnphkddhckcpmaa", sum := "2f2ba6e6994c86407450a1b8c34b19469f9539129303e450aa9ee393f9622242", func := "strongbox/strongboxlaw10.DiskFuse", spec := "diskFuse", apart := false, narrowed := true }
def DiskFuseUptoSaid : Prop := diskFuseUptoRow.holds Try.pinned (OpenSpec.upto diskFuseSpec)

/-- 'strongboxlaw10.DiskApart', WHERE WHAT IT READS IS OF BULK AT MOST 1048576: true; the input reads as it did. -/
def diskApartUptoRow : OpenClaim := { program := "ytnphkddhckcpmaa", sum := "2f2ba6e6994c86407450a1b8c34b19469f9539129303e450aa9ee393f9622242", func := "strongbox/strongboxlaw10.DiskApart", spec := "diskApart", inPlace := ["internal/bytealg.abigen_runtime_cmpstring"], unfollowed := true, recurses := true, apart := false, narrowed := true }
def DiskApartUptoSaid : Prop := diskApartUptoRow.holds Try.pinned (OpenSpec.upto diskApartSpec)

/-- 'strongboxlaw10.DiskFull', WHERE WHAT IT READS IS OF BULK AT MOST 1048576: true; the input reads as it did. -/
def diskFullUptoRow : OpenClaim := { program := "ytnphkddhckcpmaa", sum := "2f2ba6e6994c86407450a1b8c34b19469f9539129303e450aa9ee393f9622242", func := "strongbox/strongboxlaw10.DiskFull", spec := "diskFull", inPlace := ["internal/bytealg.abigen_runtime_cmpstring"], unfollowed := true, recurses := true, apart := false, narrowed := true }
def DiskFullUptoSaid : Prop := diskFullUptoRow.holds Try.pinned (OpenSpec.upto diskFullSpec)

/-- 'strongboxlaw10.DiskLists', WHERE WHAT IT READS IS OF BULK AT MOST 1048576: true; the input reads as it did. -/
def diskListsUptoRow : OpenClaim := { program := "ytnphkddhckcpmaa", sum := "2f2ba6e6994c86407450a1b8c34b19469f9539129303e450aa9ee393f9622242", func := "strongbox/strongboxlaw10.DiskLists", spec := "diskLists", inPlace := ["internal/bytealg.abigen_runtime_cmpstring"], unfollowed := true, recurses := true, apart := false, narrowed := true }
def DiskListsUptoSaid : Prop := diskListsUptoRow.holds Try.pinned (OpenSpec.upto diskListsSpec)

/-- 'strongboxlaw10.DiskFails', WHERE WHAT IT READS IS OF BULK AT MOST 1048576: true; the input reads as it did. -/
def diskFailsUptoRow : OpenClaim := { program := "ytnphkddhckcpmaa", sum := "2f2ba6e6994c86407450a1b8c34b19469f9539129303e450aa9ee393f9622242", func := "strongbox/strongboxlaw10.DiskFails", spec := "diskFails", inPlace := ["internal/bytealg.abigen_runtime_cmpstring"], unfollowed := true, recurses := true, apart := false, narrowed := true }
def DiskFailsUptoSaid : Prop := diskFailsUptoRow.holds Try.pinned (OpenSpec.upto diskFailsSpec)

/-- 'strongboxlaw10.DiskKnown', WHERE WHAT IT READS IS OF BULK AT MOST 1048576: true; the input reads as it did. -/
def diskKnownUptoRow : OpenClaim := { program := "ytnphkddhckcpmaa", sum := "2f2ba6e6994c86407450a1b8c34b19469f9539129303e450aa9ee393f9622242", func := "strongbox/strongboxlaw10.DiskKnown", spec := "diskKnown", inPlace := ["internal/bytealg.abigen_runtime_cmpstring"], unfollowed := true, recurses := true, apart := false, narrowed := true }
def DiskKnownUptoSaid : Prop := diskKnownUptoRow.holds Try.pinned (OpenSpec.upto diskKnownSpec)

/-- 'strongboxlaw10.DiskCrash', WHERE WHAT IT READS IS OF BULK AT MOST 1048576: true; the input reads as it did. -/
def diskCrashUptoRow : OpenClaim := { program := "ytnphkddhckcpmaa", sum := "2f2ba6e6994c86407450a1b8c34b19469f9539129303e450aa9ee393f9622242", func := "strongbox/strongboxlaw10.DiskCrash", spec := "diskCrash", inPlace := ["internal/bytealg.abigen_runtime_cmpstring"], unfollowed := true, recurses := true, apart := false, narrowed := true }
def DiskCrashUptoSaid : Prop := diskCrashUptoRow.holds Try.pinned (OpenSpec.upto diskCrashSpec)

/-- 'strongboxlaw10.DiskRename', WHERE WHAT IT READS IS OF BULK AT MOST 1048576: true; the input reads as it did. -/
def diskRenameUptoRow : OpenClaim := { program := "ytnphkddhckcpmaa", sum := "2f2ba6e6994c86407450a1b8c34b19469f9539129303e450aa9ee393f9622242", func := "strongbox/strongboxlaw10.DiskRename", spec := "diskRename", inPlace := ["internal/bytealg.abigen_runtime_cmpstring"], unfollowed := true, recurses := true, apart := false, narrowed := true }
def DiskRenameUptoSaid : Prop := diskRenameUptoRow.holds Try.pinned (OpenSpec.upto diskRenameSpec)

/-- 'strongboxlaw10.DiskPlays', WHERE WHAT IT READS IS OF BULK AT MOST 1048576: true; the input reads as it did. -/
def diskPlaysUptoRow : OpenClaim := { program := "ytnphkddhckcpmaa", sum := "2f2ba6e6994c86407450a1b8c34b19469f9539129303e450aa9ee393f9622242", func := "strongbox/strongboxlaw10.DiskPlays", spec := "diskPlays", inPlace := ["internal/bytealg.abigen_runtime_cmpstring"], unfollowed := true, recurses := true, apart := false, narrowed := true }
def DiskPlaysUptoSaid : Prop := diskPlaysUptoRow.holds Try.pinned (OpenSpec.upto diskPlaysSpec)

end Rows
end Go.Proofs.Ytnphkddhckcpmaa
