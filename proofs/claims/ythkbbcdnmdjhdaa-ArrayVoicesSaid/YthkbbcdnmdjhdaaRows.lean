/-
  No cell of these rows narrows 'for every input' (looked for: loops, veiled, ifaces, maps, wideKeys, modest, calm, conditions, laid).
  DERIVED. THE GIVEN ROWS OF THIS SEAT. 6 by the template 'for every input the law returns true; each argument reads behind the call as it read before'; 0 by the template 'total and deterministic' (their statements: YthkbbcdnmdjhdaaTotals.lean).
  GIVEN WITH THE SEED: the statements are not yours to turn. If you find one false, say at which input.
  Laid BY PROGRAM, IN A SANDBOX (cutbox-rows.mjs): the forced cells as the released guide's own fill.sh prints them over the translation 232485b83b065653… (all of the seat's roots in one cut). By AI agents, Wed Nov 11 2026. No macro, syntax, notation, axiom, sorry.
-/
import Derived.Test.YthkbbcdnmdjhdaaChecked
import GoSem.Claim
import GoSem.ClaimJoined
import GoSem.ClaimMapViews
import Derived.JoinedTies
import Derived.KernelRfl
namespace Go.Proofs.Ythkbbcdnmdjhdaa
/- THE CELL 'sum', in the pinned program and in every row, IS THE sha256 OF THE DUMP (.gsa) THAT YthkbbcdnmdjhdaaProg.lean LOADS. Nothing in Lean hashes anything: it is a label: what it is worth is what the hold of that sum in a sandbox is worth. -/
noncomputable def Try.pinned : Pinned := { name := "ythkbbcdnmdjhdaa", sum := "232485b83b065653ee3072b714f519c888fb6a9b70915c003b484ea2a4d50c3e", checked := Try.checked }
namespace Rows
def none {H : Type} : Left H := { results := [], args := [] }

/-- 'strongboxlaw12.ArrayMeets': WHATEVER THE INPUT: true; the input reads as it did. -/
def arrayMeetsSpec : ChangeSpec := { name := "arrayMeets", fn := fun _ => fun
  | [d1, d2, d3] => { results := [.lit (.bool true)], args := [d1, d2, d3] }
  | _ => none }
def arrayMeetsRow : OpenClaim := { program := "ythkbbcdnmdjhdaa", sum := "232485b83b065653ee3072b714f519c888fb6a9b70915c003b484ea2a4d50c3e", func := "strongbox/strongboxlaw12.ArrayMeets", spec := "arrayMeets", unfollowed := true, recurses := true, apart := false }
def ArrayMeetsSaid : Prop := arrayMeetsRow.holds Try.pinned (OpenSpec.ofChange arrayMeetsSpec)

/-- ITS FALSE NEIGHBOUR: 'it returns false'. Refute it at one input. -/
def arrayMeetsWrong : ChangeSpec := { name := "arrayMeets", fn := fun _ => fun
  | [d1, d2, d3] => { results := [.lit (.bool false)], args := [d1, d2, d3] }
  | _ => none }
def ArrayMeetsWrongFalsely : Prop := arrayMeetsRow.holds Try.pinned (OpenSpec.ofChange arrayMeetsWrong)

/-- 'strongboxlaw12.ArrayKnown': WHATEVER THE INPUT: true; the input reads as it did. -/
def arrayKnownSpec : ChangeSpec := { name := "arrayKnown", fn := fun _ => fun
  | [] => { results := [.lit (.bool true)], args := [] }
  | _ => none }
def arrayKnownRow : OpenClaim := { program := "ythkbbcdnmdjhdaa", sum := "232485b83b065653ee3072b714f519c888fb6a9b70915c003b484ea2a4d50c3e", func := "strongbox/strongboxlaw12.ArrayKnown", spec := "arrayKnown", unfollowed := true, recurses := true, apart := false }
def ArrayKnownSaid : Prop := arrayKnownRow.holds Try.pinned (OpenSpec.ofChange arrayKnownSpec)

/-- ITS FALSE NEIGHBOUR: 'it returns false'. Refute it at one input. -/
def arrayKnownWrong : ChangeSpec := { name := "arrayKnown", fn := fun _ => fun
  | [] => { results := [.lit (.bool false)], args := [] }
  | _ => none }
def ArrayKnownWrongFalsely : Prop := arrayKnownRow.holds Try.pinned (OpenSpec.ofChange arrayKnownWrong)

/-- 'strongboxlaw12.ArrayVoices': WHATEVER THE INPUT: true; the input reads as it did. -/
def arrayVoicesSpec : ChangeSpec := { name := "arrayVoices", fn := fun _ => fun
  | [d1, d2] => { results := [.lit (.bool true)], args := [d1, d2] }
  | _ => none }
def arrayVoicesRow : OpenClaim := { program := "ythkbbcdnmdjhdaa", sum := "232485b83b065653ee3072b714f519c888fb6a9b70915c003b484ea2a4d50c3e", func := "strongbox/strongboxlaw12.ArrayVoices", spec := "arrayVoices", unfollowed := true, recurses := true, apart := false }
def ArrayVoicesSaid : Prop := arrayVoicesRow.holds Try.pinned (OpenSpec.ofChange arrayVoicesSpec)

/-- ITS FALSE NEIGHBOUR: 'it returns false'. Refute it at one input. -/
def arrayVoicesWrong : ChangeSpec := { name := "arrayVoices", fn := fun _ => fun
  | [d1, d2] => { results := [.lit (.bool false)], args := [d1, d2] }
  | _ => none }
def ArrayVoicesWrongFalsely : Prop := arrayVoicesRow.holds Try.pinned (OpenSpec.ofChange arrayVoicesWrong)

/-- 'strongboxlaw12.ArrayFormats': WHATEVER THE INPUT: true; the input reads as it did. -/
def arrayFormatsSpec : ChangeSpec := { name := "arrayFormats", fn := fun _ => fun
  | [d1, d2] => { results := [.lit (.bool true)], args := [d1, d2] }
  | _ => none }
def arrayFormatsRow : OpenClaim := { program := "ythkbbcdnmdjhdaa", sum := "232485b83b065653ee3072b714f519c888fb6a9b70915c003b484ea2a4d50c3e", func := "strongbox/strongboxlaw12.ArrayFormats", spec := "arrayFormats", unfollowed := true, recurses := true, apart := false }
def ArrayFormatsSaid : Prop := arrayFormatsRow.holds Try.pinned (OpenSpec.ofChange arrayFormatsSpec)

/-- ITS FALSE NEIGHBOUR: 'it returns false'. Refute it at one input. -/
def arrayFormatsWrong : ChangeSpec := { name := "arrayFormats", fn := fun _ => fun
  | [d1, d2] => { results := [.lit (.bool false)], args := [d1, d2] }
  | _ => none }
def ArrayFormatsWrongFalsely : Prop := arrayFormatsRow.holds Try.pinned (OpenSpec.ofChange arrayFormatsWrong)

/-- 'strongboxlaw12.ArraySaves': WHATEVER THE INPUT: true; the input reads as it did. -/
def arraySavesSpec : ChangeSpec := { name := "arraySaves", fn := fun _ => fun
  | [d1, d2, d3] => { results := [.lit (.bool true)], args := [d1, d2, d3] }
  | _ => none }
def arraySavesRow : OpenClaim := { program := "ythkbbcdnmdjhdaa", sum := "232485b83b065653ee3072b714f519c888fb6a9b70915c003b484ea2a4d50c3e", func := "strongbox/strongboxlaw12.ArraySaves", spec := "arraySaves", unfollowed := true, recurses := true, apart := false }
def ArraySavesSaid : Prop := arraySavesRow.holds Try.pinned (OpenSpec.ofChange arraySavesSpec)

/-- ITS FALSE NEIGHBOUR: 'it returns false'. Refute it at one input. -/
def arraySavesWrong : ChangeSpec := { name := "arraySaves", fn := fun _ => fun
  | [d1, d2, d3] => { results := [.lit (.bool false)], args := [d1, d2, d3] }
  | _ => none }
def ArraySavesWrongFalsely : Prop := arraySavesRow.holds Try.pinned (OpenSpec.ofChange arraySavesWrong)

/-- 'strongboxlaw20.BootInit': WHATEVER THE INPUT: true; the input reads as it did. -/
def bootInitSpec : ChangeSpec := { name := "bootInit", fn := fun _ => fun
  | [d1, d2, d3] => { results := [.lit (.bool true)], args := [d1, d2, d3] }
  | _ => none }
def bootInitRow : OpenClaim := { program := "ythkbbcdnmdjhdaa", sum := "232485b83b065653ee3072b714f519c888fb6a9b70915c003b484ea2a4d50c3e", func := "strongbox/strongboxlaw20.BootInit", spec := "bootInit", unfollowed := true, recurses := true, apart := false }
def BootInitSaid : Prop := bootInitRow.holds Try.pinned (OpenSpec.ofChange bootInitSpec)

/-- ITS FALSE NEIGHBOUR: 'it returns false'. Refute it at one input. -/
def bootInitWrong : ChangeSpec := { name := "bootInit", fn := fun _ => fun
  | [d1, d2, d3] => { results := [.lit (.bool false)], args := [d1, d2, d3] }
  | _ => none }
def BootInitWrongFalsely : Prop := bootInitRow.holds Try.pinned (OpenSpec.ofChange bootInitWrong)

/- THE SECOND FORM. 'bulk': how many values and letters a reading holds, each counted each time it is reached (what is shared counts as often as it is met; a slice's spare places count too). A statement '..UptoSaid' is the law's where the arguments, and the package variables that the reading takes, are together of bulk at most 1048576: NARROWER than '..Said'. Prove '..Said' where nothing that the law and all that it calls make is longer than what came in: it says more and counts as full. Else prove '..UptoSaid'. A law counts once. -/
mutual
def uptoBulk {H : Type} : DataW H → Nat
  | .lit (.string bytes) => bytes.length + 1
  | .lit _ => 1
  | .nil => 1
  | .ptr d => uptoBulk d + 1
  | .slice elems spare => uptoBulkAll elems + uptoBulkAll spare + 1
  | .agg parts => uptoBulkAll parts + 1
  | .iface _ d => uptoBulk d + 1
  | .map entries => uptoBulkEntries entries + 1
  | .held _ => 1
def uptoBulkAll {H : Type} : List (DataW H) → Nat
  | [] => 0
  | d :: r => uptoBulk d + uptoBulkAll r
def uptoBulkEntries {H : Type} : List (Lit × DataW H) → Nat
  | [] => 0
  | x :: r => uptoBulkEntry x + uptoBulkEntries r
def uptoBulkEntry {H : Type} : Lit × DataW H → Nat
  | (.string bytes, d) => bytes.length + uptoBulk d + 1
  | (_, d) => uptoBulk d + 1
 end
def uptoSmall : (H : Type) → List (DataW H) → Bool := fun _ ds => decide (uptoBulkAll ds ≤ 1048576)
def OpenSpec.upto (s : _root_.Go.ChangeSpec) : _root_.Go.OpenSpec := { _root_.Go.OpenSpec.ofChange s with cond := some uptoSmall }

/-- 'strongboxlaw12.ArrayMeets', WHERE WHAT IT READS IS OF BULK AT MOST 1048576: true; the input reads as it did. -/
def arrayMeetsUptoRow : OpenClaim := { program := "ythkbbcdnmdjhdaa", sum := "232485b83b065653ee3072b714f519c888fb6a9b70915c003b484ea2a4d50c3e", func := "strongbox/strongboxlaw12.ArrayMeets", spec := "arrayMeets", unfollowed := true, recurses := true, apart := false, narrowed := true }
def ArrayMeetsUptoSaid : Prop := arrayMeetsUptoRow.holds Try.pinned (OpenSpec.upto arrayMeetsSpec)

/-- 'strongboxlaw12.ArrayKnown', WHERE WHAT IT READS IS OF BULK AT MOST 1048576: true; the input reads as it did. -/
def arrayKnownUptoRow : OpenClaim := { program := "ythkbbcdnmdjhdaa", sum := "232485b83b065653ee3072b714f519c888fb6a9b70915c003b484ea2a4d50c3e", func := "strongbox/strongboxlaw12.ArrayKnown", spec := "arrayKnown", unfollowed := true, recurses := true, apart := false, narrowed := true }
def ArrayKnownUptoSaid : Prop := arrayKnownUptoRow.holds Try.pinned (OpenSpec.upto arrayKnownSpec)

/-- 'strongboxlaw12.ArrayVoices', WHERE WHAT IT READS IS OF BULK AT MOST 1048576: true; the input reads as it did. -/
def arrayVoicesUptoRow : OpenClaim := { program := "ythkbbcdnmdjhdaa", sum := "232485b83b065653ee3072b714f519c888fb6a9b70915c003b484ea2a4d50c3e", func := "strongbox/strongboxlaw12.ArrayVoices", spec := "arrayVoices", unfollowed := true, recurses := true, apart := false, narrowed := true }
def ArrayVoicesUptoSaid : Prop := arrayVoicesUptoRow.holds Try.pinned (OpenSpec.upto arrayVoicesSpec)

/-- 'strongboxlaw12.ArrayFormats', WHERE WHAT IT READS IS OF BULK AT MOST 1048576: true; the input reads as it did. -/
def arrayFormatsUptoRow : OpenClaim := { program := "ythkbbcdnmdjhdaa", sum := "232485b83b065653ee3072b714f519c888fb6a9b70915c003b484ea2a4d50c3e", func := "strongbox/strongboxlaw12.ArrayFormats", spec := "arrayFormats", unfollowed := true, recurses := true, apart := false, narrowed := true }
def ArrayFormatsUptoSaid : Prop := arrayFormatsUptoRow.holds Try.pinned (OpenSpec.upto arrayFormatsSpec)

/-- 'strongboxlaw12.ArraySaves', WHERE WHAT IT READS IS OF BULK AT MOST 1048576: true; the input reads as it did. -/
def arraySavesUptoRow : OpenClaim := { program := "ythkbbcdnmdjhdaa", sum := "232485b83b065653ee3072b714f519c888fb6a9b70915c003b484ea2a4d50c3e", func := "strongbox/strongboxlaw12.ArraySaves", spec := "arraySaves", unfollowed := true, recurses := true, apart := false, narrowed := true }
def ArraySavesUptoSaid : Prop := arraySavesUptoRow.holds Try.pinned (OpenSpec.upto arraySavesSpec)

/-- 'strongboxlaw20.BootInit', WHERE WHAT IT READS IS OF BULK AT MOST 1048576: true; the input reads as it did. -/
def bootInitUptoRow : OpenClaim := { program := "ythkbbcdnmdjhdaa", sum := "232485b83b065653ee3072b714f519c888fb6a9b70915c003b484ea2a4d50c3e", func := "strongbox/strongboxlaw20.BootInit", spec := "bootInit", unfollowed := true, recurses := true, apart := false, narrowed := true }
def BootInitUptoSaid : Prop := bootInitUptoRow.holds Try.pinned (OpenSpec.upto bootInitSpec)

end Rows
end Go.Proofs.Ythkbbcdnmdjhdaa
