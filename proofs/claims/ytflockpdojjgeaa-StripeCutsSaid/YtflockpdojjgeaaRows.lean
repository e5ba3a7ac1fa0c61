/-
  No cell of these rows narrows 'for every input' (looked for: loops, veiled, ifaces, maps, wideKeys, modest, calm, conditions, laid).
  DERIVED. THE GIVEN ROWS OF THIS SEAT. 11 by the template 'for every input the law returns true; each argument reads behind the call as it read before'; 0 by the template 'total and deterministic' (their statements: YtflockpdojjgeaaTotals.lean).
  GIVEN WITH THE SEED: the statements are not yours to turn. If you find one false, say at which input.
  Laid BY PROGRAM, IN A SANDBOX (cutbox-rows.mjs): the forced cells as the released guide's own fill.sh prints them over the translation db1c498b33190eda… (all of the seat's roots in one cut). By AI agents, Wed Nov 11 2026. No macro, syntax, notation, axiom, sorry.
-/
import Derived.Test.YtflockpdojjgeaaChecked
import GoSem.Claim
import GoSem.ClaimJoined
import GoSem.ClaimMapViews
import Derived.JoinedTies
import Derived.KernelRfl
namespace Go.Proofs.Ytflockpdojjgeaa
/- THE CELL 'sum', in the pinned program and in every row, IS THE sha256 OF THE DUMP (.gsa) THAT YtflockpdojjgeaaProg.lean LOADS. Nothing in Lean hashes anything: it is a label: what it is worth is what the hold of that sum in a sandbox is worth. -/
noncomputable def Try.pinned : Pinned := { name := "ytflockpdojjgeaa", sum := "db1c498b33190eda389f294b7e175540b025e6a87ca018ec3d386ecd8bf91e7f", checked := Try.checked }
namespace Rows
def none {H : Type} : Left H := { results := [], args := [] }

/-- 'strongboxlaw11.StripeCuts': WHATEVER THE INPUT: true; the input reads as it did. -/
def stripeCutsSpec : ChangeSpec := { name := "stripeCuts", fn := fun _ => fun
  | [d1, d2, d3] => { results := [.lit (.bool true)], args := [d1, d2, d3] }
  | _ => none }
def stripeCutsRow : OpenClaim := { program := "ytflockpdojjgeaa", sum := "db1c498b33190eda389f294b7e175540b025e6a87ca018ec3d386ecd8bf91e7f", func := "strongbox/strongboxlaw11.StripeCuts", spec := "stripeCuts", apart := false }
def StripeCutsSaid : Prop := stripeCutsRow.holds Try.pinned (OpenSpec.ofChange stripeCutsSpec)

/-- ITS FALSE NEIGHBOUR: 'it returns false'. Refute it at one input. -/
def stripeCutsWrong : ChangeSpec := { name := "stripeCuts", fn := fun _ => fun
  | [d1, d2, d3] => { results := [.lit (.bool false)], args := [d1, d2, d3] }
  | _ => none }
def StripeCutsWrongFalsely : Prop := stripeCutsRow.holds Try.pinned (OpenSpec.ofChange stripeCutsWrong)

/-- 'strongboxlaw11.StripeBack': WHATEVER THE INPUT: true; the input reads as it did. -/
def stripeBackSpec : ChangeSpec := { name := "stripeBack", fn := fun _ => fun
  | [d1, d2, d3] => { results := [.lit (.bool true)], args := [d1, d2, d3] }
  | _ => none }
def stripeBackRow : OpenClaim := { program := "ytflockpdojjgeaa", sum := "db1c498b33190eda389f294b7e175540b025e6a87ca018ec3d386ecd8bf91e7f", func := "strongbox/strongboxlaw11.StripeBack", spec := "stripeBack", apart := false }
def StripeBackSaid : Prop := stripeBackRow.holds Try.pinned (OpenSpec.ofChange stripeBackSpec)

/-- ITS FALSE NEIGHBOUR: 'it returns false'. Refute it at one input. -/
def stripeBackWrong : ChangeSpec := { name := "stripeBack", fn := fun _ => fun
  | [d1, d2, d3] => { results := [.lit (.bool false)], args := [d1, d2, d3] }
  | _ => none }
def StripeBackWrongFalsely : Prop := stripeBackRow.holds Try.pinned (OpenSpec.ofChange stripeBackWrong)

/-- 'strongboxlaw11.StripeFirst': WHATEVER THE INPUT: true; the input reads as it did. -/
def stripeFirstSpec : ChangeSpec := { name := "stripeFirst", fn := fun _ => fun
  | [d1, d2, d3] => { results := [.lit (.bool true)], args := [d1, d2, d3] }
  | _ => none }
def stripeFirstRow : OpenClaim := { program := "ytflockpdojjgeaa", sum := "db1c498b33190eda389f294b7e175540b025e6a87ca018ec3d386ecd8bf91e7f", func := "strongbox/strongboxlaw11.StripeFirst", spec := "stripeFirst", apart := false }
def StripeFirstSaid : Prop := stripeFirstRow.holds Try.pinned (OpenSpec.ofChange stripeFirstSpec)

/-- ITS FALSE NEIGHBOUR: 'it returns false'. Refute it at one input. -/
def stripeFirstWrong : ChangeSpec := { name := "stripeFirst", fn := fun _ => fun
  | [d1, d2, d3] => { results := [.lit (.bool false)], args := [d1, d2, d3] }
  | _ => none }
def StripeFirstWrongFalsely : Prop := stripeFirstRow.holds Try.pinned (OpenSpec.ofChange stripeFirstWrong)

/-- 'strongboxlaw11.StripeNoughts': WHATEVER THE INPUT: true; the input reads as it did. -/
def stripeNoughtsSpec : ChangeSpec := { name := "stripeNoughts", fn := fun _ => fun
  | [d1, d2, d3] => { results := [.lit (.bool true)], args := [d1, d2, d3] }
  | _ => none }
def stripeNoughtsRow : OpenClaim := { program := "ytflockpdojjgeaa", sum := "db1c498b33190eda389f294b7e175540b025e6a87ca018ec3d386ecd8bf91e7f", func := "strongbox/strongboxlaw11.StripeNoughts", spec := "stripeNoughts", apart := false }
def StripeNoughtsSaid : Prop := stripeNoughtsRow.holds Try.pinned (OpenSpec.ofChange stripeNoughtsSpec)

/-- ITS FALSE NEIGHBOUR: 'it returns false'. Refute it at one input. -/
def stripeNoughtsWrong : ChangeSpec := { name := "stripeNoughts", fn := fun _ => fun
  | [d1, d2, d3] => { results := [.lit (.bool false)], args := [d1, d2, d3] }
  | _ => none }
def StripeNoughtsWrongFalsely : Prop := stripeNoughtsRow.holds Try.pinned (OpenSpec.ofChange stripeNoughtsWrong)

/-- 'strongboxlaw11.StripeLengths': WHATEVER THE INPUT: true; the input reads as it did. -/
def stripeLengthsSpec : ChangeSpec := { name := "stripeLengths", fn := fun _ => fun
  | [d1, d2, d3] => { results := [.lit (.bool true)], args := [d1, d2, d3] }
  | _ => none }
def stripeLengthsRow : OpenClaim := { program := "ytflockpdojjgeaa", sum := "db1c498b33190eda389f294b7e175540b025e6a87ca018ec3d386ecd8bf91e7f", func := "strongbox/strongboxlaw11.StripeLengths", spec := "stripeLengths", apart := false }
def StripeLengthsSaid : Prop := stripeLengthsRow.holds Try.pinned (OpenSpec.ofChange stripeLengthsSpec)

/-- ITS FALSE NEIGHBOUR: 'it returns false'. Refute it at one input. -/
def stripeLengthsWrong : ChangeSpec := { name := "stripeLengths", fn := fun _ => fun
  | [d1, d2, d3] => { results := [.lit (.bool false)], args := [d1, d2, d3] }
  | _ => none }
def StripeLengthsWrongFalsely : Prop := stripeLengthsRow.holds Try.pinned (OpenSpec.ofChange stripeLengthsWrong)

/-- 'strongboxlaw1.GfKnown': WHATEVER THE INPUT: true; the input reads as it did. -/
def gfKnownSpec : ChangeSpec := { name := "gfKnown", fn := fun _ => fun
  | [] => { results := [.lit (.bool true)], args := [] }
  | _ => none }
def gfKnownRow : OpenClaim := { program := "ytflockpdojjgeaa", sum := "db1c498b33190eda389f294b7e175540b025e6a87ca018ec3d386ecd8bf91e7f", func := "strongbox/strongboxlaw1.GfKnown", spec := "gfKnown", apart := false }
def GfKnownSaid : Prop := gfKnownRow.holds Try.pinned (OpenSpec.ofChange gfKnownSpec)

/-- ITS FALSE NEIGHBOUR: 'it returns false'. Refute it at one input. -/
def gfKnownWrong : ChangeSpec := { name := "gfKnown", fn := fun _ => fun
  | [] => { results := [.lit (.bool false)], args := [] }
  | _ => none }
def GfKnownWrongFalsely : Prop := gfKnownRow.holds Try.pinned (OpenSpec.ofChange gfKnownWrong)

/-- 'strongboxlaw1.GfRows': WHATEVER THE INPUT: true; the input reads as it did. -/
def gfRowsSpec : ChangeSpec := { name := "gfRows", fn := fun _ => fun
  | [d1, d2, d3] => { results := [.lit (.bool true)], args := [d1, d2, d3] }
  | _ => none }
def gfRowsRow : OpenClaim := { program := "ytflockpdojjgeaa", sum := "db1c498b33190eda389f294b7e175540b025e6a87ca018ec3d386ecd8bf91e7f", func := "strongbox/strongboxlaw1.GfRows", spec := "gfRows", apart := false }
def GfRowsSaid : Prop := gfRowsRow.holds Try.pinned (OpenSpec.ofChange gfRowsSpec)

/-- ITS FALSE NEIGHBOUR: 'it returns false'. Refute it at one input. -/
def gfRowsWrong : ChangeSpec := { name := "gfRows", fn := fun _ => fun
  | [d1, d2, d3] => { results := [.lit (.bool false)], args := [d1, d2, d3] }
  | _ => none }
def GfRowsWrongFalsely : Prop := gfRowsRow.holds Try.pinned (OpenSpec.ofChange gfRowsWrong)

/-- 'strongboxlaw1.GfLinear': WHATEVER THE INPUT: true; the input reads as it did. -/
def gfLinearSpec : ChangeSpec := { name := "gfLinear", fn := fun _ => fun
  | [d1, d2, d3] => { results := [.lit (.bool true)], args := [d1, d2, d3] }
  | _ => none }
def gfLinearRow : OpenClaim := { program := "ytflockpdojjgeaa", sum := "db1c498b33190eda389f294b7e175540b025e6a87ca018ec3d386ecd8bf91e7f", func := "strongbox/strongboxlaw1.GfLinear", spec := "gfLinear", apart := false }
def GfLinearSaid : Prop := gfLinearRow.holds Try.pinned (OpenSpec.ofChange gfLinearSpec)

/-- ITS FALSE NEIGHBOUR: 'it returns false'. Refute it at one input. -/
def gfLinearWrong : ChangeSpec := { name := "gfLinear", fn := fun _ => fun
  | [d1, d2, d3] => { results := [.lit (.bool false)], args := [d1, d2, d3] }
  | _ => none }
def GfLinearWrongFalsely : Prop := gfLinearRow.holds Try.pinned (OpenSpec.ofChange gfLinearWrong)

/-- 'strongboxlaw1.GfTables': WHATEVER THE INPUT: true; the input reads as it did. -/
def gfTablesSpec : ChangeSpec := { name := "gfTables", fn := fun _ => fun
  | [d] => { results := [.lit (.bool true)], args := [d] }
  | _ => none }
def gfTablesRow : OpenClaim := { program := "ytflockpdojjgeaa", sum := "db1c498b33190eda389f294b7e175540b025e6a87ca018ec3d386ecd8bf91e7f", func := "strongbox/strongboxlaw1.GfTables", spec := "gfTables", apart := false }
def GfTablesSaid : Prop := gfTablesRow.holds Try.pinned (OpenSpec.ofChange gfTablesSpec)

/-- ITS FALSE NEIGHBOUR: 'it returns false'. Refute it at one input. -/
def gfTablesWrong : ChangeSpec := { name := "gfTables", fn := fun _ => fun
  | [d] => { results := [.lit (.bool false)], args := [d] }
  | _ => none }
def GfTablesWrongFalsely : Prop := gfTablesRow.holds Try.pinned (OpenSpec.ofChange gfTablesWrong)

/-- 'strongboxlaw1.GfReckons': WHATEVER THE INPUT: true; the input reads as it did. -/
def gfReckonsSpec : ChangeSpec := { name := "gfReckons", fn := fun _ => fun
  | [d1, d2, d3] => { results := [.lit (.bool true)], args := [d1, d2, d3] }
  | _ => none }
def gfReckonsRow : OpenClaim := { program := "ytflockpdojjgeaa", sum := "db1c498b33190eda389f294b7e175540b025e6a87ca018ec3d386ecd8bf91e7f", func := "strongbox/strongboxlaw1.GfReckons", spec := "gfReckons", apart := false }
def GfReckonsSaid : Prop := gfReckonsRow.holds Try.pinned (OpenSpec.ofChange gfReckonsSpec)

/-- ITS FALSE NEIGHBOUR: 'it returns false'. Refute it at one input. -/
def gfReckonsWrong : ChangeSpec := { name := "gfReckons", fn := fun _ => fun
  | [d1, d2, d3] => { results := [.lit (.bool false)], args := [d1, d2, d3] }
  | _ => none }
def GfReckonsWrongFalsely : Prop := gfReckonsRow.holds Try.pinned (OpenSpec.ofChange gfReckonsWrong)

/-- 'strongboxlaw1.GfRules': WHATEVER THE INPUT: true; the input reads as it did. -/
def gfRulesSpec : ChangeSpec := { name := "gfRules", fn := fun _ => fun
  | [d1, d2, d3] => { results := [.lit (.bool true)], args := [d1, d2, d3] }
  | _ => none }
def gfRulesRow : OpenClaim := { program := "ytflockpdojjgeaa", sum := "db1c498b33190eda389f294b7e175540b025e6a87ca018ec3d386ecd8bf91e7f", func := "strongbox/strongboxlaw1.GfRules", spec := "gfRules", apart := false }
def GfRulesSaid : Prop := gfRulesRow.holds Try.pinned (OpenSpec.ofChange gfRulesSpec)

/-- ITS FALSE NEIGHBOUR: 'it returns false'. Refute it at one input. -/
def gfRulesWrong : ChangeSpec := { name := "gfRules", fn := fun _ => fun
  | [d1, d2, d3] => { results := [.lit (.bool false)], args := [d1, d2, d3] }
  | _ => none }
def GfRulesWrongFalsely : Prop := gfRulesRow.holds Try.pinned (OpenSpec.ofChange gfRulesWrong)

/- THE SECOND FORM. 'bulk': how many values and letters a reading holds, each counted each time it is reached (what is shared counts as often as it is met; a slice's spare places count too). A statement '..UptoSaid' is the law's where the arguments, and the package variables that the reading takes, are together of bulk at most 1048576: NARROWER than '..Said'. Prove '..Said' where nothing that the law and all that it calls make is longer than what came in: it says more and counts as full. Else prove '..UptoSaid'. A law counts once. -/
mutual
def uptoBulk {H : Type} : DataW H → Nat
  | .lit (.string bytes) => bytes.length + 1
  | .lit _ => 1
  | .nil => 1
  | .ptr d => uptoBulk d + 1
  | .slice elems spare => uptoBulkAll elems + uptoBulkAll spare + 1
  | .agg parts => uptoBulkAll parts + 1
  | .iface _ d => uptoBulk d + 1
  | .map entries => uptoBulkEntries entries + 1
  | .held _ => 1
def uptoBulkAll {H : Type} : List (DataW H) → Nat
  | [] => 0
  | d :: r => uptoBulk d + uptoBulkAll r
def uptoBulkEntries {H : Type} : List (Lit × DataW H) → Nat
  | [] => 0
  | x :: r => uptoBulkEntry x + uptoBulkEntries r
def uptoBulkEntry {H : Type} : Lit × DataW H → Nat
  | (.string bytes, d) => bytes.length + uptoBulk d + 1
  | (_, d) => uptoBulk d + 1
 end
def uptoSmall : (H : Type) → List (DataW H) → Bool := fun _ ds => decide (uptoBulkAll ds ≤ 1048576)
def OpenSpec.upto (s : _root_.Go.ChangeSpec) : _root_.Go.OpenSpec := { _root_.Go.OpenSpec.ofChange s with cond := some uptoSmall }

/-- 'strongboxlaw11.StripeCuts', WHERE WHAT IT READS IS OF BULK AT MOST 1048576: true; the input reads as it did. -/
def stripeCutsUptoRow : OpenClaim := { program := "ytflockpdojjgeaa", sum := "db1c498b33190eda389f294b7e175540b025e6a87ca018ec3d386ecd8bf91e7f", func := "strongbox/strongboxlaw11.StripeCuts", spec := "stripeCuts", apart := false, narrowed := true }
def StripeCutsUptoSaid : Prop := stripeCutsUptoRow.holds Try.pinned (OpenSpec.upto stripeCutsSpec)

/-- 'strongboxlaw11.StripeBack', WHERE WHAT IT READS IS OF BULK AT MOST 1048576: true; the input reads as it did. -/
def stripeBackUptoRow : OpenClaim := { program := "ytflockpdojjgeaa", sum := "db1c498b33190eda389f294b7e175540b025e6a87ca018ec3d386ecd8bf91e7f", func := "strongbox/strongboxlaw11.StripeBack", spec := "stripeBack", apart := false, narrowed := true }
def StripeBackUptoSaid : Prop := stripeBackUptoRow.holds Try.pinned (OpenSpec.upto stripeBackSpec)

/-- 'strongboxlaw11.StripeFirst', WHERE WHAT IT READS IS OF BULK AT MOST 1048576: true; the input reads as it did. -/
def stripeFirstUptoRow : OpenClaim := { program := "ytflockpdojjgeaa", sum := "db1c498b33190eda389f294b7e175540b025e6a87ca018ec3d386ecd8bf91e7f", func := "strongbox/strongboxlaw11.StripeFirst", spec := "stripeFirst", apart := false, narrowed := true }
def StripeFirstUptoSaid : Prop := stripeFirstUptoRow.holds Try.pinned (OpenSpec.upto stripeFirstSpec)

/-- 'strongboxlaw11.StripeNoughts', WHERE WHAT IT READS IS OF BULK AT MOST 1048576: true; the input reads as it did. -/
def stripeNoughtsUptoRow : OpenClaim := { program := "ytflockpdojjgeaa", sum := "db1c498b33190eda389f294b7e175540b025e6a87ca018ec3d386ecd8bf91e7f", func := "strongbox/strongboxlaw11.StripeNoughts", spec := "stripeNoughts", apart := false, narrowed := true }
def StripeNoughtsUptoSaid : Prop := stripeNoughtsUptoRow.holds Try.pinned (OpenSpec.upto stripeNoughtsSpec)

/-- 'strongboxlaw11.StripeLengths', WHERE WHAT IT READS IS OF BULK AT MOST 1048576: true; the input reads as it did. -/
def stripeLengthsUptoRow : OpenClaim := { program := "ytflockpdojjgeaa", sum := "db1c498b33190eda389f294b7e175540b025e6a87ca018ec3d386ecd8bf91e7f", func := "strongbox/strongboxlaw11.StripeLengths", spec := "stripeLengths", apart := false, narrowed := true }
def StripeLengthsUptoSaid : Prop := stripeLengthsUptoRow.holds Try.pinned (OpenSpec.upto stripeLengthsSpec)

/-- 'strongboxlaw1.GfKnown', WHERE WHAT IT READS IS OF BULK AT MOST 1048576: true; the input reads as it did. -/
def gfKnownUptoRow : OpenClaim := { program := "ytflockpdojjgeaa", sum := "db1c498b33190eda389f294b7e175540b025e6a87ca018ec3d386ecd8bf91e7f", func := "strongbox/strongboxlaw1.GfKnown", spec := "gfKnown", apart := false, narrowed := true }
def GfKnownUptoSaid : Prop := gfKnownUptoRow.holds Try.pinned (OpenSpec.upto gfKnownSpec)

/-- 'strongboxlaw1.GfRows', WHERE WHAT IT READS IS OF BULK AT MOST 1048576: true; the input reads as it did. -/
def gfRowsUptoRow : OpenClaim := { program := "ytflockpdojjgeaa", sum := "db1c498b33190eda389f294b7e175540b025e6a87ca018ec3d386ecd8bf91e7f", func := "strongbox/strongboxlaw1.GfRows", spec := "gfRows", apart := false, narrowed := true }
def GfRowsUptoSaid : Prop := gfRowsUptoRow.holds Try.pinned (OpenSpec.upto gfRowsSpec)

/-- 'strongboxlaw1.GfLinear', WHERE WHAT IT READS IS OF BULK AT MOST 1048576: true; the input reads as it did. -/
def gfLinearUptoRow : OpenClaim := { program := "ytflockpdojjgeaa", sum := "db1c498b33190eda389f294b7e175540b025e6a87ca018ec3d386ecd8bf91e7f", func := "strongbox/strongboxlaw1.GfLinear", spec := "gfLinear", apart := false, narrowed := true }
def GfLinearUptoSaid : Prop := gfLinearUptoRow.holds Try.pinned (OpenSpec.upto gfLinearSpec)

/-- 'strongboxlaw1.GfTables', WHERE WHAT IT READS IS OF BULK AT MOST 1048576: true; the input reads as it did. -/
def gfTablesUptoRow : OpenClaim := { program := "ytflockpdojjgeaa", sum := "db1c498b33190eda389f294b7e175540b025e6a87ca018ec3d386ecd8bf91e7f", func := "strongbox/strongboxlaw1.GfTables", spec := "gfTables", apart := false, narrowed := true }
def GfTablesUptoSaid : Prop := gfTablesUptoRow.holds Try.pinned (OpenSpec.upto gfTablesSpec)

/-- 'strongboxlaw1.GfReckons', WHERE WHAT IT READS IS OF BULK AT MOST 1048576: true; the input reads as it did. -/
def gfReckonsUptoRow : OpenClaim := { program := "ytflockpdojjgeaa", sum := "db1c498b33190eda389f294b7e175540b025e6a87ca018ec3d386ecd8bf91e7f", func := "strongbox/strongboxlaw1.GfReckons", spec := "gfReckons", apart := false, narrowed := true }
def GfReckonsUptoSaid : Prop := gfReckonsUptoRow.holds Try.pinned (OpenSpec.upto gfReckonsSpec)

/-- 'strongboxlaw1.GfRules', WHERE WHAT IT READS IS OF BULK AT MOST 1048576: true; the input reads as it did. -/
def gfRulesUptoRow : OpenClaim := { program := "ytflockpdojjgeaa", sum := "db1c498b33190eda389f294b7e175540b025e6a87ca018ec3d386ecd8bf91e7f", func := "strongbox/strongboxlaw1.GfRules", spec := "gfRules", apart := false, narrowed := true }
def GfRulesUptoSaid : Prop := gfRulesUptoRow.holds Try.pinned (OpenSpec.upto gfRulesSpec)

end Rows
end Go.Proofs.Ytflockpdojjgeaa
