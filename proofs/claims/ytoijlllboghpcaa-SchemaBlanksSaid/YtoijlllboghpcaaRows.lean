/-
  No cell of these rows narrows 'for every input' (looked for: loops, veiled, ifaces, maps, wideKeys, modest, calm, conditions, laid).
  DERIVED. THE GIVEN ROWS OF THIS SEAT. 3 by the template 'for every input the law returns true; each argument reads behind the call as it read before'; 0 by the template 'total and deterministic' (their statements: YtoijlllboghpcaaTotals.lean).
  GIVEN WITH THE SEED: the statements are not yours to turn. If you find one false, say at which input.
  Laid BY PROGRAM, IN A SANDBOX (cutbox-rows.mjs): the forced cells as the released guide's own fill.sh prints them over the translation 5c34279d1e386dd0… (all of the seat's roots in one cut). By AI agents, Wed Nov 11 2026. No macro, syntax, notation, axiom, sorry.
-/
import Derived.Test.YtoijlllboghpcaaChecked
import GoSem.Claim
import GoSem.ClaimJoined
import GoSem.ClaimMapViews
import Derived.JoinedTies
import Derived.KernelRfl
namespace Go.Proofs.Ytoijlllboghpcaa
/- THE CELL 'sum', in the pinned program and in every row, IS THE sha256 OF THE DUMP (.gsa) THAT YtoijlllboghpcaaProg.lean LOADS. Nothing in Lean hashes anything: it is a label: what it is worth is what the hold of that sum in a sandbox is worth. -/
noncomputable def Try.pinned : Pinned := { name := "ytoijlllboghpcaa", sum := "5c34279d1e386dd0de930b7ff2eb2afab6ef7397fc81e968116724ccd7969424", checked := Try.checked }
namespace Rows
def none {H : Type} : Left H := { results := [], args := [] }

/-- 'outpostlaw18.SchemaBlanks': WHATEVER THE INPUT: true; the input reads as it did. -/
def schemaBlanksSpec : ChangeSpec := { name := "schemaBlanks", fn := fun _ => fun
  | [d] => { results := [.lit (.bool true)], args := [d] }
  | _ => none }
def schemaBlanksRow : OpenClaim := { program := "ytoijlllboghpcaa", sum := "5c34279d1e386dd0de930b7ff2eb2afab6ef7397fc81e968116724ccd7969424", func := "outpost/outpostlaw18.SchemaBlanks", spec := "schemaBlanks", inPlace := ["internal/abi.NoEscape", "internal/bytealg.MakeNoZero"], unfollowed := true, recurses := true, apart := false }
def SchemaBlanksSaid : Prop := schemaBlanksRow.holds Try.pinned (OpenSpec.ofChange schemaBlanksSpec)

/-- ITS FALSE NEIGHBOUR: 'it returns false'. Refute it at one input. -/
def schemaBlanksWrong : ChangeSpec := { name := "schemaBlanks", fn := fun _ => fun
  | [d] => { results := [.lit (.bool false)], args := [d] }
  | _ => none }
def SchemaBlanksWrongFalsely : Prop := schemaBlanksRow.holds Try.pinned (OpenSpec.ofChange schemaBlanksWrong)

/-- 'outpostlaw18.SchemaKeeps': WHATEVER THE INPUT: true; the input reads as it did. -/
def schemaKeepsSpec : ChangeSpec := { name := "schemaKeeps", fn := fun _ => fun
  | [d1, d2] => { results := [.lit (.bool true)], args := [d1, d2] }
  | _ => none }
def schemaKeepsRow : OpenClaim := { program := "ytoijlllboghpcaa", sum := "5c34279d1e386dd0de930b7ff2eb2afab6ef7397fc81e968116724ccd7969424", func := "outpost/outpostlaw18.SchemaKeeps", spec := "schemaKeeps", inPlace := ["internal/abi.NoEscape", "internal/bytealg.MakeNoZero"], unfollowed := true, recurses := true, apart := false }
def SchemaKeepsSaid : Prop := schemaKeepsRow.holds Try.pinned (OpenSpec.ofChange schemaKeepsSpec)

/-- ITS FALSE NEIGHBOUR: 'it returns false'. Refute it at one input. -/
def schemaKeepsWrong : ChangeSpec := { name := "schemaKeeps", fn := fun _ => fun
  | [d1, d2] => { results := [.lit (.bool false)], args := [d1, d2] }
  | _ => none }
def SchemaKeepsWrongFalsely : Prop := schemaKeepsRow.holds Try.pinned (OpenSpec.ofChange schemaKeepsWrong)

/-- 'outpostlaw18.SchemaRules': WHATEVER THE INPUT: true; the input reads as it did. -/
def schemaRulesSpec : ChangeSpec := { name := "schemaRules", fn := fun _ => fun
  | [d1, d2] => { results := [.lit (.bool true)], args := [d1, d2] }
  | _ => none }
def schemaRulesRow : OpenClaim := { program := "ytoijlllboghpcaa", sum := "5c34279d1e386dd0de930b7ff2eb2afab6ef7397fc81e968116724ccd7969424", func := "outpost/outpostlaw18.SchemaRules", spec := "schemaRules", inPlace := ["internal/abi.NoEscape", "internal/bytealg.MakeNoZero"], unfollowed := true, recurses := true, apart := false }
def SchemaRulesSaid : Prop := schemaRulesRow.holds Try.pinned (OpenSpec.ofChange schemaRulesSpec)

/-- ITS FALSE NEIGHBOUR: 'it returns false'. Refute it at one input. -/
def schemaRulesWrong : ChangeSpec := { name := "schemaRules", fn := fun _ => fun
  | [d1, d2] => { results := [.lit (.bool false)], args := [d1, d2] }
  | _ => none }
def SchemaRulesWrongFalsely : Prop := schemaRulesRow.holds Try.pinned (OpenSpec.ofChange schemaRulesWrong)

/- THE SECOND FORM. 'bulk': how many values and letters a reading holds, each counted each time it is reached (what is shared counts as often as it is met; a slice's spare places count too). A statement '..UptoSaid' is the law's where the arguments, and the package variables that the reading takes, are together of bulk at most 1048576: NARROWER than '..Said'. Prove '..Said' where nothing that the law and all that it calls make is longer than what came in: it says more and counts as full. Else prove '..UptoSaid'. A law counts once. -/
mutual
def uptoBulk {H : Type} : DataW H → Nat
  | .lit (.string bytes) => bytes.length + 1
  | .lit _ => 1
  | .nil => 1
  | .ptr d => uptoBulk d + 1
  | .slice elems spare => uptoBulkAll elems + uptoBulkAll spare + 1
  | .agg parts => uptoBulkAll parts + 1
  | .iface _ d => uptoBulk d + 1
  | .map entries => uptoBulkEntries entries + 1
  | .held _ => 1
def uptoBulkAll {H : Type} : List (DataW H) → Nat
  | [] => 0
  | d :: r => uptoBulk d + uptoBulkAll r
def uptoBulkEntries {H : Type} : List (Lit × DataW H) → Nat
  | [] => 0
  | x :: r => uptoBulkEntry x + uptoBulkEntries r
def uptoBulkEntry {H : Type} : Lit × DataW H → Nat
  | (.string bytes, d) => bytes.length + uptoBulk d + 1
  | (_, d) => uptoBulk d + 1
 end
def uptoSmall : (H : Type) → List (DataW H) → Bool := fun _ ds => decide (uptoBulkAll ds ≤ 1048576)
def OpenSpec.upto (s : _root_.Go.ChangeSpec) : _root_.Go.OpenSpec := { _root_.Go.OpenSpec.ofChange s with cond := some uptoSmall }

/-- 'outpostlaw18.SchemaBlanks', WHERE WHAT IT READS IS OF BULK AT MOST 1048576: true; the input reads as it did. -/
def schemaBlanksUptoRow : OpenClaim := { program := "ytoijlllboghpcaa", sum := "5c34279d1e386dd0de930b7ff2eb2afab6ef7397fc81e968116724ccd7969424", func := "outpost/outpostlaw18.SchemaBlanks", spec := "schemaBlanks", inPlace := ["internal/abi.NoEscape", "internal/bytealg.MakeNoZero"], unfollowed := true, recurses := true, apart := false, narrowed := true }
def SchemaBlanksUptoSaid : Prop := schemaBlanksUptoRow.holds Try.pinned (OpenSpec.upto schemaBlanksSpec)

/-- 'outpostlaw18.SchemaKeeps', WHERE WHAT IT READS IS OF BULK AT MOST 1048576: true; the input reads as it did. -/
def schemaKeepsUptoRow : OpenClaim := { program := "ytoijlllboghpcaa", sum := "5c34279d1e386dd0de930b7ff2eb2afab6ef7397fc81e968116724ccd7969424", func := "outpost/outpostlaw18.SchemaKeeps", spec := "schemaKeeps", inPlace := ["internal/abi.NoEscape", "internal/bytealg.MakeNoZero"], unfollowed := true, recurses := true, apart := false, narrowed := true }
def SchemaKeepsUptoSaid : Prop := schemaKeepsUptoRow.holds Try.pinned (OpenSpec.upto schemaKeepsSpec)

/-- 'outpostlaw18.SchemaRules', WHERE WHAT IT READS IS OF BULK AT MOST 1048576: true; the input reads as it did. -/
def schemaRulesUptoRow : OpenClaim := { program := "ytoijlllboghpcaa", sum := "5c34279d1e386dd0de930b7ff2eb2afab6ef7397fc81e968116724ccd7969424", func := "outpost/outpostlaw18.SchemaRules", spec := "schemaRules", inPlace := ["internal/abi.NoEscape", "internal/bytealg.MakeNoZero"], unfollowed := true, recurses := true, apart := false, narrowed := true }
def SchemaRulesUptoSaid : Prop := schemaRulesUptoRow.holds Try.pinned (OpenSpec.upto schemaRulesSpec)

end Rows
end Go.Proofs.Ytoijlllboghpcaa
