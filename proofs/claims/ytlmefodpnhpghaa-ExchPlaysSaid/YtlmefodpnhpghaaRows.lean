/-
  No cell of these rows narrows 'for every input' (looked for: loops, veiled, ifaces, maps, wideKeys, modest, calm, conditions, laid).
  DERIVED. THE GIVEN ROWS OF THIS SEAT. 4 by the template 'for every input the law returns true; each argument reads behind the call as it read before'; 0 by the template 'total and deterministic' (their statements: YtlmefodpnhpghaaTotals.lean).
  GIVEN WITH THE SEED: the statements are not yours to turn. If you find one false, say at which input.
  Laid BY PROGRAM, IN A SANDBOX (cutbox-rows.mjs): the forced cells as the released guide's own fill.sh prints them over the translation 1b54395867b60b10… (all of the seat's roots in one cut). By AI agents, Wed Nov 11 2026. No macro, syntax, notation, axiom, sorry.
-/
import Derived.Test.YtlmefodpnhpghaaChecked
import GoSem.Claim
import GoSem.ClaimJoined
import GoSem.ClaimMapViews
import Derived.JoinedTies
import Derived.KernelRfl
namespace Go.Proofs.Ytlmefodpnhpghaa
/- THE CELL 'sum', in the pinned program and in every row, IS THE sha256 OF THE DUMP (.gsa) THAT YtlmefodpnhpghaaProg.lean LOADS. Nothing in Lean hashes anything: it is a label: what it is worth is what the hold of that sum in a sandbox is worth. -/
noncomputable def Try.pinned : Pinned := { name := "ytlmefodpnhpghaa", sum := "1b54395867b60b10ddf0abac05786151a51a298bf3f2262801563f0c016c973e", checked := Try.checked }
namespace Rows
def none {H : Type} : Left H := { results := [], args := [] }

/-- 'outpostlaw12.ExchTimes': WHATEVER THE INPUT: true; the input reads as it did. -/
def exchTimesSpec : ChangeSpec := { name := "exchTimes", fn := fun _ => fun
  | [d1, d2, d3, d4, d5] => { results := [.lit (.bool true)], args := [d1, d2, d3, d4, d5] }
  | _ => none }
def exchTimesRow : OpenClaim := { program := "ytlmefodpnhpghaa", sum := "1b54395867b60b10ddf0abac05786151a51a298bf3f2262801563f0c016c973e", func := "outpost/outpostlaw12.ExchTimes", spec := "exchTimes", unfollowed := true, recurses := true, apart := false }
def ExchTimesSaid : Prop := exchTimesRow.holds Try.pinned (OpenSpec.ofChange exchTimesSpec)

/-- ITS FALSE NEIGHBOUR: 'it returns false'. Refute it at one input. -/
def exchTimesWrong : ChangeSpec := { name := "exchTimes", fn := fun _ => fun
  | [d1, d2, d3, d4, d5] => { results := [.lit (.bool false)], args := [d1, d2, d3, d4, d5] }
  | _ => none }
def ExchTimesWrongFalsely : Prop := exchTimesRow.holds Try.pinned (OpenSpec.ofChange exchTimesWrong)

/-- 'outpostlaw12.ExchSteps': WHATEVER THE INPUT: true; the input reads as it did. -/
def exchStepsSpec : ChangeSpec := { name := "exchSteps", fn := fun _ => fun
  | [d1, d2] => { results := [.lit (.bool true)], args := [d1, d2] }
  | _ => none }
def exchStepsRow : OpenClaim := { program := "ytlmefodpnhpghaa", sum := "1b54395867b60b10ddf0abac05786151a51a298bf3f2262801563f0c016c973e", func := "outpost/outpostlaw12.ExchSteps", spec := "exchSteps", unfollowed := true, recurses := true, apart := false }
def ExchStepsSaid : Prop := exchStepsRow.holds Try.pinned (OpenSpec.ofChange exchStepsSpec)

/-- ITS FALSE NEIGHBOUR: 'it returns false'. Refute it at one input. -/
def exchStepsWrong : ChangeSpec := { name := "exchSteps", fn := fun _ => fun
  | [d1, d2] => { results := [.lit (.bool false)], args := [d1, d2] }
  | _ => none }
def ExchStepsWrongFalsely : Prop := exchStepsRow.holds Try.pinned (OpenSpec.ofChange exchStepsWrong)

/-- 'outpostlaw12.ExchNext': WHATEVER THE INPUT: true; the input reads as it did. -/
def exchNextSpec : ChangeSpec := { name := "exchNext", fn := fun _ => fun
  | [d] => { results := [.lit (.bool true)], args := [d] }
  | _ => none }
def exchNextRow : OpenClaim := { program := "ytlmefodpnhpghaa", sum := "1b54395867b60b10ddf0abac05786151a51a298bf3f2262801563f0c016c973e", func := "outpost/outpostlaw12.ExchNext", spec := "exchNext", unfollowed := true, recurses := true, apart := false }
def ExchNextSaid : Prop := exchNextRow.holds Try.pinned (OpenSpec.ofChange exchNextSpec)

/-- ITS FALSE NEIGHBOUR: 'it returns false'. Refute it at one input. -/
def exchNextWrong : ChangeSpec := { name := "exchNext", fn := fun _ => fun
  | [d] => { results := [.lit (.bool false)], args := [d] }
  | _ => none }
def ExchNextWrongFalsely : Prop := exchNextRow.holds Try.pinned (OpenSpec.ofChange exchNextWrong)

/-- 'outpostlaw12.ExchPlays': WHATEVER THE INPUT: true; the input reads as it did. -/
def exchPlaysSpec : ChangeSpec := { name := "exchPlays", fn := fun _ => fun
  | [d] => { results := [.lit (.bool true)], args := [d] }
  | _ => none }
def exchPlaysRow : OpenClaim := { program := "ytlmefodpnhpghaa", sum := "1b54395867b60b10ddf0abac05786151a51a298bf3f2262801563f0c016c973e", func := "outpost/outpostlaw12.ExchPlays", spec := "exchPlays", unfollowed := true, recurses := true, apart := false }
def ExchPlaysSaid : Prop := exchPlaysRow.holds Try.pinned (OpenSpec.ofChange exchPlaysSpec)

/-- ITS FALSE NEIGHBOUR: 'it returns false'. Refute it at one input. -/
def exchPlaysWrong : ChangeSpec := { name := "exchPlays", fn := fun _ => fun
  | [d] => { results := [.lit (.bool false)], args := [d] }
  | _ => none }
def ExchPlaysWrongFalsely : Prop := exchPlaysRow.holds Try.pinned (OpenSpec.ofChange exchPlaysWrong)

/- THE SECOND FORM. 'bulk': how many values and letters a reading holds, each counted each time it is reached (what is shared counts as often as it is met; a slice's spare places count too). A statement '..UptoSaid' is the law's where the arguments, and the package variables that the reading takes, are together of bulk at most 1048576: NARROWER than '..Said'. Prove '..Said' where nothing that the law and all that it calls make is longer than what came in: it says more and counts as full. Else prove '..UptoSaid'. A law counts once. -/
mutual
def uptoBulk {H : Type} : DataW H → Nat
  | .lit (.string bytes) => bytes.length + 1
  | .lit _ => 1
  | .nil => 1
  | .ptr d => uptoBulk d + 1
  | .slice elems spare => uptoBulkAll elems + uptoBulkAll spare + 1
  | .agg parts => uptoBulkAll parts + 1
  | .iface _ d => uptoBulk d + 1
  | .map entries => uptoBulkEntries entries + 1
  | .held _ => 1
def uptoBulkAll {H : Type} : List (DataW H) → Nat
  | [] => 0
  | d :: r => uptoBulk d + uptoBulkAll r
def uptoBulkEntries {H : Type} : List (Lit × DataW H) → Nat
  | [] => 0
  | x :: r => uptoBulkEntry x + uptoBulkEntries r
def uptoBulkEntry {H : Type} : Lit × DataW H → Nat
  | (.string bytes, d) => bytes.length + uptoBulk d + 1
  | (_, d) => uptoBulk d + 1
 end
def uptoSmall : (H : Type) → List (DataW H) → Bool := fun _ ds => decide (uptoBulkAll ds ≤ 1048576)
def OpenSpec.upto (s : _root_.Go.ChangeSpec) : _root_.Go.OpenSpec := { _root_.Go.OpenSpec.ofChange s with cond := some uptoSmall }

/-- 'outpostlaw12.ExchTimes', WHERE WHAT IT READS IS OF BULK AT MOST 1048576: true; the input reads as it did. -/
def exchTimesUptoRow : OpenClaim := { program := "ytlmefodpnhpghaa", sum := "1b54395867b60b10ddf0abac05786151a51a298bf3f2262801563f0c016c973e", func := "outpost/outpostlaw12.ExchTimes", spec := "exchTimes", unfollowed := true, recurses := true, apart := false, narrowed := true }
def ExchTimesUptoSaid : Prop := exchTimesUptoRow.holds Try.pinned (OpenSpec.upto exchTimesSpec)

/-- 'outpostlaw12.ExchSteps', WHERE WHAT IT READS IS OF BULK AT MOST 1048576: true; the input reads as it did. -/
def exchStepsUptoRow : OpenClaim := { program := "ytlmefodpnhpghaa", sum := "1b54395867b60b10ddf0abac05786151a51a298bf3f2262801563f0c016c973e", func := "outpost/outpostlaw12.ExchSteps", spec := "exchSteps", unfollowed := true, recurses := true, apart := false, narrowed := true }
def ExchStepsUptoSaid : Prop := exchStepsUptoRow.holds Try.pinned (OpenSpec.upto exchStepsSpec)

/-- 'outpostlaw12.ExchNext', WHERE WHAT IT READS IS OF BULK AT MOST 1048576: true; the input reads as it did. -/
def exchNextUptoRow : OpenClaim := { program := "ytlmefodpnhpghaa", sum := "1b54395867b60b10ddf0abac05786151a51a298bf3f2262801563f0c016c973e", func := "outpost/outpostlaw12.ExchNext", spec := "exchNext", unfollowed := true, recurses := true, apart := false, narrowed := true }
def ExchNextUptoSaid : Prop := exchNextUptoRow.holds Try.pinned (OpenSpec.upto exchNextSpec)

/-- 'outpostlaw12.ExchPlays', WHERE WHAT IT READS IS OF BULK AT MOST 1048576: true; the input reads as it did. -/
def exchPlaysUptoRow : OpenClaim := { program := "ytlmefodpnhpghaa", sum := "1b54395867b60b10ddf0abac05786151a51a298bf3f2262801563f0c016c973e", func := "outpost/outpostlaw12.ExchPlays", spec := "exchPlays", unfollowed := true, recurses := true, apart := false, narrowed := true }
def ExchPlaysUptoSaid : Prop := exchPlaysUptoRow.holds Try.pinned (OpenSpec.upto exchPlaysSpec)

end Rows
end Go.Proofs.Ytlmefodpnhpghaa
