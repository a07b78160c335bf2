/-
  No cell of these rows narrows 'for every input' (looked for: loops, veiled, ifaces, maps, wideKeys, modest, calm, conditions, laid).
  DERIVED. THE GIVEN ROWS OF THIS SEAT. 6 by the template 'for every input the law returns true; each argument reads behind the call as it read before'; 0 by the template 'total and deterministic' (their statements: YtlgdoglffddjfaaTotals.lean).
  GIVEN WITH THE SEED: the statements are not yours to turn. If you find one false, say at which input.
  Laid BY PROGRAM, IN A SANDBOX (cutbox-rows.mjs): the forced cells as the released guide's own fill.sh prints them over the translation 0b0771905bf73fa1… (all of the seat's roots in one cut). By AI agents, Wed Nov 11 2026. No macro, syntax, notation, axiom, sorry.
-/
import Derived.Test.YtlgdoglffddjfaaChecked
import GoSem.Claim
import GoSem.ClaimJoined
import GoSem.ClaimMapViews
import Derived.JoinedTies
import Derived.KernelRfl
namespace Go.Proofs.Ytlgdoglffddjfaa
/- THE CELL 'sum', in the pinned program and in every row, IS THE sha256 OF THE DUMP (.gsa) THAT YtlgdoglffddjfaaProg.lean LOADS. Nothing in Lean hashes anything: it is a label: what it is worth is what the hold of that sum in a sandbox is worth. -/
noncomputable def Try.pinned : Pinned := { name := "ytlgdoglffddjfaa", sum := "0b0771905bf73fa19dc999eaa808a56dc7124873c2cc9c54e7b9aefcb54a1d43", checked := Try.checked }
namespace Rows
def none {H : Type} : Left H := { results := [], args := [] }

/-- 'outpostlaw09.MsgWrites': WHATEVER THE INPUT: true; the input reads as it did. -/
def msgWritesSpec : ChangeSpec := { name := "msgWrites", fn := fun _ => fun
  | [d] => { results := [.lit (.bool true)], args := [d] }
  | _ => none }
def msgWritesRow : OpenClaim := { program := "ytlgdoglffddjfaa", sum := "0b0771905bf73fa19dc999eaa808a56dc7124873c2cc9c54e7b9aefcb54a1d43", func := "outpost/outpostlaw09.MsgWrites", spec := "msgWrites", unfollowed := true, recurses := true, apart := false }
def MsgWritesSaid : Prop := msgWritesRow.holds Try.pinned (OpenSpec.ofChange msgWritesSpec)

/-- ITS FALSE NEIGHBOUR: 'it returns false'. Refute it at one input. -/
def msgWritesWrong : ChangeSpec := { name := "msgWrites", fn := fun _ => fun
  | [d] => { results := [.lit (.bool false)], args := [d] }
  | _ => none }
def MsgWritesWrongFalsely : Prop := msgWritesRow.holds Try.pinned (OpenSpec.ofChange msgWritesWrong)

/-- 'outpostlaw09.MsgReads': WHATEVER THE INPUT: true; the input reads as it did. -/
def msgReadsSpec : ChangeSpec := { name := "msgReads", fn := fun _ => fun
  | [d] => { results := [.lit (.bool true)], args := [d] }
  | _ => none }
def msgReadsRow : OpenClaim := { program := "ytlgdoglffddjfaa", sum := "0b0771905bf73fa19dc999eaa808a56dc7124873c2cc9c54e7b9aefcb54a1d43", func := "outpost/outpostlaw09.MsgReads", spec := "msgReads", unfollowed := true, recurses := true, apart := false }
def MsgReadsSaid : Prop := msgReadsRow.holds Try.pinned (OpenSpec.ofChange msgReadsSpec)

/-- ITS FALSE NEIGHBOUR: 'it returns false'. Refute it at one input. -/
def msgReadsWrong : ChangeSpec := { name := "msgReads", fn := fun _ => fun
  | [d] => { results := [.lit (.bool false)], args := [d] }
  | _ => none }
def MsgReadsWrongFalsely : Prop := msgReadsRow.holds Try.pinned (OpenSpec.ofChange msgReadsWrong)

/-- 'outpostlaw09.MsgReplies': WHATEVER THE INPUT: true; the input reads as it did. -/
def msgRepliesSpec : ChangeSpec := { name := "msgReplies", fn := fun _ => fun
  | [d1, d2, d3, d4, d5] => { results := [.lit (.bool true)], args := [d1, d2, d3, d4, d5] }
  | _ => none }
def msgRepliesRow : OpenClaim := { program := "ytlgdoglffddjfaa", sum := "0b0771905bf73fa19dc999eaa808a56dc7124873c2cc9c54e7b9aefcb54a1d43", func := "outpost/outpostlaw09.MsgReplies", spec := "msgReplies", unfollowed := true, recurses := true, apart := false }
def MsgRepliesSaid : Prop := msgRepliesRow.holds Try.pinned (OpenSpec.ofChange msgRepliesSpec)

/-- ITS FALSE NEIGHBOUR: 'it returns false'. Refute it at one input. -/
def msgRepliesWrong : ChangeSpec := { name := "msgReplies", fn := fun _ => fun
  | [d1, d2, d3, d4, d5] => { results := [.lit (.bool false)], args := [d1, d2, d3, d4, d5] }
  | _ => none }
def MsgRepliesWrongFalsely : Prop := msgRepliesRow.holds Try.pinned (OpenSpec.ofChange msgRepliesWrong)

/-- 'outpostlaw09.MsgBack': WHATEVER THE INPUT: true; the input reads as it did. -/
def msgBackSpec : ChangeSpec := { name := "msgBack", fn := fun _ => fun
  | [d1, d2] => { results := [.lit (.bool true)], args := [d1, d2] }
  | _ => none }
def msgBackRow : OpenClaim := { program := "ytlgdoglffddjfaa", sum := "0b0771905bf73fa19dc999eaa808a56dc7124873c2cc9c54e7b9aefcb54a1d43", func := "outpost/outpostlaw09.MsgBack", spec := "msgBack", unfollowed := true, recurses := true, apart := false }
def MsgBackSaid : Prop := msgBackRow.holds Try.pinned (OpenSpec.ofChange msgBackSpec)

/-- ITS FALSE NEIGHBOUR: 'it returns false'. Refute it at one input. -/
def msgBackWrong : ChangeSpec := { name := "msgBack", fn := fun _ => fun
  | [d1, d2] => { results := [.lit (.bool false)], args := [d1, d2] }
  | _ => none }
def MsgBackWrongFalsely : Prop := msgBackRow.holds Try.pinned (OpenSpec.ofChange msgBackWrong)

/-- 'outpostlaw09.MsgEnds': WHATEVER THE INPUT: true; the input reads as it did. -/
def msgEndsSpec : ChangeSpec := { name := "msgEnds", fn := fun _ => fun
  | [d1, d2] => { results := [.lit (.bool true)], args := [d1, d2] }
  | _ => none }
def msgEndsRow : OpenClaim := { program := "ytlgdoglffddjfaa", sum := "0b0771905bf73fa19dc999eaa808a56dc7124873c2cc9c54e7b9aefcb54a1d43", func := "outpost/outpostlaw09.MsgEnds", spec := "msgEnds", unfollowed := true, recurses := true, apart := false }
def MsgEndsSaid : Prop := msgEndsRow.holds Try.pinned (OpenSpec.ofChange msgEndsSpec)

/-- ITS FALSE NEIGHBOUR: 'it returns false'. Refute it at one input. -/
def msgEndsWrong : ChangeSpec := { name := "msgEnds", fn := fun _ => fun
  | [d1, d2] => { results := [.lit (.bool false)], args := [d1, d2] }
  | _ => none }
def MsgEndsWrongFalsely : Prop := msgEndsRow.holds Try.pinned (OpenSpec.ofChange msgEndsWrong)

/-- 'outpostlaw09.MsgShort': WHATEVER THE INPUT: true; the input reads as it did. -/
def msgShortSpec : ChangeSpec := { name := "msgShort", fn := fun _ => fun
  | [d1, d2] => { results := [.lit (.bool true)], args := [d1, d2] }
  | _ => none }
def msgShortRow : OpenClaim := { program := "ytlgdoglffddjfaa", sum := "0b0771905bf73fa19dc999eaa808a56dc7124873c2cc9c54e7b9aefcb54a1d43", func := "outpost/outpostlaw09.MsgShort", spec := "msgShort", unfollowed := true, recurses := true, apart := false }
def MsgShortSaid : Prop := msgShortRow.holds Try.pinned (OpenSpec.ofChange msgShortSpec)

/-- ITS FALSE NEIGHBOUR: 'it returns false'. Refute it at one input. -/
def msgShortWrong : ChangeSpec := { name := "msgShort", fn := fun _ => fun
  | [d1, d2] => { results := [.lit (.bool false)], args := [d1, d2] }
  | _ => none }
def MsgShortWrongFalsely : Prop := msgShortRow.holds Try.pinned (OpenSpec.ofChange msgShortWrong)

/- THE SECOND FORM. 'bulk': how many values and letters a reading holds, each counted each time it is reached (what is shared counts as often as it is met; a slice's spare places count too). A statement '..UptoSaid' is the law's where the arguments, and the package variables that the reading takes, are together of bulk at most 1048576: NARROWER than '..Said'. Prove '..Said' where nothing that the law and all that it calls make is longer than what came in: it says more and counts as full. Else prove '..UptoSaid'. A law counts once. -/
mutual
def uptoBulk {H : Type} : DataW H → Nat
  | .lit (.string bytes) => bytes.length + 1
  | .lit _ => 1
  | .nil => 1
  | .ptr d => uptoBulk d + 1
  | .slice elems spare => uptoBulkAll elems + uptoBulkAll spare + 1
  | .agg parts => uptoBulkAll parts + 1
  | .iface _ d => uptoBulk d + 1
  | .map entries => uptoBulkEntries entries + 1
  | .held _ => 1
def uptoBulkAll {H : Type} : List (DataW H) → Nat
  | [] => 0
  | d :: r => uptoBulk d + uptoBulkAll r
def uptoBulkEntries {H : Type} : List (Lit × DataW H) → Nat
  | [] => 0
  | x :: r => uptoBulkEntry x + uptoBulkEntries r
def uptoBulkEntry {H : Type} : Lit × DataW H → Nat
  | (.string bytes, d) => bytes.length + uptoBulk d + 1
  | (_, d) => uptoBulk d + 1
 end
def uptoSmall : (H : Type) → List (DataW H) → Bool := fun _ ds => decide (uptoBulkAll ds ≤ 1048576)
def OpenSpec.upto (s : _root_.Go.ChangeSpec) : _root_.Go.OpenSpec := { _root_.Go.OpenSpec.ofChange s with cond := some uptoSmall }

/-- 'outpostlaw09.MsgWrites', WHERE WHAT IT READS IS OF BULK AT MOST 1048576: true; the input reads as it did. -/
def msgWritesUptoRow : OpenClaim := { program := "ytlgdoglffddjfaa", sum := "0b0771905bf73fa19dc999eaa808a56dc7124873c2cc9c54e7b9aefcb54a1d43", func := "outpost/outpostlaw09.MsgWrites", spec := "msgWrites", unfollowed := true, recurses := true, apart := false, narrowed := true }
def MsgWritesUptoSaid : Prop := msgWritesUptoRow.holds Try.pinned (OpenSpec.upto msgWritesSpec)

/-- 'outpostlaw09.MsgReads', WHERE WHAT IT READS IS OF BULK AT MOST 1048576: true; the input reads as it did. -/
def msgReadsUptoRow : OpenClaim := { program := "ytlgdoglffddjfaa", sum := "0b0771905bf73fa19dc999eaa808a56dc7124873c2cc9c54e7b9aefcb54a1d43", func := "outpost/outpostlaw09.MsgReads", spec := "msgReads", unfollowed := true, recurses := true, apart := false, narrowed := true }
def MsgReadsUptoSaid : Prop := msgReadsUptoRow.holds Try.pinned (OpenSpec.upto msgReadsSpec)

/-- 'outpostlaw09.MsgReplies', WHERE WHAT IT READS IS OF BULK AT MOST 1048576: true; the input reads as it did. -/
def msgRepliesUptoRow : OpenClaim := { program := "ytlgdoglffddjfaa", sum := "0b0771905bf73fa19dc999eaa808a56dc7124873c2cc9c54e7b9aefcb54a1d43", func := "outpost/outpostlaw09.MsgReplies", spec := "msgReplies", unfollowed := true, recurses := true, apart := false, narrowed := true }
def MsgRepliesUptoSaid : Prop := msgRepliesUptoRow.holds Try.pinned (OpenSpec.upto msgRepliesSpec)

/-- 'outpostlaw09.MsgBack', WHERE WHAT IT READS IS OF BULK AT MOST 1048576: true; the input reads as it did. -/
def msgBackUptoRow : OpenClaim := { program := "ytlgdoglffddjfaa", sum := "0b0771905bf73fa19dc999eaa808a56dc7124873c2cc9c54e7b9aefcb54a1d43", func := "outpost/outpostlaw09.MsgBack", spec := "msgBack", unfollowed := true, recurses := true, apart := false, narrowed := true }
def MsgBackUptoSaid : Prop := msgBackUptoRow.holds Try.pinned (OpenSpec.upto msgBackSpec)

/-- 'outpostlaw09.MsgEnds', WHERE WHAT IT READS IS OF BULK AT MOST 1048576: true; the input reads as it did. -/
def msgEndsUptoRow : OpenClaim := { program := "ytlgdoglffddjfaa", sum := "0b0771905bf73fa19dc999eaa808a56dc7124873c2cc9c54e7b9aefcb54a1d43", func := "outpost/outpostlaw09.MsgEnds", spec := "msgEnds", unfollowed := true, recurses := true, apart := false, narrowed := true }
def MsgEndsUptoSaid : Prop := msgEndsUptoRow.holds Try.pinned (OpenSpec.upto msgEndsSpec)

/-- 'outpostlaw09.MsgShort', WHERE WHAT IT READS IS OF BULK AT MOST 1048576: true; the input reads as it did. -/
def msgShortUptoRow : OpenClaim := { program := "ytlgdoglffddjfaa", sum := "0b0771905bf73fa19dc999eaa808a56dc7124873c2cc9c54e7b9aefcb54a1d43", func := "outpost/outpostlaw09.MsgShort", spec := "msgShort", unfollowed := true, recurses := true, apart := false, narrowed := true }
def MsgShortUptoSaid : Prop := msgShortUptoRow.holds Try.pinned (OpenSpec.upto msgShortSpec)

end Rows
end Go.Proofs.Ytlgdoglffddjfaa
