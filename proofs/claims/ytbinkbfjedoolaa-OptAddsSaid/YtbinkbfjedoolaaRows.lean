/-
  No cell of these rows narrows 'for every input' (looked for: loops, veiled, ifaces, maps, wideKeys, modest, calm, conditions, laid).
  DERIVED. THE GIVEN ROWS OF THIS SEAT. 5 by the template 'for every input the law returns true; each argument reads behind the call as it read before'; 0 by the template 'total and deterministic' (their statements: YtbinkbfjedoolaaTotals.lean).
  GIVEN WITH THE SEED: the statements are not yours to turn. If you find one false, say at which input.
  Laid BY PROGRAM, IN A SANDBOX (cutbox-rows.mjs): the forced cells as the released guide's own fill.sh prints them over the translation d6f482e0bce6261a… (all of the seat's roots in one cut). By AI agents, Wed Nov 11 2026. No macro, syntax, notation, axiom, sorry.
-/
import Derived.Test.YtbinkbfjedoolaaChecked
import GoSem.Claim
import GoSem.ClaimJoined
import GoSem.ClaimMapViews
import Derived.JoinedTies
import Derived.KernelRfl
namespace Go.Proofs.Ytbinkbfjedoolaa
/- THE CELL 'sum', in the pinned program and in every row, IS THE sha256 OF THE DUMP (.gsa) THAT YtbinkbfjedoolaaProg.lean LOADS. Nothing in Lean hashes anything: it is a label: what it is worth is what the hold of that sum in a sandbox is worth. -/
noncomputable def Try.pinned : Pinned := { name := "ytbinkbfjedoolaa", sum := "d6f482e0bce6261a67cc7e6a57d54b770f6561b7afa215954f5483e5fa3e1b9c", checked := Try.checked }
namespace Rows
def none {H : Type} : Left H := { results := [], args := [] }

/-- 'outpostlaw08.OptWrites': WHATEVER THE INPUT: true; the input reads as it did. -/
def optWritesSpec : ChangeSpec := { name := "optWrites", fn := fun _ => fun
  | [d] => { results := [.lit (.bool true)], args := [d] }
  | _ => none }
def optWritesRow : OpenClaim := { program := "ytbinkbfjedoolaa", sum := "d6f482e0bce6261a67cc7e6a57d54b770f6561b7afa215954f5483e5fa3e1b9c", func := "outpost/outpostlaw08.OptWrites", spec := "optWrites", inPlace := ["slices.overlaps[outpost/api.Opt]"], unfollowed := true, recurses := true, apart := false }
def OptWritesSaid : Prop := optWritesRow.holds Try.pinned (OpenSpec.ofChange optWritesSpec)

/-- ITS FALSE NEIGHBOUR: 'it returns false'. Refute it at one input. -/
def optWritesWrong : ChangeSpec := { name := "optWrites", fn := fun _ => fun
  | [d] => { results := [.lit (.bool false)], args := [d] }
  | _ => none }
def OptWritesWrongFalsely : Prop := optWritesRow.holds Try.pinned (OpenSpec.ofChange optWritesWrong)

/-- 'outpostlaw08.OptReads': WHATEVER THE INPUT: true; the input reads as it did. -/
def optReadsSpec : ChangeSpec := { name := "optReads", fn := fun _ => fun
  | [d] => { results := [.lit (.bool true)], args := [d] }
  | _ => none }
def optReadsRow : OpenClaim := { program := "ytbinkbfjedoolaa", sum := "d6f482e0bce6261a67cc7e6a57d54b770f6561b7afa215954f5483e5fa3e1b9c", func := "outpost/outpostlaw08.OptReads", spec := "optReads", inPlace := ["slices.overlaps[outpost/api.Opt]"], unfollowed := true, recurses := true, apart := false }
def OptReadsSaid : Prop := optReadsRow.holds Try.pinned (OpenSpec.ofChange optReadsSpec)

/-- ITS FALSE NEIGHBOUR: 'it returns false'. Refute it at one input. -/
def optReadsWrong : ChangeSpec := { name := "optReads", fn := fun _ => fun
  | [d] => { results := [.lit (.bool false)], args := [d] }
  | _ => none }
def OptReadsWrongFalsely : Prop := optReadsRow.holds Try.pinned (OpenSpec.ofChange optReadsWrong)

/-- 'outpostlaw08.OptBack': WHATEVER THE INPUT: true; the input reads as it did. -/
def optBackSpec : ChangeSpec := { name := "optBack", fn := fun _ => fun
  | [d1, d2] => { results := [.lit (.bool true)], args := [d1, d2] }
  | _ => none }
def optBackRow : OpenClaim := { program := "ytbinkbfjedoolaa", sum := "d6f482e0bce6261a67cc7e6a57d54b770f6561b7afa215954f5483e5fa3e1b9c", func := "outpost/outpostlaw08.OptBack", spec := "optBack", inPlace := ["slices.overlaps[outpost/api.Opt]"], unfollowed := true, recurses := true, apart := false }
def OptBackSaid : Prop := optBackRow.holds Try.pinned (OpenSpec.ofChange optBackSpec)

/-- ITS FALSE NEIGHBOUR: 'it returns false'. Refute it at one input. -/
def optBackWrong : ChangeSpec := { name := "optBack", fn := fun _ => fun
  | [d1, d2] => { results := [.lit (.bool false)], args := [d1, d2] }
  | _ => none }
def OptBackWrongFalsely : Prop := optBackRow.holds Try.pinned (OpenSpec.ofChange optBackWrong)

/-- 'outpostlaw08.OptNumbers': WHATEVER THE INPUT: true; the input reads as it did. -/
def optNumbersSpec : ChangeSpec := { name := "optNumbers", fn := fun _ => fun
  | [d] => { results := [.lit (.bool true)], args := [d] }
  | _ => none }
def optNumbersRow : OpenClaim := { program := "ytbinkbfjedoolaa", sum := "d6f482e0bce6261a67cc7e6a57d54b770f6561b7afa215954f5483e5fa3e1b9c", func := "outpost/outpostlaw08.OptNumbers", spec := "optNumbers", inPlace := ["slices.overlaps[outpost/api.Opt]"], unfollowed := true, recurses := true, apart := false }
def OptNumbersSaid : Prop := optNumbersRow.holds Try.pinned (OpenSpec.ofChange optNumbersSpec)

/-- ITS FALSE NEIGHBOUR: 'it returns false'. Refute it at one input. -/
def optNumbersWrong : ChangeSpec := { name := "optNumbers", fn := fun _ => fun
  | [d] => { results := [.lit (.bool false)], args := [d] }
  | _ => none }
def OptNumbersWrongFalsely : Prop := optNumbersRow.holds Try.pinned (OpenSpec.ofChange optNumbersWrong)

/-- 'outpostlaw08.OptAdds': WHATEVER THE INPUT: true; the input reads as it did. -/
def optAddsSpec : ChangeSpec := { name := "optAdds", fn := fun _ => fun
  | [d1, d2, d3] => { results := [.lit (.bool true)], args := [d1, d2, d3] }
  | _ => none }
def optAddsRow : OpenClaim := { program := "ytbinkbfjedoolaa", sum := "d6f482e0bce6261a67cc7e6a57d54b770f6561b7afa215954f5483e5fa3e1b9c", func := "outpost/outpostlaw08.OptAdds", spec := "optAdds", inPlace := ["slices.overlaps[outpost/api.Opt]"], unfollowed := true, recurses := true, apart := false }
def OptAddsSaid : Prop := optAddsRow.holds Try.pinned (OpenSpec.ofChange optAddsSpec)

/-- ITS FALSE NEIGHBOUR: 'it returns false'. Refute it at one input. -/
def optAddsWrong : ChangeSpec := { name := "optAdds", fn := fun _ => fun
  | [d1, d2, d3] => { results := [.lit (.bool false)], args := [d1, d2, d3] }
  | _ => none }
def OptAddsWrongFalsely : Prop := optAddsRow.holds Try.pinned (OpenSpec.ofChange optAddsWrong)

/- THE SECOND FORM. 'bulk': how many values and letters a reading holds, each counted each time it is reached (what is shared counts as often as it is met; a slice's spare places count too). A statement '..UptoSaid' is the law's where the arguments, and the package variables that the reading takes, are together of bulk at most 1048576: NARROWER than '..Said'. Prove '..Said' where nothing that the law and all that it calls make is longer than what came in: it says more and counts as full. Else prove '..UptoSaid'. A law counts once. -/
mutual
def uptoBulk {H : Type} : DataW H → Nat
  | .lit (.string bytes) => bytes.length + 1
  | .lit _ => 1
  | .nil => 1
  | .ptr d => uptoBulk d + 1
  | .slice elems spare => uptoBulkAll elems + uptoBulkAll spare + 1
  | .agg parts => uptoBulkAll parts + 1
  | .iface _ d => uptoBulk d + 1
  | .map entries => uptoBulkEntries entries + 1
  | .held _ => 1
def uptoBulkAll {H : Type} : List (DataW H) → Nat
  | [] => 0
  | d :: r => uptoBulk d + uptoBulkAll r
def uptoBulkEntries {H : Type} : List (Lit × DataW H) → Nat
  | [] => 0
  | x :: r => uptoBulkEntry x + uptoBulkEntries r
def uptoBulkEntry {H : Type} : Lit × DataW H → Nat
  | (.string bytes, d) => bytes.length + uptoBulk d + 1
  | (_, d) => uptoBulk d + 1
 end
def uptoSmall : (H : Type) → List (DataW H) → Bool := fun _ ds => decide (uptoBulkAll ds ≤ 1048576)
def OpenSpec.upto (s : _root_.Go.ChangeSpec) : _root_.Go.OpenSpec := { _root_.Go.OpenSpec.ofChange s with cond := some uptoSmall }

/-- 'outpostlaw08.OptWrites', WHERE WHAT IT READS IS OF BULK AT MOST 1048576: true; the input reads as it did. -/
def optWritesUptoRow : OpenClaim := { program := "ytbinkbfjedoolaa", sum := "d6f482e0bce6261a67cc7e6a57d54b770f6561b7afa215954f5483e5fa3e1b9c", func := "outpost/outpostlaw08.OptWrites", spec := "optWrites", inPlace := ["slices.overlaps[outpost/api.Opt]"], unfollowed := true, recurses := true, apart := false, narrowed := true }
def OptWritesUptoSaid : Prop := optWritesUptoRow.holds Try.pinned (OpenSpec.upto optWritesSpec)

/-- 'outpostlaw08.OptReads', WHERE WHAT IT READS IS OF BULK AT MOST 1048576: true; the input reads as it did. -/
def optReadsUptoRow : OpenClaim := { program := "ytbinkbfjedoolaa", sum := "d6f482e0bce6261a67cc7e6a57d54b770f6561b7afa215954f5483e5fa3e1b9c", func := "outpost/outpostlaw08.OptReads", spec := "optReads", inPlace := ["slices.overlaps[outpost/api.Opt]"], unfollowed := true, recurses := true, apart := false, narrowed := true }
def OptReadsUptoSaid : Prop := optReadsUptoRow.holds Try.pinned (OpenSpec.upto optReadsSpec)

/-- 'outpostlaw08.OptBack', WHERE WHAT IT READS IS OF BULK AT MOST 1048576: true; the input reads as it did. -/
def optBackUptoRow : OpenClaim := { program := "ytbinkbfjedoolaa", sum := "d6f482e0bce6261a67cc7e6a57d54b770f6561b7afa215954f5483e5fa3e1b9c", func := "outpost/outpostlaw08.OptBack", spec := "optBack", inPlace := ["slices.overlaps[outpost/api.Opt]"], unfollowed := true, recurses := true, apart := false, narrowed := true }
def OptBackUptoSaid : Prop := optBackUptoRow.holds Try.pinned (OpenSpec.upto optBackSpec)

/-- 'outpostlaw08.OptNumbers', WHERE WHAT IT READS IS OF BULK AT MOST 1048576: true; the input reads as it did. -/
def optNumbersUptoRow : OpenClaim := { program := "ytbinkbfjedoolaa", sum := "d6f482e0bce6261a67cc7e6a57d54b770f6561b7afa215954f5483e5fa3e1b9c", func := "outpost/outpostlaw08.OptNumbers", spec := "optNumbers", inPlace := ["slices.overlaps[outpost/api.Opt]"], unfollowed := true, recurses := true, apart := false, narrowed := true }
def OptNumbersUptoSaid : Prop := optNumbersUptoRow.holds Try.pinned (OpenSpec.upto optNumbersSpec)

/-- 'outpostlaw08.OptAdds', WHERE WHAT IT READS IS OF BULK AT MOST 1048576: true; the input reads as it did. -/
def optAddsUptoRow : OpenClaim := { program := "ytbinkbfjedoolaa", sum := "d6f482e0bce6261a67cc7e6a57d54b770f6561b7afa215954f5483e5fa3e1b9c", func := "outpost/outpostlaw08.OptAdds", spec := "optAdds", inPlace := ["slices.overlaps[outpost/api.Opt]"], unfollowed := true, recurses := true, apart := false, narrowed := true }
def OptAddsUptoSaid : Prop := optAddsUptoRow.holds Try.pinned (OpenSpec.upto optAddsSpec)

end Rows
end Go.Proofs.Ytbinkbfjedoolaa
