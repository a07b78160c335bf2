/-
  No cell of these rows narrows 'for every input' (looked for: loops, veiled, ifaces, maps, wideKeys, modest, calm, conditions, laid).
  DERIVED. THE GIVEN ROWS OF THIS SEAT. 4 by the template 'for every input the law returns true; each argument reads behind the call as it read before'; 0 by the template 'total and deterministic' (their statements: YthlaobnnhghcfaaTotals.lean).
  GIVEN WITH THE SEED: the statements are not yours to turn. If you find one false, say at which input.
  Laid BY PROGRAM, IN A SANDBOX (cutbox-rows.mjs): the forced cells as the released guide's own fill.sh prints them over the translation bf8417052b3948f4… (all of the seat's roots in one cut). By AI agents, Wed Nov 11 2026. No macro, syntax, notation, axiom, sorry.
-/
import Derived.Test.YthlaobnnhghcfaaChecked
import GoSem.Claim
import GoSem.ClaimJoined
import GoSem.ClaimMapViews
import Derived.JoinedTies
import Derived.KernelRfl
namespace Go.Proofs.Ythlaobnnhghcfaa
/- THE CELL 'sum', in the pinned program and in every row, IS THE sha256 OF THE DUMP (.gsa) THAT YthlaobnnhghcfaaProg.lean LOADS. Nothing in Lean hashes anything: it is a label: what it is worth is what the hold of that sum in a sandbox is worth. -/
noncomputable def Try.pinned : Pinned := { name := "ythlaobnnhghcfaa", sum := "bf8417052b3948f4aac947fb91b4c468eff9834a500f323d2788f4ed3914be6c", checked := Try.checked }
namespace Rows
def none {H : Type} : Left H := { results := [], args := [] }

/-- 'outpostlaw21.WatchSpaces': WHATEVER THE INPUT: true; the input reads as it did. -/
def watchSpacesSpec : ChangeSpec := { name := "watchSpaces", fn := fun _ => fun
  | [d1, d2] => { results := [.lit (.bool true)], args := [d1, d2] }
  | _ => none }
def watchSpacesRow : OpenClaim := { program := "ythlaobnnhghcfaa", sum := "bf8417052b3948f4aac947fb91b4c468eff9834a500f323d2788f4ed3914be6c", func := "outpost/outpostlaw21.WatchSpaces", spec := "watchSpaces", unfollowed := true, recurses := true, apart := false }
def WatchSpacesSaid : Prop := watchSpacesRow.holds Try.pinned (OpenSpec.ofChange watchSpacesSpec)

/-- ITS FALSE NEIGHBOUR: 'it returns false'. Refute it at one input. -/
def watchSpacesWrong : ChangeSpec := { name := "watchSpaces", fn := fun _ => fun
  | [d1, d2] => { results := [.lit (.bool false)], args := [d1, d2] }
  | _ => none }
def WatchSpacesWrongFalsely : Prop := watchSpacesRow.holds Try.pinned (OpenSpec.ofChange watchSpacesWrong)

/-- 'outpostlaw21.WatchFresh': WHATEVER THE INPUT: true; the input reads as it did. -/
def watchFreshSpec : ChangeSpec := { name := "watchFresh", fn := fun _ => fun
  | [d1, d2, d3, d4] => { results := [.lit (.bool true)], args := [d1, d2, d3, d4] }
  | _ => none }
def watchFreshRow : OpenClaim := { program := "ythlaobnnhghcfaa", sum := "bf8417052b3948f4aac947fb91b4c468eff9834a500f323d2788f4ed3914be6c", func := "outpost/outpostlaw21.WatchFresh", spec := "watchFresh", unfollowed := true, recurses := true, apart := false }
def WatchFreshSaid : Prop := watchFreshRow.holds Try.pinned (OpenSpec.ofChange watchFreshSpec)

/-- ITS FALSE NEIGHBOUR: 'it returns false'. Refute it at one input. -/
def watchFreshWrong : ChangeSpec := { name := "watchFresh", fn := fun _ => fun
  | [d1, d2, d3, d4] => { results := [.lit (.bool false)], args := [d1, d2, d3, d4] }
  | _ => none }
def WatchFreshWrongFalsely : Prop := watchFreshRow.holds Try.pinned (OpenSpec.ofChange watchFreshWrong)

/-- 'outpostlaw21.WatchSame': WHATEVER THE INPUT: true; the input reads as it did. -/
def watchSameSpec : ChangeSpec := { name := "watchSame", fn := fun _ => fun
  | [d1, d2] => { results := [.lit (.bool true)], args := [d1, d2] }
  | _ => none }
def watchSameRow : OpenClaim := { program := "ythlaobnnhghcfaa", sum := "bf8417052b3948f4aac947fb91b4c468eff9834a500f323d2788f4ed3914be6c", func := "outpost/outpostlaw21.WatchSame", spec := "watchSame", unfollowed := true, recurses := true, apart := false }
def WatchSameSaid : Prop := watchSameRow.holds Try.pinned (OpenSpec.ofChange watchSameSpec)

/-- ITS FALSE NEIGHBOUR: 'it returns false'. Refute it at one input. -/
def watchSameWrong : ChangeSpec := { name := "watchSame", fn := fun _ => fun
  | [d1, d2] => { results := [.lit (.bool false)], args := [d1, d2] }
  | _ => none }
def WatchSameWrongFalsely : Prop := watchSameRow.holds Try.pinned (OpenSpec.ofChange watchSameWrong)

/-- 'outpostlaw21.WatchPlays': WHATEVER THE INPUT: true; the input reads as it did. -/
def watchPlaysSpec : ChangeSpec := { name := "watchPlays", fn := fun _ => fun
  | [d] => { results := [.lit (.bool true)], args := [d] }
  | _ => none }
def watchPlaysRow : OpenClaim := { program := "ythlaobnnhghcfaa", sum := "bf8417052b3948f4aac947fb91b4c468eff9834a500f323d2788f4ed3914be6c", func := "outpost/outpostlaw21.WatchPlays", spec := "watchPlays", unfollowed := true, recurses := true, apart := false }
def WatchPlaysSaid : Prop := watchPlaysRow.holds Try.pinned (OpenSpec.ofChange watchPlaysSpec)

/-- ITS FALSE NEIGHBOUR: 'it returns false'. Refute it at one input. -/
def watchPlaysWrong : ChangeSpec := { name := "watchPlays", fn := fun _ => fun
  | [d] => { results := [.lit (.bool false)], args := [d] }
  | _ => none }
def WatchPlaysWrongFalsely : Prop := watchPlaysRow.holds Try.pinned (OpenSpec.ofChange watchPlaysWrong)

/- THE SECOND FORM. 'bulk': how many values and letters a reading holds, each counted each time it is reached (what is shared counts as often as it is met; a slice's spare places count too). A statement '..UptoSaid' is the law's where the arguments, and the package variables that the reading takes, are together of bulk at most 1048576: NARROWER than '..Said'. Prove '..Said' where nothing that the law and all that it calls make is longer than what came in: it says more and counts as full. Else prove '..UptoSaid'. A law counts once. -/
mutual
def uptoBulk {H : Type} : DataW H → Nat
  | .lit (.string bytes) => bytes.length + 1
  | .lit _ => 1
  | .nil => 1
  | .ptr d => uptoBulk d + 1
  | .slice elems spare => uptoBulkAll elems + uptoBulkAll spare + 1
  | .agg parts => uptoBulkAll parts + 1
  | .iface _ d => uptoBulk d + 1
  | .map entries => uptoBulkEntries entries + 1
  | .held _ => 1
def uptoBulkAll {H : Type} : List (DataW H) → Nat
  | [] => 0
  | d :: r => uptoBulk d + uptoBulkAll r
def uptoBulkEntries {H : Type} : List (Lit × DataW H) → Nat
  | [] => 0
  | x :: r => uptoBulkEntry x + uptoBulkEntries r
def uptoBulkEntry {H : Type} : Lit × DataW H → Nat
  | (.string bytes, d) => bytes.length + uptoBulk d + 1
  | (_, d) => uptoBulk d + 1
 end
def uptoSmall : (H : Type) → List (DataW H) → Bool := fun _ ds => decide (uptoBulkAll ds ≤ 1048576)
def OpenSpec.upto (s : _root_.Go.ChangeSpec) : _root_.Go.OpenSpec := { _root_.Go.OpenSpec.ofChange s with cond := some uptoSmall }

/-- 'outpostlaw21.WatchSpaces', WHERE WHAT IT READS IS OF BULK AT MOST 1048576: true; the input reads as it did. -/
def watchSpacesUptoRow : OpenClaim := { program := "ythlaobnnhghcfaa", sum := "bf8417052b3948f4aac947fb91b4c468eff9834a500f323d2788f4ed3914be6c", func := "outpost/outpostlaw21.WatchSpaces", spec := "watchSpaces", unfollowed := true, recurses := true, apart := false, narrowed := true }
def WatchSpacesUptoSaid : Prop := watchSpacesUptoRow.holds Try.pinned (OpenSpec.upto watchSpacesSpec)

/-- 'outpostlaw21.WatchFresh', WHERE WHAT IT READS IS OF BULK AT MOST 1048576: true; the input reads as it did. -/
def watchFreshUptoRow : OpenClaim := { program := "ythlaobnnhghcfaa", sum := "bf8417052b3948f4aac947fb91b4c468eff9834a500f323d2788f4ed3914be6c", func := "outpost/outpostlaw21.WatchFresh", spec := "watchFresh", unfollowed := true, recurses := true, apart := false, narrowed := true }
def WatchFreshUptoSaid : Prop := watchFreshUptoRow.holds Try.pinned (OpenSpec.upto watchFreshSpec)

/-- 'outpostlaw21.WatchSame', WHERE WHAT IT READS IS OF BULK AT MOST 1048576: true; the input reads as it did. -/
def watchSameUptoRow : OpenClaim := { program := "ythlaobnnhghcfaa", sum := "bf8417052b3948f4aac947fb91b4c468eff9834a500f323d2788f4ed3914be6c", func := "outpost/outpostlaw21.WatchSame", spec := "watchSame", unfollowed := true, recurses := true, apart := false, narrowed := true }
def WatchSameUptoSaid : Prop := watchSameUptoRow.holds Try.pinned (OpenSpec.upto watchSameSpec)

/-- 'outpostlaw21.WatchPlays', WHERE WHAT IT READS IS OF BULK AT MOST 1048576: true; the input reads as it did. -/
def watchPlaysUptoRow : OpenClaim := { program := "ythlaobnnhghcfaa", sum := "bf8417052b3948f4aac947fb91b4c468eff9834a500f323d2788f4ed3914be6c", func := "outpost/outpostlaw21.WatchPlays", spec := "watchPlays", unfollowed := true, recurses := true, apart := false, narrowed := true }
def WatchPlaysUptoSaid : Prop := watchPlaysUptoRow.holds Try.pinned (OpenSpec.upto watchPlaysSpec)

end Rows
end Go.Proofs.Ythlaobnnhghcfaa
