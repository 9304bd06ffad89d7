/-
  No cell of these rows narrows 'for every input' (looked for: loops, veiled, ifaces, maps, wideKeys, modest, calm, conditions, laid).
  DERIVED. THE GIVEN ROWS OF THIS SEAT. 5 by the template 'for every input the law returns true; each argument reads behind the call as it read before'; 0 by the template 'total and deterministic' (their statements: YtppkpelpdmkgjaaTotals.lean).
  GIVEN WITH THE SEED: the statements are not yours to turn. If you find one false, say at which input.
  Laid BY PROGRAM, IN A SANDBOX (cutbox-rows.mjs): the forced cells as the released guide's own fill.sh prints them over the translation f672ff38e2d66a33… (all of the seat's roots in one cut). By AI agents, Wed Nov 11 2026. No macro, syntax, notation, axiom, sorry.
-/
import Derived.Test.YtppkpelpdmkgjaaChecked
import GoSem.Claim
import GoSem.ClaimJoined
import GoSem.ClaimMapViews
import Derived.JoinedTies
import Derived.KernelRfl
namespace Go.Proofs.Ytppkpelpdmkgjaa
/- THE CELL 'sum', in the pinned program and in every row, IS THE sha256 OF THE DUMP (.gsa) THAT YtppkpelpdmkgjaaProg.lean LOADS. Nothing in Lean hashes anything: it is a label: what it is worth is what the hold of that sum in a sandbox is worth. -/
noncomputable def Try.pinned : Pinned := { name := "ytppkpelpdmkgjaa", sum := "f672ff38e2d66a330371df579c17f2bc3dd73a601ebb43eb8022fafc6b41a409", checked := Try.checked }
namespace Rows
def none {H : Type} : Left H := { results := [], args := [] }

/-- 'linchpinlaw11.CoalPlays': WHATEVER THE INPUT: true; the input reads as it did. -/
def coalPlaysSpec : ChangeSpec := { name := "coalPlays", fn := fun _ => fun
  | [d1, d2, d3] => { results := [.lit (.bool true)], args := [d1, d2, d3] }
  | _ => none }
def coalPlaysRow : OpenClaim := { program := "ytppkpelpdmkgjaa", sum := "f672ff38e2d66a330371df579c17f2bc3dd73a601ebb43eb8022fafc6b41a409", func := "linchpin/linchpinlaw11.CoalPlays", spec := "coalPlays", unfollowed := true, recurses := true, apart := false }
def CoalPlaysSaid : Prop := coalPlaysRow.holds Try.pinned (OpenSpec.ofChange coalPlaysSpec)

/-- ITS FALSE NEIGHBOUR: 'it returns false'. Refute it at one input. -/
def coalPlaysWrong : ChangeSpec := { name := "coalPlays", fn := fun _ => fun
  | [d1, d2, d3] => { results := [.lit (.bool false)], args := [d1, d2, d3] }
  | _ => none }
def CoalPlaysWrongFalsely : Prop := coalPlaysRow.holds Try.pinned (OpenSpec.ofChange coalPlaysWrong)

/-- 'linchpinlaw11.CoalOnce': WHATEVER THE INPUT: true; the input reads as it did. -/
def coalOnceSpec : ChangeSpec := { name := "coalOnce", fn := fun _ => fun
  | [d1, d2, d3] => { results := [.lit (.bool true)], args := [d1, d2, d3] }
  | _ => none }
def coalOnceRow : OpenClaim := { program := "ytppkpelpdmkgjaa", sum := "f672ff38e2d66a330371df579c17f2bc3dd73a601ebb43eb8022fafc6b41a409", func := "linchpin/linchpinlaw11.CoalOnce", spec := "coalOnce", unfollowed := true, recurses := true, apart := false }
def CoalOnceSaid : Prop := coalOnceRow.holds Try.pinned (OpenSpec.ofChange coalOnceSpec)

/-- ITS FALSE NEIGHBOUR: 'it returns false'. Refute it at one input. -/
def coalOnceWrong : ChangeSpec := { name := "coalOnce", fn := fun _ => fun
  | [d1, d2, d3] => { results := [.lit (.bool false)], args := [d1, d2, d3] }
  | _ => none }
def CoalOnceWrongFalsely : Prop := coalOnceRow.holds Try.pinned (OpenSpec.ofChange coalOnceWrong)

/-- 'linchpinlaw11.CoalCounts': WHATEVER THE INPUT: true; the input reads as it did. -/
def coalCountsSpec : ChangeSpec := { name := "coalCounts", fn := fun _ => fun
  | [d1, d2, d3] => { results := [.lit (.bool true)], args := [d1, d2, d3] }
  | _ => none }
def coalCountsRow : OpenClaim := { program := "ytppkpelpdmkgjaa", sum := "f672ff38e2d66a330371df579c17f2bc3dd73a601ebb43eb8022fafc6b41a409", func := "linchpin/linchpinlaw11.CoalCounts", spec := "coalCounts", unfollowed := true, recurses := true, apart := false }
def CoalCountsSaid : Prop := coalCountsRow.holds Try.pinned (OpenSpec.ofChange coalCountsSpec)

/-- ITS FALSE NEIGHBOUR: 'it returns false'. Refute it at one input. -/
def coalCountsWrong : ChangeSpec := { name := "coalCounts", fn := fun _ => fun
  | [d1, d2, d3] => { results := [.lit (.bool false)], args := [d1, d2, d3] }
  | _ => none }
def CoalCountsWrongFalsely : Prop := coalCountsRow.holds Try.pinned (OpenSpec.ofChange coalCountsWrong)

/-- 'linchpinlaw11.CoalDue': WHATEVER THE INPUT: true; the input reads as it did. -/
def coalDueSpec : ChangeSpec := { name := "coalDue", fn := fun _ => fun
  | [d1, d2] => { results := [.lit (.bool true)], args := [d1, d2] }
  | _ => none }
def coalDueRow : OpenClaim := { program := "ytppkpelpdmkgjaa", sum := "f672ff38e2d66a330371df579c17f2bc3dd73a601ebb43eb8022fafc6b41a409", func := "linchpin/linchpinlaw11.CoalDue", spec := "coalDue", unfollowed := true, recurses := true, apart := false }
def CoalDueSaid : Prop := coalDueRow.holds Try.pinned (OpenSpec.ofChange coalDueSpec)

/-- ITS FALSE NEIGHBOUR: 'it returns false'. Refute it at one input. -/
def coalDueWrong : ChangeSpec := { name := "coalDue", fn := fun _ => fun
  | [d1, d2] => { results := [.lit (.bool false)], args := [d1, d2] }
  | _ => none }
def CoalDueWrongFalsely : Prop := coalDueRow.holds Try.pinned (OpenSpec.ofChange coalDueWrong)

/-- 'linchpinlaw11.CoalTimes': WHATEVER THE INPUT: true; the input reads as it did. -/
def coalTimesSpec : ChangeSpec := { name := "coalTimes", fn := fun _ => fun
  | [d1, d2] => { results := [.lit (.bool true)], args := [d1, d2] }
  | _ => none }
def coalTimesRow : OpenClaim := { program := "ytppkpelpdmkgjaa", sum := "f672ff38e2d66a330371df579c17f2bc3dd73a601ebb43eb8022fafc6b41a409", func := "linchpin/linchpinlaw11.CoalTimes", spec := "coalTimes", unfollowed := true, recurses := true, apart := false }
def CoalTimesSaid : Prop := coalTimesRow.holds Try.pinned (OpenSpec.ofChange coalTimesSpec)

/-- ITS FALSE NEIGHBOUR: 'it returns false'. Refute it at one input. -/
def coalTimesWrong : ChangeSpec := { name := "coalTimes", fn := fun _ => fun
  | [d1, d2] => { results := [.lit (.bool false)], args := [d1, d2] }
  | _ => none }
def CoalTimesWrongFalsely : Prop := coalTimesRow.holds Try.pinned (OpenSpec.ofChange coalTimesWrong)

/- THE SECOND FORM. 'bulk': how many values and letters a reading holds, each counted each time it is reached (what is shared counts as often as it is met; a slice's spare places count too). A statement '..UptoSaid' is the law's where the arguments, and the package variables that the reading takes, are together of bulk at most 1048576: NARROWER than '..Said'. Prove '..Said' where nothing that the law and all that it calls make is longer than what came in: it says more and counts as full. Else prove '..UptoSaid'. A law counts once. -/
mutual
def uptoBulk {H : Type} : DataW H → Nat
  | .lit (.string bytes) => bytes.length + 1
  | .lit _ => 1
  | .nil => 1
  | .ptr d => uptoBulk d + 1
  | .slice elems spare => uptoBulkAll elems + uptoBulkAll spare + 1
  | .agg parts => uptoBulkAll parts + 1
  | .iface _ d => uptoBulk d + 1
  | .map entries => uptoBulkEntries entries + 1
  | .held _ => 1
def uptoBulkAll {H : Type} : List (DataW H) → Nat
  | [] => 0
  | d :: r => uptoBulk d + uptoBulkAll r
def uptoBulkEntries {H : Type} : List (Lit × DataW H) → Nat
  | [] => 0
  | x :: r => uptoBulkEntry x + uptoBulkEntries r
def uptoBulkEntry {H : Type} : Lit × DataW H → Nat
  | (.string bytes, d) => bytes.length + uptoBulk d + 1
  | (_, d) => uptoBulk d + 1
 end
def uptoSmall : (H : Type) → List (DataW H) → Bool := fun _ ds => decide (uptoBulkAll ds ≤ 1048576)
def OpenSpec.upto (s : _root_.Go.ChangeSpec) : _root_.Go.OpenSpec := { _root_.Go.OpenSpec.ofChange s with cond := some uptoSmall }

/-- 'linchpinlaw11.CoalPlays', WHERE WHAT IT READS IS OF BULK AT MOST 1048576: true; the input reads as it did. -/
def coalPlaysUptoRow : OpenClaim := { program := "ytppkpelpdmkgjaa", sum := "f672ff38e2d66a330371df579c17f2bc3dd73a601ebb43eb8022fafc6b41a409", func := "linchpin/linchpinlaw11.CoalPlays", spec := "coalPlays", unfollowed := true, recurses := true, apart := false, narrowed := true }
def CoalPlaysUptoSaid : Prop := coalPlaysUptoRow.holds Try.pinned (OpenSpec.upto coalPlaysSpec)

/-- 'linchpinlaw11.CoalOnce', WHERE WHAT IT READS IS OF BULK AT MOST 1048576: true; the input reads as it did. -/
def coalOnceUptoRow : OpenClaim := { program := "ytppkpelpdmkgjaa", sum := "f672ff38e2d66a330371df579c17f2bc3dd73a601ebb43eb8022fafc6b41a409", func := "linchpin/linchpinlaw11.CoalOnce", spec := "coalOnce", unfollowed := true, recurses := true, apart := false, narrowed := true }
def CoalOnceUptoSaid : Prop := coalOnceUptoRow.holds Try.pinned (OpenSpec.upto coalOnceSpec)

/-- 'linchpinlaw11.CoalCounts', WHERE WHAT IT READS IS OF BULK AT MOST 1048576: true; the input reads as it did. -/
def coalCountsUptoRow : OpenClaim := { program := "ytppkpelpdmkgjaa", sum := "f672ff38e2d66a330371df579c17f2bc3dd73a601ebb43eb8022fafc6b41a409", func := "linchpin/linchpinlaw11.CoalCounts", spec := "coalCounts", unfollowed := true, recurses := true, apart := false, narrowed := true }
def CoalCountsUptoSaid : Prop := coalCountsUptoRow.holds Try.pinned (OpenSpec.upto coalCountsSpec)

/-- 'linchpinlaw11.CoalDue', WHERE WHAT IT READS IS OF BULK AT MOST 1048576: true; the input reads as it did. -/
def coalDueUptoRow : OpenClaim := { program := "ytppkpelpdmkgjaa", sum := "f672ff38e2d66a330371df579c17f2bc3dd73a601ebb43eb8022fafc6b41a409", func := "linchpin/linchpinlaw11.CoalDue", spec := "coalDue", unfollowed := true, recurses := true, apart := false, narrowed := true }
def CoalDueUptoSaid : Prop := coalDueUptoRow.holds Try.pinned (OpenSpec.upto coalDueSpec)

/-- 'linchpinlaw11.CoalTimes', WHERE WHAT IT READS IS OF BULK AT MOST 1048576: true; the input reads as it did. -/
def coalTimesUptoRow : OpenClaim := { program := "ytppkpelpdmkgjaa", sum := "f672ff38e2d66a330371df579c17f2bc3dd73a601ebb43eb8022fafc6b41a409", func := "linchpin/linchpinlaw11.CoalTimes", spec := "coalTimes", unfollowed := true, recurses := true, apart := false, narrowed := true }
def CoalTimesUptoSaid : Prop := coalTimesUptoRow.holds Try.pinned (OpenSpec.upto coalTimesSpec)

end Rows
end Go.Proofs.Ytppkpelpdmkgjaa
