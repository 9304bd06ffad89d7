/-
  No cell of these rows narrows 'for every input' (looked for: loops, veiled, ifaces, maps, wideKeys, modest, calm, conditions, laid).
  DERIVED. THE GIVEN ROWS OF THIS SEAT. 6 by the template 'for every input the law returns true; each argument reads behind the call as it read before'; 0 by the template 'total and deterministic' (their statements: YtbdhmjlbogjkoaaTotals.lean).
  GIVEN WITH THE SEED: the statements are not yours to turn. If you find one false, say at which input.
  Laid BY PROGRAM, IN A SANDBOX (cutbox-rows.mjs): the forced cells as the released guide's own fill.sh prints them over the translation 77459a2bddab8411… (all of the seat's roots in one cut). By AI agents, Wed Nov 11 2026. No macro, syntax, notation, axiom, sorry.
-/
import Derived.Test.YtbdhmjlbogjkoaaChecked
import GoSem.Claim
import GoSem.ClaimJoined
import GoSem.ClaimMapViews
import Derived.JoinedTies
import Derived.KernelRfl
namespace Go.Proofs.Ytbdhmjlbogjkoaa
/- THE CELL 'sum', in the pinned program and in every row, IS THE sha256 OF THE DUMP (.gsa) THAT YtbdhmjlbogjkoaaProg.lean LOADS. Nothing in Lean hashes anything: it is a label: what it is worth is what the hold of that sum in a sandbox is worth. -/
noncomputable def Try.pinned : Pinned := { name := "ytbdhmjlbogjkoaa", sum := "77459a2bddab8411e7452d6d0f5a7b75119b556ea65dc79dbad1fa10b6232c17", checked := Try.checked }
namespace Rows
def none {H : Type} : Left H := { results := [], args := [] }

/-- 'linchpinlaw13.IrqOnce': WHATEVER THE INPUT: true; the input reads as it did. -/
def irqOnceSpec : ChangeSpec := { name := "irqOnce", fn := fun _ => fun
  | [d1, d2, d3] => { results := [.lit (.bool true)], args := [d1, d2, d3] }
  | _ => none }
def irqOnceRow : OpenClaim := { program := "ytbdhmjlbogjkoaa", sum := "77459a2bddab8411e7452d6d0f5a7b75119b556ea65dc79dbad1fa10b6232c17", func := "linchpin/linchpinlaw13.IrqOnce", spec := "irqOnce", unfollowed := true, recurses := true, apart := false }
def IrqOnceSaid : Prop := irqOnceRow.holds Try.pinned (OpenSpec.ofChange irqOnceSpec)

/-- ITS FALSE NEIGHBOUR: 'it returns false'. Refute it at one input. -/
def irqOnceWrong : ChangeSpec := { name := "irqOnce", fn := fun _ => fun
  | [d1, d2, d3] => { results := [.lit (.bool false)], args := [d1, d2, d3] }
  | _ => none }
def IrqOnceWrongFalsely : Prop := irqOnceRow.holds Try.pinned (OpenSpec.ofChange irqOnceWrong)

/-- 'linchpinlaw13.IrqWindows': WHATEVER THE INPUT: true; the input reads as it did. -/
def irqWindowsSpec : ChangeSpec := { name := "irqWindows", fn := fun _ => fun
  | [d1, d2] => { results := [.lit (.bool true)], args := [d1, d2] }
  | _ => none }
def irqWindowsRow : OpenClaim := { program := "ytbdhmjlbogjkoaa", sum := "77459a2bddab8411e7452d6d0f5a7b75119b556ea65dc79dbad1fa10b6232c17", func := "linchpin/linchpinlaw13.IrqWindows", spec := "irqWindows", unfollowed := true, recurses := true, apart := false }
def IrqWindowsSaid : Prop := irqWindowsRow.holds Try.pinned (OpenSpec.ofChange irqWindowsSpec)

/-- ITS FALSE NEIGHBOUR: 'it returns false'. Refute it at one input. -/
def irqWindowsWrong : ChangeSpec := { name := "irqWindows", fn := fun _ => fun
  | [d1, d2] => { results := [.lit (.bool false)], args := [d1, d2] }
  | _ => none }
def IrqWindowsWrongFalsely : Prop := irqWindowsRow.holds Try.pinned (OpenSpec.ofChange irqWindowsWrong)

/-- 'linchpinlaw13.IrqPlays': WHATEVER THE INPUT: true; the input reads as it did. -/
def irqPlaysSpec : ChangeSpec := { name := "irqPlays", fn := fun _ => fun
  | [d1, d2] => { results := [.lit (.bool true)], args := [d1, d2] }
  | _ => none }
def irqPlaysRow : OpenClaim := { program := "ytbdhmjlbogjkoaa", sum := "77459a2bddab8411e7452d6d0f5a7b75119b556ea65dc79dbad1fa10b6232c17", func := "linchpin/linchpinlaw13.IrqPlays", spec := "irqPlays", unfollowed := true, recurses := true, apart := false }
def IrqPlaysSaid : Prop := irqPlaysRow.holds Try.pinned (OpenSpec.ofChange irqPlaysSpec)

/-- ITS FALSE NEIGHBOUR: 'it returns false'. Refute it at one input. -/
def irqPlaysWrong : ChangeSpec := { name := "irqPlays", fn := fun _ => fun
  | [d1, d2] => { results := [.lit (.bool false)], args := [d1, d2] }
  | _ => none }
def IrqPlaysWrongFalsely : Prop := irqPlaysRow.holds Try.pinned (OpenSpec.ofChange irqPlaysWrong)

/-- 'linchpinlaw13.IrqStorm': WHATEVER THE INPUT: true; the input reads as it did. -/
def irqStormSpec : ChangeSpec := { name := "irqStorm", fn := fun _ => fun
  | [d1, d2] => { results := [.lit (.bool true)], args := [d1, d2] }
  | _ => none }
def irqStormRow : OpenClaim := { program := "ytbdhmjlbogjkoaa", sum := "77459a2bddab8411e7452d6d0f5a7b75119b556ea65dc79dbad1fa10b6232c17", func := "linchpin/linchpinlaw13.IrqStorm", spec := "irqStorm", unfollowed := true, recurses := true, apart := false }
def IrqStormSaid : Prop := irqStormRow.holds Try.pinned (OpenSpec.ofChange irqStormSpec)

/-- ITS FALSE NEIGHBOUR: 'it returns false'. Refute it at one input. -/
def irqStormWrong : ChangeSpec := { name := "irqStorm", fn := fun _ => fun
  | [d1, d2] => { results := [.lit (.bool false)], args := [d1, d2] }
  | _ => none }
def IrqStormWrongFalsely : Prop := irqStormRow.holds Try.pinned (OpenSpec.ofChange irqStormWrong)

/-- 'linchpinlaw13.IrqLeast': WHATEVER THE INPUT: true; the input reads as it did. -/
def irqLeastSpec : ChangeSpec := { name := "irqLeast", fn := fun _ => fun
  | [d1, d2] => { results := [.lit (.bool true)], args := [d1, d2] }
  | _ => none }
def irqLeastRow : OpenClaim := { program := "ytbdhmjlbogjkoaa", sum := "77459a2bddab8411e7452d6d0f5a7b75119b556ea65dc79dbad1fa10b6232c17", func := "linchpin/linchpinlaw13.IrqLeast", spec := "irqLeast", unfollowed := true, recurses := true, apart := false }
def IrqLeastSaid : Prop := irqLeastRow.holds Try.pinned (OpenSpec.ofChange irqLeastSpec)

/-- ITS FALSE NEIGHBOUR: 'it returns false'. Refute it at one input. -/
def irqLeastWrong : ChangeSpec := { name := "irqLeast", fn := fun _ => fun
  | [d1, d2] => { results := [.lit (.bool false)], args := [d1, d2] }
  | _ => none }
def IrqLeastWrongFalsely : Prop := irqLeastRow.holds Try.pinned (OpenSpec.ofChange irqLeastWrong)

/-- 'linchpinlaw13.IrqMasked': WHATEVER THE INPUT: true; the input reads as it did. -/
def irqMaskedSpec : ChangeSpec := { name := "irqMasked", fn := fun _ => fun
  | [d1, d2, d3] => { results := [.lit (.bool true)], args := [d1, d2, d3] }
  | _ => none }
def irqMaskedRow : OpenClaim := { program := "ytbdhmjlbogjkoaa", sum := "77459a2bddab8411e7452d6d0f5a7b75119b556ea65dc79dbad1fa10b6232c17", func := "linchpin/linchpinlaw13.IrqMasked", spec := "irqMasked", unfollowed := true, recurses := true, apart := false }
def IrqMaskedSaid : Prop := irqMaskedRow.holds Try.pinned (OpenSpec.ofChange irqMaskedSpec)

/-- ITS FALSE NEIGHBOUR: 'it returns false'. Refute it at one input. -/
def irqMaskedWrong : ChangeSpec := { name := "irqMasked", fn := fun _ => fun
  | [d1, d2, d3] => { results := [.lit (.bool false)], args := [d1, d2, d3] }
  | _ => none }
def IrqMaskedWrongFalsely : Prop := irqMaskedRow.holds Try.pinned (OpenSpec.ofChange irqMaskedWrong)

/- THE SECOND FORM. 'bulk': how many values and letters a reading holds, each counted each time it is reached (what is shared counts as often as it is met; a slice's spare places count too). A statement '..UptoSaid' is the law's where the arguments, and the package variables that the reading takes, are together of bulk at most 1048576: NARROWER than '..Said'. Prove '..Said' where nothing that the law and all that it calls make is longer than what came in: it says more and counts as full. Else prove '..UptoSaid'. A law counts once. -/
mutual
def uptoBulk {H : Type} : DataW H → Nat
  | .lit (.string bytes) => bytes.length + 1
  | .lit _ => 1
  | .nil => 1
  | .ptr d => uptoBulk d + 1
  | .slice elems spare => uptoBulkAll elems + uptoBulkAll spare + 1
  | .agg parts => uptoBulkAll parts + 1
  | .iface _ d => uptoBulk d + 1
  | .map entries => uptoBulkEntries entries + 1
  | .held _ => 1
def uptoBulkAll {H : Type} : List (DataW H) → Nat
  | [] => 0
  | d :: r => uptoBulk d + uptoBulkAll r
def uptoBulkEntries {H : Type} : List (Lit × DataW H) → Nat
  | [] => 0
  | x :: r => uptoBulkEntry x + uptoBulkEntries r
def uptoBulkEntry {H : Type} : Lit × DataW H → Nat
  | (.string bytes, d) => bytes.length + uptoBulk d + 1
  | (_, d) => uptoBulk d + 1
 end
def uptoSmall : (H : Type) → List (DataW H) → Bool := fun _ ds => decide (uptoBulkAll ds ≤ 1048576)
def OpenSpec.upto (s : _root_.Go.ChangeSpec) : _root_.Go.OpenSpec := { _root_.Go.OpenSpec.ofChange s with cond := some uptoSmall }

/-- 'linchpinlaw13.IrqOnce', WHERE WHAT IT READS IS OF BULK AT MOST 1048576: true; the input reads as it did. -/
def irqOnceUptoRow : OpenClaim := { program := "ytbdhmjlbogjkoaa", sum := "77459a2bddab8411e7452d6d0f5a7b75119b556ea65dc79dbad1fa10b6232c17", func := "linchpin/linchpinlaw13.IrqOnce", spec := "irqOnce", unfollowed := true, recurses := true, apart := false, narrowed := true }
def IrqOnceUptoSaid : Prop := irqOnceUptoRow.holds Try.pinned (OpenSpec.upto irqOnceSpec)

/-- 'linchpinlaw13.IrqWindows', WHERE WHAT IT READS IS OF BULK AT MOST 1048576: true; the input reads as it did. -/
def irqWindowsUptoRow : OpenClaim := { program := "ytbdhmjlbogjkoaa", sum := "77459a2bddab8411e7452d6d0f5a7b75119b556ea65dc79dbad1fa10b6232c17", func := "linchpin/linchpinlaw13.IrqWindows", spec := "irqWindows", unfollowed := true, recurses := true, apart := false, narrowed := true }
def IrqWindowsUptoSaid : Prop := irqWindowsUptoRow.holds Try.pinned (OpenSpec.upto irqWindowsSpec)

/-- 'linchpinlaw13.IrqPlays', WHERE WHAT IT READS IS OF BULK AT MOST 1048576: true; the input reads as it did. -/
def irqPlaysUptoRow : OpenClaim := { program := "ytbdhmjlbogjkoaa", sum := "77459a2bddab8411e7452d6d0f5a7b75119b556ea65dc79dbad1fa10b6232c17", func := "linchpin/linchpinlaw13.IrqPlays", spec := "irqPlays", unfollowed := true, recurses := true, apart := false, narrowed := true }
def IrqPlaysUptoSaid : Prop := irqPlaysUptoRow.holds Try.pinned (OpenSpec.upto irqPlaysSpec)

/-- 'linchpinlaw13.IrqStorm', WHERE WHAT IT READS IS OF BULK AT MOST 1048576: true; the input reads as it did. -/
def irqStormUptoRow : OpenClaim := { program := "ytbdhmjlbogjkoaa", sum := "77459a2bddab8411e7452d6d0f5a7b75119b556ea65dc79dbad1fa10b6232c17", func := "linchpin/linchpinlaw13.IrqStorm", spec := "irqStorm", unfollowed := true, recurses := true, apart := false, narrowed := true }
def IrqStormUptoSaid : Prop := irqStormUptoRow.holds Try.pinned (OpenSpec.upto irqStormSpec)

/-- 'linchpinlaw13.IrqLeast', WHERE WHAT IT READS IS OF BULK AT MOST 1048576: true; the input reads as it did. -/
def irqLeastUptoRow : OpenClaim := { program := "ytbdhmjlbogjkoaa", sum := "77459a2bddab8411e7452d6d0f5a7b75119b556ea65dc79dbad1fa10b6232c17", func := "linchpin/linchpinlaw13.IrqLeast", spec := "irqLeast", unfollowed := true, recurses := true, apart := false, narrowed := true }
def IrqLeastUptoSaid : Prop := irqLeastUptoRow.holds Try.pinned (OpenSpec.upto irqLeastSpec)

/-- 'linchpinlaw13.IrqMasked', WHERE WHAT IT READS IS OF BULK AT MOST 1048576: true; the input reads as it did. -/
def irqMaskedUptoRow : OpenClaim := { program := "ytbdhmjlbogjkoaa", sum := "77459a2bddab8411e7452d6d0f5a7b75119b556ea65dc79dbad1fa10b6232c17", func := "linchpin/linchpinlaw13.IrqMasked", spec := "irqMasked", unfollowed := true, recurses := true, apart := false, narrowed := true }
def IrqMaskedUptoSaid : Prop := irqMaskedUptoRow.holds Try.pinned (OpenSpec.upto irqMaskedSpec)

end Rows
end Go.Proofs.Ytbdhmjlbogjkoaa
