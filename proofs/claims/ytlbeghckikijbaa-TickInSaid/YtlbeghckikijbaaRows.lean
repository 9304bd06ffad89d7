/-
  No cell of these rows narrows 'for every input' (looked for: loops, veiled, ifaces, maps, wideKeys, modest, calm, conditions, laid).
  DERIVED. THE GIVEN ROWS OF THIS SEAT. 8 by the template 'for every input the law returns true; each argument reads behind the call as it read before'; 0 by the template 'total and deterministic' (their statements: YtlbeghckikijbaaTotals.lean).
  GIVEN WITH THE SEED: the statements are not yours to turn. If you find one false, say at which input.
  Laid BY PROGRAM, IN A SANDBOX (cutbox-rows.mjs): the forced cells as the released guide's own fill.sh prints them over the translation 895d6aacf503d8fe… (all of the seat's roots in one cut). By AI agents, Wed Nov 11 2026. No macro, syntax, notation, axiom, sorry.
-/
import Derived.Test.YtlbeghckikijbaaChecked
import GoSem.Claim
import GoSem.ClaimJoined
import GoSem.ClaimMapViews
import Derived.JoinedTies
import Derived.KernelRfl
namespace Go.Proofs.Ytlbeghckikijbaa
/- THE CELL 'sum', in the pinned program and in every row, IS THE sha256 OF THE DUMP (.gsa) THAT YtlbeghckikijbaaProg.lean LOADS. Nothing in Lean hashes anything: it is a label: what it is worth is what the hold of that sum in a sandbox is worth. -/
noncomputable def Try.pinned : Pinned := { name := "ytlbeghckikijbaa", sum := "895d6aacf503d8fef98c41010c8719aa9503f37c863aa5383b6d38622cfb4efa", checked := Try.checked }
namespace Rows
def none {H : Type} : Left H := { results := [], args := [] }

/-- 'linchpinlaw01.TickWindows': WHATEVER THE INPUT: true; the input reads as it did. -/
def tickWindowsSpec : ChangeSpec := { name := "tickWindows", fn := fun _ => fun
  | [d1, d2, d3] => { results := [.lit (.bool true)], args := [d1, d2, d3] }
  | _ => none }
def tickWindowsRow : OpenClaim := { program := "ytlbeghckikijbaa", sum := "895d6aacf503d8fef98c41010c8719aa9503f37c863aa5383b6d38622cfb4efa", func := "linchpin/linchpinlaw01.TickWindows", spec := "tickWindows", apart := false }
def TickWindowsSaid : Prop := tickWindowsRow.holds Try.pinned (OpenSpec.ofChange tickWindowsSpec)

/-- ITS FALSE NEIGHBOUR: 'it returns false'. Refute it at one input. -/
def tickWindowsWrong : ChangeSpec := { name := "tickWindows", fn := fun _ => fun
  | [d1, d2, d3] => { results := [.lit (.bool false)], args := [d1, d2, d3] }
  | _ => none }
def TickWindowsWrongFalsely : Prop := tickWindowsRow.holds Try.pinned (OpenSpec.ofChange tickWindowsWrong)

/-- 'linchpinlaw01.TickUps': WHATEVER THE INPUT: true; the input reads as it did. -/
def tickUpsSpec : ChangeSpec := { name := "tickUps", fn := fun _ => fun
  | [d1, d2, d3] => { results := [.lit (.bool true)], args := [d1, d2, d3] }
  | _ => none }
def tickUpsRow : OpenClaim := { program := "ytlbeghckikijbaa", sum := "895d6aacf503d8fef98c41010c8719aa9503f37c863aa5383b6d38622cfb4efa", func := "linchpin/linchpinlaw01.TickUps", spec := "tickUps", apart := false }
def TickUpsSaid : Prop := tickUpsRow.holds Try.pinned (OpenSpec.ofChange tickUpsSpec)

/-- ITS FALSE NEIGHBOUR: 'it returns false'. Refute it at one input. -/
def tickUpsWrong : ChangeSpec := { name := "tickUps", fn := fun _ => fun
  | [d1, d2, d3] => { results := [.lit (.bool false)], args := [d1, d2, d3] }
  | _ => none }
def TickUpsWrongFalsely : Prop := tickUpsRow.holds Try.pinned (OpenSpec.ofChange tickUpsWrong)

/-- 'linchpinlaw01.TickWalks': WHATEVER THE INPUT: true; the input reads as it did. -/
def tickWalksSpec : ChangeSpec := { name := "tickWalks", fn := fun _ => fun
  | [d1, d2, d3] => { results := [.lit (.bool true)], args := [d1, d2, d3] }
  | _ => none }
def tickWalksRow : OpenClaim := { program := "ytlbeghckikijbaa", sum := "895d6aacf503d8fef98c41010c8719aa9503f37c863aa5383b6d38622cfb4efa", func := "linchpin/linchpinlaw01.TickWalks", spec := "tickWalks", apart := false }
def TickWalksSaid : Prop := tickWalksRow.holds Try.pinned (OpenSpec.ofChange tickWalksSpec)

/-- ITS FALSE NEIGHBOUR: 'it returns false'. Refute it at one input. -/
def tickWalksWrong : ChangeSpec := { name := "tickWalks", fn := fun _ => fun
  | [d1, d2, d3] => { results := [.lit (.bool false)], args := [d1, d2, d3] }
  | _ => none }
def TickWalksWrongFalsely : Prop := tickWalksRow.holds Try.pinned (OpenSpec.ofChange tickWalksWrong)

/-- 'linchpinlaw01.TickUpSum': WHATEVER THE INPUT: true; the input reads as it did. -/
def tickUpSumSpec : ChangeSpec := { name := "tickUpSum", fn := fun _ => fun
  | [d1, d2, d3] => { results := [.lit (.bool true)], args := [d1, d2, d3] }
  | _ => none }
def tickUpSumRow : OpenClaim := { program := "ytlbeghckikijbaa", sum := "895d6aacf503d8fef98c41010c8719aa9503f37c863aa5383b6d38622cfb4efa", func := "linchpin/linchpinlaw01.TickUpSum", spec := "tickUpSum", apart := false }
def TickUpSumSaid : Prop := tickUpSumRow.holds Try.pinned (OpenSpec.ofChange tickUpSumSpec)

/-- ITS FALSE NEIGHBOUR: 'it returns false'. Refute it at one input. -/
def tickUpSumWrong : ChangeSpec := { name := "tickUpSum", fn := fun _ => fun
  | [d1, d2, d3] => { results := [.lit (.bool false)], args := [d1, d2, d3] }
  | _ => none }
def TickUpSumWrongFalsely : Prop := tickUpSumRow.holds Try.pinned (OpenSpec.ofChange tickUpSumWrong)

/-- 'linchpinlaw01.TickPhase': WHATEVER THE INPUT: true; the input reads as it did. -/
def tickPhaseSpec : ChangeSpec := { name := "tickPhase", fn := fun _ => fun
  | [d1, d2, d3] => { results := [.lit (.bool true)], args := [d1, d2, d3] }
  | _ => none }
def tickPhaseRow : OpenClaim := { program := "ytlbeghckikijbaa", sum := "895d6aacf503d8fef98c41010c8719aa9503f37c863aa5383b6d38622cfb4efa", func := "linchpin/linchpinlaw01.TickPhase", spec := "tickPhase", apart := false }
def TickPhaseSaid : Prop := tickPhaseRow.holds Try.pinned (OpenSpec.ofChange tickPhaseSpec)

/-- ITS FALSE NEIGHBOUR: 'it returns false'. Refute it at one input. -/
def tickPhaseWrong : ChangeSpec := { name := "tickPhase", fn := fun _ => fun
  | [d1, d2, d3] => { results := [.lit (.bool false)], args := [d1, d2, d3] }
  | _ => none }
def TickPhaseWrongFalsely : Prop := tickPhaseRow.holds Try.pinned (OpenSpec.ofChange tickPhaseWrong)

/-- 'linchpinlaw01.TickAdds': WHATEVER THE INPUT: true; the input reads as it did. -/
def tickAddsSpec : ChangeSpec := { name := "tickAdds", fn := fun _ => fun
  | [d1, d2, d3] => { results := [.lit (.bool true)], args := [d1, d2, d3] }
  | _ => none }
def tickAddsRow : OpenClaim := { program := "ytlbeghckikijbaa", sum := "895d6aacf503d8fef98c41010c8719aa9503f37c863aa5383b6d38622cfb4efa", func := "linchpin/linchpinlaw01.TickAdds", spec := "tickAdds", apart := false }
def TickAddsSaid : Prop := tickAddsRow.holds Try.pinned (OpenSpec.ofChange tickAddsSpec)

/-- ITS FALSE NEIGHBOUR: 'it returns false'. Refute it at one input. -/
def tickAddsWrong : ChangeSpec := { name := "tickAdds", fn := fun _ => fun
  | [d1, d2, d3] => { results := [.lit (.bool false)], args := [d1, d2, d3] }
  | _ => none }
def TickAddsWrongFalsely : Prop := tickAddsRow.holds Try.pinned (OpenSpec.ofChange tickAddsWrong)

/-- 'linchpinlaw01.TickIn': WHATEVER THE INPUT: true; the input reads as it did. -/
def tickInSpec : ChangeSpec := { name := "tickIn", fn := fun _ => fun
  | [d1, d2, d3] => { results := [.lit (.bool true)], args := [d1, d2, d3] }
  | _ => none }
def tickInRow : OpenClaim := { program := "ytlbeghckikijbaa", sum := "895d6aacf503d8fef98c41010c8719aa9503f37c863aa5383b6d38622cfb4efa", func := "linchpin/linchpinlaw01.TickIn", spec := "tickIn", apart := false }
def TickInSaid : Prop := tickInRow.holds Try.pinned (OpenSpec.ofChange tickInSpec)

/-- ITS FALSE NEIGHBOUR: 'it returns false'. Refute it at one input. -/
def tickInWrong : ChangeSpec := { name := "tickIn", fn := fun _ => fun
  | [d1, d2, d3] => { results := [.lit (.bool false)], args := [d1, d2, d3] }
  | _ => none }
def TickInWrongFalsely : Prop := tickInRow.holds Try.pinned (OpenSpec.ofChange tickInWrong)

/-- 'linchpinlaw01.TickLeft': WHATEVER THE INPUT: true; the input reads as it did. -/
def tickLeftSpec : ChangeSpec := { name := "tickLeft", fn := fun _ => fun
  | [d1, d2] => { results := [.lit (.bool true)], args := [d1, d2] }
  | _ => none }
def tickLeftRow : OpenClaim := { program := "ytlbeghckikijbaa", sum := "895d6aacf503d8fef98c41010c8719aa9503f37c863aa5383b6d38622cfb4efa", func := "linchpin/linchpinlaw01.TickLeft", spec := "tickLeft", apart := false }
def TickLeftSaid : Prop := tickLeftRow.holds Try.pinned (OpenSpec.ofChange tickLeftSpec)

/-- ITS FALSE NEIGHBOUR: 'it returns false'. Refute it at one input. -/
def tickLeftWrong : ChangeSpec := { name := "tickLeft", fn := fun _ => fun
  | [d1, d2] => { results := [.lit (.bool false)], args := [d1, d2] }
  | _ => none }
def TickLeftWrongFalsely : Prop := tickLeftRow.holds Try.pinned (OpenSpec.ofChange tickLeftWrong)

/- THE SECOND FORM. 'bulk': how many values and letters a reading holds, each counted each time it is reached (what is shared counts as often as it is met; a slice's spare places count too). A statement '..UptoSaid' is the law's where the arguments, and the package variables that the reading takes, are together of bulk at most 1048576: NARROWER than '..Said'. Prove '..Said' where nothing that the law and all that it calls make is longer than what came in: it says more and counts as full. Else prove '..UptoSaid'. A law counts once. -/
mutual
def uptoBulk {H : Type} : DataW H → Nat
  | .lit (.string bytes) => bytes.length + 1
  | .lit _ => 1
  | .nil => 1
  | .ptr d => uptoBulk d + 1
  | .slice elems spare => uptoBulkAll elems + uptoBulkAll spare + 1
  | .agg parts => uptoBulkAll parts + 1
  | .iface _ d => uptoBulk d + 1
  | .map entries => uptoBulkEntries entries + 1
  | .held _ => 1
def uptoBulkAll {H : Type} : List (DataW H) → Nat
  | [] => 0
  | d :: r => uptoBulk d + uptoBulkAll r
def uptoBulkEntries {H : Type} : List (Lit × DataW H) → Nat
  | [] => 0
  | x :: r => uptoBulkEntry x + uptoBulkEntries r
def uptoBulkEntry {H : Type} : Lit × DataW H → Nat
  | (.string bytes, d) => bytes.length + uptoBulk d + 1
  | (_, d) => uptoBulk d + 1
 end
def uptoSmall : (H : Type) → List (DataW H) → Bool := fun _ ds => decide (uptoBulkAll ds ≤ 1048576)
def OpenSpec.upto (s : _root_.Go.ChangeSpec) : _root_.Go.OpenSpec := { _root_.Go.OpenSpec.ofChange s with cond := some uptoSmall }

/-- 'linchpinlaw01.TickWindows', WHERE WHAT IT READS IS OF BULK AT MOST 1048576: true; the input reads as it did. -/
def tickWindowsUptoRow : OpenClaim := { program := "ytlbeghckikijbaa", sum := "895d6aacf503d8fef98c41010c8719aa9503f37c863aa5383b6d38622cfb4efa", func := "linchpin/linchpinlaw01.TickWindows", spec := "tickWindows", apart := false, narrowed := true }
def TickWindowsUptoSaid : Prop := tickWindowsUptoRow.holds Try.pinned (OpenSpec.upto tickWindowsSpec)

/-- 'linchpinlaw01.TickUps', WHERE WHAT IT READS IS OF BULK AT MOST 1048576: true; the input reads as it did. -/
def tickUpsUptoRow : OpenClaim := { program := "ytlbeghckikijbaa", sum := "895d6aacf503d8fef98c41010c8719aa9503f37c863aa5383b6d38622cfb4efa", func := "linchpin/linchpinlaw01.TickUps", spec := "tickUps", apart := false, narrowed := true }
def TickUpsUptoSaid : Prop := tickUpsUptoRow.holds Try.pinned (OpenSpec.upto tickUpsSpec)

/-- 'linchpinlaw01.TickWalks', WHERE WHAT IT READS IS OF BULK AT MOST 1048576: true; the input reads as it did. -/
def tickWalksUptoRow : OpenClaim := { program := "ytlbeghckikijbaa", sum := "895d6aacf503d8fef98c41010c8719aa9503f37c863aa5383b6d38622cfb4efa", func := "linchpin/linchpinlaw01.TickWalks", spec := "tickWalks", apart := false, narrowed := true }
def TickWalksUptoSaid : Prop := tickWalksUptoRow.holds Try.pinned (OpenSpec.upto tickWalksSpec)

/-- 'linchpinlaw01.TickUpSum', WHERE WHAT IT READS IS OF BULK AT MOST 1048576: true; the input reads as it did. -/
def tickUpSumUptoRow : OpenClaim := { program := "ytlbeghckikijbaa", sum := "895d6aacf503d8fef98c41010c8719aa9503f37c863aa5383b6d38622cfb4efa", func := "linchpin/linchpinlaw01.TickUpSum", spec := "tickUpSum", apart := false, narrowed := true }
def TickUpSumUptoSaid : Prop := tickUpSumUptoRow.holds Try.pinned (OpenSpec.upto tickUpSumSpec)

/-- 'linchpinlaw01.TickPhase', WHERE WHAT IT READS IS OF BULK AT MOST 1048576: true; the input reads as it did. -/
def tickPhaseUptoRow : OpenClaim := { program := "ytlbeghckikijbaa", sum := "895d6aacf503d8fef98c41010c8719aa9503f37c863aa5383b6d38622cfb4efa", func := "linchpin/linchpinlaw01.TickPhase", spec := "tickPhase", apart := false, narrowed := true }
def TickPhaseUptoSaid : Prop := tickPhaseUptoRow.holds Try.pinned (OpenSpec.upto tickPhaseSpec)

/-- 'linchpinlaw01.TickAdds', WHERE WHAT IT READS IS OF BULK AT MOST 1048576: true; the input reads as it did. -/
def tickAddsUptoRow : OpenClaim := { program := "ytlbeghckikijbaa", sum := "895d6aacf503d8fef98c41010c8719aa9503f37c863aa5383b6d38622cfb4efa", func := "linchpin/linchpinlaw01.TickAdds", spec := "tickAdds", apart := false, narrowed := true }
def TickAddsUptoSaid : Prop := tickAddsUptoRow.holds Try.pinned (OpenSpec.upto tickAddsSpec)

/-- 'linchpinlaw01.TickIn', WHERE WHAT IT READS IS OF BULK AT MOST 1048576: true; the input reads as it did. -/
def tickInUptoRow : OpenClaim := { program := "ytlbeghckikijbaa", sum := "895d6aacf503d8fef98c41010c8719aa9503f37c863aa5383b6d38622cfb4efa", func := "linchpin/linchpinlaw01.TickIn", spec := "tickIn", apart := false, narrowed := true }
def TickInUptoSaid : Prop := tickInUptoRow.holds Try.pinned (OpenSpec.upto tickInSpec)

/-- 'linchpinlaw01.TickLeft', WHERE WHAT IT READS IS OF BULK AT MOST 1048576: true; the input reads as it did. -/
def tickLeftUptoRow : OpenClaim := { program := "ytlbeghckikijbaa", sum := "895d6aacf503d8fef98c41010c8719aa9503f37c863aa5383b6d38622cfb4efa", func := "linchpin/linchpinlaw01.TickLeft", spec := "tickLeft", apart := false, narrowed := true }
def TickLeftUptoSaid : Prop := tickLeftUptoRow.holds Try.pinned (OpenSpec.upto tickLeftSpec)

end Rows
end Go.Proofs.Ytlbeghckikijbaa
