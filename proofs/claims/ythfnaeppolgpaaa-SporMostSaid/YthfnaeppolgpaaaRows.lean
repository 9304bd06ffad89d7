/-
  No cell of these rows narrows 'for every input' (looked for: loops, veiled, ifaces, maps, wideKeys, modest, calm, conditions, laid).
  DERIVED. THE GIVEN ROWS OF THIS SEAT. 4 by the template 'for every input the law returns true; each argument reads behind the call as it read before'; 0 by the template 'total and deterministic' (their statements: YthfnaeppolgpaaaTotals.lean).
  GIVEN WITH THE SEED: the statements are not yours to turn. If you find one false, say at which input.
  Laid BY PROGRAM, IN A SANDBOX (cutbox-rows.mjs): the forced cells as the released guide's own fill.sh prints them over the translation 8a73136a0f2acd4d… (all of the seat's roots in one cut). By AI agents, Wed Nov 11 2026. No macro, syntax, notation, axiom, sorry.
-/
import Derived.Test.YthfnaeppolgpaaaChecked
import GoSem.Claim
import GoSem.ClaimJoined
import GoSem.ClaimMapViews
import Derived.JoinedTies
import Derived.KernelRfl
namespace Go.Proofs.Ythfnaeppolgpaaa
/- THE CELL 'sum', in the pinned program and in every row, IS THE sha256 OF THE DUMP (.gsa) THAT YthfnaeppolgpaaaProg.lean LOADS. Nothing in Lean hashes anything: it is a label: what it is worth is what the hold of that sum in a sandbox is worth. -/
noncomputable def Try.pinned : Pinned := { name := "ythfnaeppolgpaaa", sum := "8a73136a0f2acd4daa068cfe322feb0097329a378f8927dba7614eaed3daa9b1", checked := Try.checked }
namespace Rows
def none {H : Type} : Left H := { results := [], args := [] }

/-- 'linchpinlaw14.SporMost': WHATEVER THE INPUT: true; the input reads as it did. -/
def sporMostSpec : ChangeSpec := { name := "sporMost", fn := fun _ => fun
  | [d1, d2, d3] => { results := [.lit (.bool true)], args := [d1, d2, d3] }
  | _ => none }
def sporMostRow : OpenClaim := { program := "ythfnaeppolgpaaa", sum := "8a73136a0f2acd4daa068cfe322feb0097329a378f8927dba7614eaed3daa9b1", func := "linchpin/linchpinlaw14.SporMost", spec := "sporMost", apart := false }
def SporMostSaid : Prop := sporMostRow.holds Try.pinned (OpenSpec.ofChange sporMostSpec)

/-- ITS FALSE NEIGHBOUR: 'it returns false'. Refute it at one input. -/
def sporMostWrong : ChangeSpec := { name := "sporMost", fn := fun _ => fun
  | [d1, d2, d3] => { results := [.lit (.bool false)], args := [d1, d2, d3] }
  | _ => none }
def SporMostWrongFalsely : Prop := sporMostRow.holds Try.pinned (OpenSpec.ofChange sporMostWrong)

/-- 'linchpinlaw14.SporBack': WHATEVER THE INPUT: true; the input reads as it did. -/
def sporBackSpec : ChangeSpec := { name := "sporBack", fn := fun _ => fun
  | [d1, d2] => { results := [.lit (.bool true)], args := [d1, d2] }
  | _ => none }
def sporBackRow : OpenClaim := { program := "ythfnaeppolgpaaa", sum := "8a73136a0f2acd4daa068cfe322feb0097329a378f8927dba7614eaed3daa9b1", func := "linchpin/linchpinlaw14.SporBack", spec := "sporBack", apart := false }
def SporBackSaid : Prop := sporBackRow.holds Try.pinned (OpenSpec.ofChange sporBackSpec)

/-- ITS FALSE NEIGHBOUR: 'it returns false'. Refute it at one input. -/
def sporBackWrong : ChangeSpec := { name := "sporBack", fn := fun _ => fun
  | [d1, d2] => { results := [.lit (.bool false)], args := [d1, d2] }
  | _ => none }
def SporBackWrongFalsely : Prop := sporBackRow.holds Try.pinned (OpenSpec.ofChange sporBackWrong)

/-- 'linchpinlaw14.SporGrows': WHATEVER THE INPUT: true; the input reads as it did. -/
def sporGrowsSpec : ChangeSpec := { name := "sporGrows", fn := fun _ => fun
  | [d1, d2, d3] => { results := [.lit (.bool true)], args := [d1, d2, d3] }
  | _ => none }
def sporGrowsRow : OpenClaim := { program := "ythfnaeppolgpaaa", sum := "8a73136a0f2acd4daa068cfe322feb0097329a378f8927dba7614eaed3daa9b1", func := "linchpin/linchpinlaw14.SporGrows", spec := "sporGrows", apart := false }
def SporGrowsSaid : Prop := sporGrowsRow.holds Try.pinned (OpenSpec.ofChange sporGrowsSpec)

/-- ITS FALSE NEIGHBOUR: 'it returns false'. Refute it at one input. -/
def sporGrowsWrong : ChangeSpec := { name := "sporGrows", fn := fun _ => fun
  | [d1, d2, d3] => { results := [.lit (.bool false)], args := [d1, d2, d3] }
  | _ => none }
def SporGrowsWrongFalsely : Prop := sporGrowsRow.holds Try.pinned (OpenSpec.ofChange sporGrowsWrong)

/-- 'linchpinlaw14.SporApart': WHATEVER THE INPUT: true; the input reads as it did. -/
def sporApartSpec : ChangeSpec := { name := "sporApart", fn := fun _ => fun
  | [d1, d2, d3] => { results := [.lit (.bool true)], args := [d1, d2, d3] }
  | _ => none }
def sporApartRow : OpenClaim := { program := "ythfnaeppolgpaaa", sum := "8a73136a0f2acd4daa068cfe322feb0097329a378f8927dba7614eaed3daa9b1", func := "linchpin/linchpinlaw14.SporApart", spec := "sporApart", apart := false }
def SporApartSaid : Prop := sporApartRow.holds Try.pinned (OpenSpec.ofChange sporApartSpec)

/-- ITS FALSE NEIGHBOUR: 'it returns false'. Refute it at one input. -/
def sporApartWrong : ChangeSpec := { name := "sporApart", fn := fun _ => fun
  | [d1, d2, d3] => { results := [.lit (.bool false)], args := [d1, d2, d3] }
  | _ => none }
def SporApartWrongFalsely : Prop := sporApartRow.holds Try.pinned (OpenSpec.ofChange sporApartWrong)

/- THE SECOND FORM. 'bulk': how many values and letters a reading holds, each counted each time it is reached (what is shared counts as often as it is met; a slice's spare places count too). A statement '..UptoSaid' is the law's where the arguments, and the package variables that the reading takes, are together of bulk at most 1048576: NARROWER than '..Said'. Prove '..Said' where nothing that the law and all that it calls make is longer than what came in: it says more and counts as full. Else prove '..UptoSaid'. A law counts once. -/
mutual
def uptoBulk {H : Type} : DataW H → Nat
  | .lit (.string bytes) => bytes.length + 1
  | .lit _ => 1
  | .nil => 1
  | .ptr d => uptoBulk d + 1
  | .slice elems spare => uptoBulkAll elems + uptoBulkAll spare + 1
  | .agg parts => uptoBulkAll parts + 1
  | .iface _ d => uptoBulk d + 1
  | .map entries => uptoBulkEntries entries + 1
  | .held _ => 1
def uptoBulkAll {H : Type} : List (DataW H) → Nat
  | [] => 0
  | d :: r => uptoBulk d + uptoBulkAll r
def uptoBulkEntries {H : Type} : List (Lit × DataW H) → Nat
  | [] => 0
  | x :: r => uptoBulkEntry x + uptoBulkEntries r
def uptoBulkEntry {H : Type} : Lit × DataW H → Nat
  | (.string bytes, d) => bytes.length + uptoBulk d + 1
  | (_, d) => uptoBulk d + 1
 end
def uptoSmall : (H : Type) → List (DataW H) → Bool := fun _ ds => decide (uptoBulkAll ds ≤ 1048576)
def OpenSpec.upto (s : _root_.Go.ChangeSpec) : _root_.Go.OpenSpec := { _root_.Go.OpenSpec.ofChange s with cond := some uptoSmall }

/-- 'linchpinlaw14.SporMost', WHERE WHAT IT READS IS OF BULK AT MOST 1048576: true; the input reads as it did. -/
def sporMostUptoRow : OpenClaim := { program := "ythfnaeppolgpaaa", sum := "8a73136a0f2acd4daa068cfe322feb0097329a378f8927dba7614eaed3daa9b1", func := "linchpin/linchpinlaw14.SporMost", spec := "sporMost", apart := false, narrowed := true }
def SporMostUptoSaid : Prop := sporMostUptoRow.holds Try.pinned (OpenSpec.upto sporMostSpec)

/-- 'linchpinlaw14.SporBack', WHERE WHAT IT READS IS OF BULK AT MOST 1048576: true; the input reads as it did. -/
def sporBackUptoRow : OpenClaim := { program := "ythfnaeppolgpaaa", sum := "8a73136a0f2acd4daa068cfe322feb0097329a378f8927dba7614eaed3daa9b1", func := "linchpin/linchpinlaw14.SporBack", spec := "sporBack", apart := false, narrowed := true }
def SporBackUptoSaid : Prop := sporBackUptoRow.holds Try.pinned (OpenSpec.upto sporBackSpec)

/-- 'linchpinlaw14.SporGrows', WHERE WHAT IT READS IS OF BULK AT MOST 1048576: true; the input reads as it did. -/
def sporGrowsUptoRow : OpenClaim := { program := "ythfnaeppolgpaaa", sum := "8a73136a0f2acd4daa068cfe322feb0097329a378f8927dba7614eaed3daa9b1", func := "linchpin/linchpinlaw14.SporGrows", spec := "sporGrows", apart := false, narrowed := true }
def SporGrowsUptoSaid : Prop := sporGrowsUptoRow.holds Try.pinned (OpenSpec.upto sporGrowsSpec)

/-- 'linchpinlaw14.SporApart', WHERE WHAT IT READS IS OF BULK AT MOST 1048576: true; the input reads as it did. -/
def sporApartUptoRow : OpenClaim := { program := "ythfnaeppolgpaaa", sum := "8a73136a0f2acd4daa068cfe322feb0097329a378f8927dba7614eaed3daa9b1", func := "linchpin/linchpinlaw14.SporApart", spec := "sporApart", apart := false, narrowed := true }
def SporApartUptoSaid : Prop := sporApartUptoRow.holds Try.pinned (OpenSpec.upto sporApartSpec)

end Rows
end Go.Proofs.Ythfnaeppolgpaaa
