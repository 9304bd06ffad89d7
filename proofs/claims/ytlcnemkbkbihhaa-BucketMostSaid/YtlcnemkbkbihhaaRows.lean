/-
  No cell of these rows narrows 'for every input' (looked for: loops, veiled, ifaces, maps, wideKeys, modest, calm, conditions, laid).
  DERIVED. THE GIVEN ROWS OF THIS SEAT. 5 by the template 'for every input the law returns true; each argument reads behind the call as it read before'; 0 by the template 'total and deterministic' (their statements: YtlcnemkbkbihhaaTotals.lean).
  GIVEN WITH THE SEED: the statements are not yours to turn. If you find one false, say at which input.
  Laid BY PROGRAM, IN A SANDBOX (cutbox-rows.mjs): the forced cells as the released guide's own fill.sh prints them over the translation 63d7bf938e62b187… (all of the seat's roots in one cut). By AI agents, Wed Nov 11 2026. No macro, syntax, notation, axiom, sorry.
-/
import Derived.Test.YtlcnemkbkbihhaaChecked
import GoSem.Claim
import GoSem.ClaimJoined
import GoSem.ClaimMapViews
import Derived.JoinedTies
import Derived.KernelRfl
namespace Go.Proofs.Ytlcnemkbkbihhaa
/- THE CELL 'sum', in the pinned program and in every row, IS THE sha256 OF THE DUMP (.gsa) THAT YtlcnemkbkbihhaaProg.lean LOADS. Nothing in Lean hashes anything: it is a label: what it is worth is what the hold of that sum in a sandbox is worth. -/
noncomputable def Try.pinned : Pinned := { name := "ytlcnemkbkbihhaa", sum := "63d7bf938e62b1877b054a669a1c4c202e5e3a29b536d50da8529ad231f90b6c", checked := Try.checked }
namespace Rows
def none {H : Type} : Left H := { results := [], args := [] }

/-- 'linchpinlaw12.BucketMost': WHATEVER THE INPUT: true; the input reads as it did. -/
def bucketMostSpec : ChangeSpec := { name := "bucketMost", fn := fun _ => fun
  | [d1, d2, d3] => { results := [.lit (.bool true)], args := [d1, d2, d3] }
  | _ => none }
def bucketMostRow : OpenClaim := { program := "ytlcnemkbkbihhaa", sum := "63d7bf938e62b1877b054a669a1c4c202e5e3a29b536d50da8529ad231f90b6c", func := "linchpin/linchpinlaw12.BucketMost", spec := "bucketMost", apart := false }
def BucketMostSaid : Prop := bucketMostRow.holds Try.pinned (OpenSpec.ofChange bucketMostSpec)

/-- ITS FALSE NEIGHBOUR: 'it returns false'. Refute it at one input. -/
def bucketMostWrong : ChangeSpec := { name := "bucketMost", fn := fun _ => fun
  | [d1, d2, d3] => { results := [.lit (.bool false)], args := [d1, d2, d3] }
  | _ => none }
def BucketMostWrongFalsely : Prop := bucketMostRow.holds Try.pinned (OpenSpec.ofChange bucketMostWrong)

/-- 'linchpinlaw12.BucketWaits': WHATEVER THE INPUT: true; the input reads as it did. -/
def bucketWaitsSpec : ChangeSpec := { name := "bucketWaits", fn := fun _ => fun
  | [d1, d2, d3] => { results := [.lit (.bool true)], args := [d1, d2, d3] }
  | _ => none }
def bucketWaitsRow : OpenClaim := { program := "ytlcnemkbkbihhaa", sum := "63d7bf938e62b1877b054a669a1c4c202e5e3a29b536d50da8529ad231f90b6c", func := "linchpin/linchpinlaw12.BucketWaits", spec := "bucketWaits", apart := false }
def BucketWaitsSaid : Prop := bucketWaitsRow.holds Try.pinned (OpenSpec.ofChange bucketWaitsSpec)

/-- ITS FALSE NEIGHBOUR: 'it returns false'. Refute it at one input. -/
def bucketWaitsWrong : ChangeSpec := { name := "bucketWaits", fn := fun _ => fun
  | [d1, d2, d3] => { results := [.lit (.bool false)], args := [d1, d2, d3] }
  | _ => none }
def BucketWaitsWrongFalsely : Prop := bucketWaitsRow.holds Try.pinned (OpenSpec.ofChange bucketWaitsWrong)

/-- 'linchpinlaw12.BucketFills': WHATEVER THE INPUT: true; the input reads as it did. -/
def bucketFillsSpec : ChangeSpec := { name := "bucketFills", fn := fun _ => fun
  | [d1, d2, d3] => { results := [.lit (.bool true)], args := [d1, d2, d3] }
  | _ => none }
def bucketFillsRow : OpenClaim := { program := "ytlcnemkbkbihhaa", sum := "63d7bf938e62b1877b054a669a1c4c202e5e3a29b536d50da8529ad231f90b6c", func := "linchpin/linchpinlaw12.BucketFills", spec := "bucketFills", apart := false }
def BucketFillsSaid : Prop := bucketFillsRow.holds Try.pinned (OpenSpec.ofChange bucketFillsSpec)

/-- ITS FALSE NEIGHBOUR: 'it returns false'. Refute it at one input. -/
def bucketFillsWrong : ChangeSpec := { name := "bucketFills", fn := fun _ => fun
  | [d1, d2, d3] => { results := [.lit (.bool false)], args := [d1, d2, d3] }
  | _ => none }
def BucketFillsWrongFalsely : Prop := bucketFillsRow.holds Try.pinned (OpenSpec.ofChange bucketFillsWrong)

/-- 'linchpinlaw12.BucketMosts': WHATEVER THE INPUT: true; the input reads as it did. -/
def bucketMostsSpec : ChangeSpec := { name := "bucketMosts", fn := fun _ => fun
  | [d1, d2, d3] => { results := [.lit (.bool true)], args := [d1, d2, d3] }
  | _ => none }
def bucketMostsRow : OpenClaim := { program := "ytlcnemkbkbihhaa", sum := "63d7bf938e62b1877b054a669a1c4c202e5e3a29b536d50da8529ad231f90b6c", func := "linchpin/linchpinlaw12.BucketMosts", spec := "bucketMosts", apart := false }
def BucketMostsSaid : Prop := bucketMostsRow.holds Try.pinned (OpenSpec.ofChange bucketMostsSpec)

/-- ITS FALSE NEIGHBOUR: 'it returns false'. Refute it at one input. -/
def bucketMostsWrong : ChangeSpec := { name := "bucketMosts", fn := fun _ => fun
  | [d1, d2, d3] => { results := [.lit (.bool false)], args := [d1, d2, d3] }
  | _ => none }
def BucketMostsWrongFalsely : Prop := bucketMostsRow.holds Try.pinned (OpenSpec.ofChange bucketMostsWrong)

/-- 'linchpinlaw12.BucketApart': WHATEVER THE INPUT: true; the input reads as it did. -/
def bucketApartSpec : ChangeSpec := { name := "bucketApart", fn := fun _ => fun
  | [d1, d2] => { results := [.lit (.bool true)], args := [d1, d2] }
  | _ => none }
def bucketApartRow : OpenClaim := { program := "ytlcnemkbkbihhaa", sum := "63d7bf938e62b1877b054a669a1c4c202e5e3a29b536d50da8529ad231f90b6c", func := "linchpin/linchpinlaw12.BucketApart", spec := "bucketApart", apart := false }
def BucketApartSaid : Prop := bucketApartRow.holds Try.pinned (OpenSpec.ofChange bucketApartSpec)

/-- ITS FALSE NEIGHBOUR: 'it returns false'. Refute it at one input. -/
def bucketApartWrong : ChangeSpec := { name := "bucketApart", fn := fun _ => fun
  | [d1, d2] => { results := [.lit (.bool false)], args := [d1, d2] }
  | _ => none }
def BucketApartWrongFalsely : Prop := bucketApartRow.holds Try.pinned (OpenSpec.ofChange bucketApartWrong)

/- THE SECOND FORM. 'bulk': how many values and letters a reading holds, each counted each time it is reached (what is shared counts as often as it is met; a slice's spare places count too). A statement '..UptoSaid' is the law's where the arguments, and the package variables that the reading takes, are together of bulk at most 1048576: NARROWER than '..Said'. Prove '..Said' where nothing that the law and all that it calls make is longer than what came in: it says more and counts as full. Else prove '..UptoSaid'. A law counts once. -/
mutual
def uptoBulk {H : Type} : DataW H → Nat
  | .lit (.string bytes) => bytes.length + 1
  | .lit _ => 1
  | .nil => 1
  | .ptr d => uptoBulk d + 1
  | .slice elems spare => uptoBulkAll elems + uptoBulkAll spare + 1
  | .agg parts => uptoBulkAll parts + 1
  | .iface _ d => uptoBulk d + 1
  | .map entries => uptoBulkEntries entries + 1
  | .held _ => 1
def uptoBulkAll {H : Type} : List (DataW H) → Nat
  | [] => 0
  | d :: r => uptoBulk d + uptoBulkAll r
def uptoBulkEntries {H : Type} : List (Lit × DataW H) → Nat
  | [] => 0
  | x :: r => uptoBulkEntry x + uptoBulkEntries r
def uptoBulkEntry {H : Type} : Lit × DataW H → Nat
  | (.string bytes, d) => bytes.length + uptoBulk d + 1
  | (_, d) => uptoBulk d + 1
 end
def uptoSmall : (H : Type) → List (DataW H) → Bool := fun _ ds => decide (uptoBulkAll ds ≤ 1048576)
def OpenSpec.upto (s : _root_.Go.ChangeSpec) : _root_.Go.OpenSpec := { _root_.Go.OpenSpec.ofChange s with cond := some uptoSmall }

/-- 'linchpinlaw12.BucketMost', WHERE WHAT IT READS IS OF BULK AT MOST 1048576: true; the input reads as it did. -/
def bucketMostUptoRow : OpenClaim := { program := "ytlcnemkbkbihhaa", sum := "63d7bf938e62b1877b054a669a1c4c202e5e3a29b536d50da8529ad231f90b6c", func := "linchpin/linchpinlaw12.BucketMost", spec := "bucketMost", apart := false, narrowed := true }
def BucketMostUptoSaid : Prop := bucketMostUptoRow.holds Try.pinned (OpenSpec.upto bucketMostSpec)

/-- 'linchpinlaw12.BucketWaits', WHERE WHAT IT READS IS OF BULK AT MOST 1048576: true; the input reads as it did. -/
def bucketWaitsUptoRow : OpenClaim := { program := "ytlcnemkbkbihhaa", sum := "63d7bf938e62b1877b054a669a1c4c202e5e3a29b536d50da8529ad231f90b6c", func := "linchpin/linchpinlaw12.BucketWaits", spec := "bucketWaits", apart := false, narrowed := true }
def BucketWaitsUptoSaid : Prop := bucketWaitsUptoRow.holds Try.pinned (OpenSpec.upto bucketWaitsSpec)

/-- 'linchpinlaw12.BucketFills', WHERE WHAT IT READS IS OF BULK AT MOST 1048576: true; the input reads as it did. -/
def bucketFillsUptoRow : OpenClaim := { program := "ytlcnemkbkbihhaa", sum := "63d7bf938e62b1877b054a669a1c4c202e5e3a29b536d50da8529ad231f90b6c", func := "linchpin/linchpinlaw12.BucketFills", spec := "bucketFills", apart := false, narrowed := true }
def BucketFillsUptoSaid : Prop := bucketFillsUptoRow.holds Try.pinned (OpenSpec.upto bucketFillsSpec)

/-- 'linchpinlaw12.BucketMosts', WHERE WHAT IT READS IS OF BULK AT MOST 1048576: true; the input reads as it did. -/
def bucketMostsUptoRow : OpenClaim := { program := "ytlcnemkbkbihhaa", sum := "63d7bf938e62b1877b054a669a1c4c202e5e3a29b536d50da8529ad231f90b6c", func := "linchpin/linchpinlaw12.BucketMosts", spec := "bucketMosts", apart := false, narrowed := true }
def BucketMostsUptoSaid : Prop := bucketMostsUptoRow.holds Try.pinned (OpenSpec.upto bucketMostsSpec)

/-- 'linchpinlaw12.BucketApart', WHERE WHAT IT READS IS OF BULK AT MOST 1048576: true; the input reads as it did. -/
def bucketApartUptoRow : OpenClaim := { program := "ytlcnemkbkbihhaa", sum := "63d7bf938e62b1877b054a669a1c4c202e5e3a29b536d50da8529ad231f90b6c", func := "linchpin/linchpinlaw12.BucketApart", spec := "bucketApart", apart := false, narrowed := true }
def BucketApartUptoSaid : Prop := bucketApartUptoRow.holds Try.pinned (OpenSpec.upto bucketApartSpec)

end Rows
end Go.Proofs.Ytlcnemkbkbihhaa
