/-
  No cell of these rows narrows 'for every input' (looked for: loops, veiled, ifaces, maps, wideKeys, modest, calm, conditions, laid).
  DERIVED. THE GIVEN ROWS OF THIS SEAT. 5 by the template 'for every input the law returns true; each argument reads behind the call as it read before'; 0 by the template 'total and deterministic' (their statements: YtjhocfebopclhaaTotals.lean).
  GIVEN WITH THE SEED: the statements are not yours to turn. If you find one false, say at which input.
  Laid BY PROGRAM, IN A SANDBOX (cutbox-rows.mjs): the forced cells as the released guide's own fill.sh prints them over the translation 4ccf9c3408e9ca8e… (all of the seat's roots in one cut). By AI agents, Wed Nov 11 2026. No macro, syntax, notation, axiom, sorry.
-/
import Derived.Test.YtjhocfebopclhaaChecked
import GoSem.Claim
import GoSem.ClaimJoined
import GoSem.ClaimMapViews
import Derived.JoinedTies
import Derived.KernelRfl
namespace Go.Proofs.Ytjhocfebopclhaa
/- THE CELL 'sum', in the pinned program and in every row, IS THE sha256 OF THE DUMP (.gsa) THAT YtjhocfebopclhaaProg.lean LOADS. Nothing in Lean hashes anything: it is a label: what it is worth is what the hold of that sum in a sandbox is worth. -/
noncomputable def Try.pinned : Pinned := { name := "ytjhocfebopclhaa", sum := "4ccf9c3408e9ca8e9ae29211456f46d02a5ea503a548b4a7c2a249cbb3f0a9e8", checked := Try.checked }
namespace Rows
def none {H : Type} : Left H := { results := [], args := [] }

/-- 'linchpinlaw05.SharePlays': WHATEVER THE INPUT: true; the input reads as it did. -/
def sharePlaysSpec : ChangeSpec := { name := "sharePlays", fn := fun _ => fun
  | [d1, d2, d3] => { results := [.lit (.bool true)], args := [d1, d2, d3] }
  | _ => none }
def sharePlaysRow : OpenClaim := { program := "ytjhocfebopclhaa", sum := "4ccf9c3408e9ca8e9ae29211456f46d02a5ea503a548b4a7c2a249cbb3f0a9e8", func := "linchpin/linchpinlaw05.SharePlays", spec := "sharePlays", unfollowed := true, recurses := true, apart := false }
def SharePlaysSaid : Prop := sharePlaysRow.holds Try.pinned (OpenSpec.ofChange sharePlaysSpec)

/-- ITS FALSE NEIGHBOUR: 'it returns false'. Refute it at one input. -/
def sharePlaysWrong : ChangeSpec := { name := "sharePlays", fn := fun _ => fun
  | [d1, d2, d3] => { results := [.lit (.bool false)], args := [d1, d2, d3] }
  | _ => none }
def SharePlaysWrongFalsely : Prop := sharePlaysRow.holds Try.pinned (OpenSpec.ofChange sharePlaysWrong)

/-- 'linchpinlaw05.ShareMost': WHATEVER THE INPUT: true; the input reads as it did. -/
def shareMostSpec : ChangeSpec := { name := "shareMost", fn := fun _ => fun
  | [d1, d2, d3] => { results := [.lit (.bool true)], args := [d1, d2, d3] }
  | _ => none }
def shareMostRow : OpenClaim := { program := "ytjhocfebopclhaa", sum := "4ccf9c3408e9ca8e9ae29211456f46d02a5ea503a548b4a7c2a249cbb3f0a9e8", func := "linchpin/linchpinlaw05.ShareMost", spec := "shareMost", unfollowed := true, recurses := true, apart := false }
def ShareMostSaid : Prop := shareMostRow.holds Try.pinned (OpenSpec.ofChange shareMostSpec)

/-- ITS FALSE NEIGHBOUR: 'it returns false'. Refute it at one input. -/
def shareMostWrong : ChangeSpec := { name := "shareMost", fn := fun _ => fun
  | [d1, d2, d3] => { results := [.lit (.bool false)], args := [d1, d2, d3] }
  | _ => none }
def ShareMostWrongFalsely : Prop := shareMostRow.holds Try.pinned (OpenSpec.ofChange shareMostWrong)

/-- 'linchpinlaw05.ShareFresh': WHATEVER THE INPUT: true; the input reads as it did. -/
def shareFreshSpec : ChangeSpec := { name := "shareFresh", fn := fun _ => fun
  | [d1, d2, d3] => { results := [.lit (.bool true)], args := [d1, d2, d3] }
  | _ => none }
def shareFreshRow : OpenClaim := { program := "ytjhocfebopclhaa", sum := "4ccf9c3408e9ca8e9ae29211456f46d02a5ea503a548b4a7c2a249cbb3f0a9e8", func := "linchpin/linchpinlaw05.ShareFresh", spec := "shareFresh", unfollowed := true, recurses := true, apart := false }
def ShareFreshSaid : Prop := shareFreshRow.holds Try.pinned (OpenSpec.ofChange shareFreshSpec)

/-- ITS FALSE NEIGHBOUR: 'it returns false'. Refute it at one input. -/
def shareFreshWrong : ChangeSpec := { name := "shareFresh", fn := fun _ => fun
  | [d1, d2, d3] => { results := [.lit (.bool false)], args := [d1, d2, d3] }
  | _ => none }
def ShareFreshWrongFalsely : Prop := shareFreshRow.holds Try.pinned (OpenSpec.ofChange shareFreshWrong)

/-- 'linchpinlaw05.ShareGrows': WHATEVER THE INPUT: true; the input reads as it did. -/
def shareGrowsSpec : ChangeSpec := { name := "shareGrows", fn := fun _ => fun
  | [d1, d2, d3] => { results := [.lit (.bool true)], args := [d1, d2, d3] }
  | _ => none }
def shareGrowsRow : OpenClaim := { program := "ytjhocfebopclhaa", sum := "4ccf9c3408e9ca8e9ae29211456f46d02a5ea503a548b4a7c2a249cbb3f0a9e8", func := "linchpin/linchpinlaw05.ShareGrows", spec := "shareGrows", unfollowed := true, recurses := true, apart := false }
def ShareGrowsSaid : Prop := shareGrowsRow.holds Try.pinned (OpenSpec.ofChange shareGrowsSpec)

/-- ITS FALSE NEIGHBOUR: 'it returns false'. Refute it at one input. -/
def shareGrowsWrong : ChangeSpec := { name := "shareGrows", fn := fun _ => fun
  | [d1, d2, d3] => { results := [.lit (.bool false)], args := [d1, d2, d3] }
  | _ => none }
def ShareGrowsWrongFalsely : Prop := shareGrowsRow.holds Try.pinned (OpenSpec.ofChange shareGrowsWrong)

/-- 'linchpinlaw05.ShareWaits': WHATEVER THE INPUT: true; the input reads as it did. -/
def shareWaitsSpec : ChangeSpec := { name := "shareWaits", fn := fun _ => fun
  | [d1, d2] => { results := [.lit (.bool true)], args := [d1, d2] }
  | _ => none }
def shareWaitsRow : OpenClaim := { program := "ytjhocfebopclhaa", sum := "4ccf9c3408e9ca8e9ae29211456f46d02a5ea503a548b4a7c2a249cbb3f0a9e8", func := "linchpin/linchpinlaw05.ShareWaits", spec := "shareWaits", unfollowed := true, recurses := true, apart := false }
def ShareWaitsSaid : Prop := shareWaitsRow.holds Try.pinned (OpenSpec.ofChange shareWaitsSpec)

/-- ITS FALSE NEIGHBOUR: 'it returns false'. Refute it at one input. -/
def shareWaitsWrong : ChangeSpec := { name := "shareWaits", fn := fun _ => fun
  | [d1, d2] => { results := [.lit (.bool false)], args := [d1, d2] }
  | _ => none }
def ShareWaitsWrongFalsely : Prop := shareWaitsRow.holds Try.pinned (OpenSpec.ofChange shareWaitsWrong)

/- THE SECOND FORM. 'bulk': how many values and letters a reading holds, each counted each time it is reached (what is shared counts as often as it is met; a slice's spare places count too). A statement '..UptoSaid' is the law's where the arguments, and the package variables that the reading takes, are together of bulk at most 1048576: NARROWER than '..Said'. Prove '..Said' where nothing that the law and all that it calls make is longer than what came in: it says more and counts as full. Else prove '..UptoSaid'. A law counts once. -/
mutual
def uptoBulk {H : Type} : DataW H → Nat
  | .lit (.string bytes) => bytes.length + 1
  | .lit _ => 1
  | .nil => 1
  | .ptr d => uptoBulk d + 1
  | .slice elems spare => uptoBulkAll elems + uptoBulkAll spare + 1
  | .agg parts => uptoBulkAll parts + 1
  | .iface _ d => uptoBulk d + 1
  | .map entries => uptoBulkEntries entries + 1
  | .held _ => 1
def uptoBulkAll {H : Type} : List (DataW H) → Nat
  | [] => 0
  | d :: r => uptoBulk d + uptoBulkAll r
def uptoBulkEntries {H : Type} : List (Lit × DataW H) → Nat
  | [] => 0
  | x :: r => uptoBulkEntry x + uptoBulkEntries r
def uptoBulkEntry {H : Type} : Lit × DataW H → Nat
  | (.string bytes, d) => bytes.length + uptoBulk d + 1
  | (_, d) => uptoBulk d + 1
 end
def uptoSmall : (H : Type) → List (DataW H) → Bool := fun _ ds => decide (uptoBulkAll ds ≤ 1048576)
def OpenSpec.upto (s : _root_.Go.ChangeSpec) : _root_.Go.OpenSpec := { _root_.Go.OpenSpec.ofChange s with cond := some uptoSmall }

/-- 'linchpinlaw05.SharePlays', WHERE WHAT IT READS IS OF BULK AT MOST 1048576: true; the input reads as it did. -/
def sharePlaysUptoRow : OpenClaim := { program := "ytjhocfebopclhaa", sum := "4ccf9c3408e9ca8e9ae29211456f46d02a5ea503a548b4a7c2a249cbb3f0a9e8", func := "linchpin/linchpinlaw05.SharePlays", spec := "sharePlays", unfollowed := true, recurses := true, apart := false, narrowed := true }
def SharePlaysUptoSaid : Prop := sharePlaysUptoRow.holds Try.pinned (OpenSpec.upto sharePlaysSpec)

/-- 'linchpinlaw05.ShareMost', WHERE WHAT IT READS IS OF BULK AT MOST 1048576: true; the input reads as it did. -/
def shareMostUptoRow : OpenClaim := { program := "ytjhocfebopclhaa", sum := "4ccf9c3408e9ca8e9ae29211456f46d02a5ea503a548b4a7c2a249cbb3f0a9e8", func := "linchpin/linchpinlaw05.ShareMost", spec := "shareMost", unfollowed := true, recurses := true, apart := false, narrowed := true }
def ShareMostUptoSaid : Prop := shareMostUptoRow.holds Try.pinned (OpenSpec.upto shareMostSpec)

/-- 'linchpinlaw05.ShareFresh', WHERE WHAT IT READS IS OF BULK AT MOST 1048576: true; the input reads as it did. -/
def shareFreshUptoRow : OpenClaim := { program := "ytjhocfebopclhaa", sum := "4ccf9c3408e9ca8e9ae29211456f46d02a5ea503a548b4a7c2a249cbb3f0a9e8", func := "linchpin/linchpinlaw05.ShareFresh", spec := "shareFresh", unfollowed := true, recurses := true, apart := false, narrowed := true }
def ShareFreshUptoSaid : Prop := shareFreshUptoRow.holds Try.pinned (OpenSpec.upto shareFreshSpec)

/-- 'linchpinlaw05.ShareGrows', WHERE WHAT IT READS IS OF BULK AT MOST 1048576: true; the input reads as it did. -/
def shareGrowsUptoRow : OpenClaim := { program := "ytjhocfebopclhaa", sum := "4ccf9c3408e9ca8e9ae29211456f46d02a5ea503a548b4a7c2a249cbb3f0a9e8", func := "linchpin/linchpinlaw05.ShareGrows", spec := "shareGrows", unfollowed := true, recurses := true, apart := false, narrowed := true }
def ShareGrowsUptoSaid : Prop := shareGrowsUptoRow.holds Try.pinned (OpenSpec.upto shareGrowsSpec)

/-- 'linchpinlaw05.ShareWaits', WHERE WHAT IT READS IS OF BULK AT MOST 1048576: true; the input reads as it did. -/
def shareWaitsUptoRow : OpenClaim := { program := "ytjhocfebopclhaa", sum := "4ccf9c3408e9ca8e9ae29211456f46d02a5ea503a548b4a7c2a249cbb3f0a9e8", func := "linchpin/linchpinlaw05.ShareWaits", spec := "shareWaits", unfollowed := true, recurses := true, apart := false, narrowed := true }
def ShareWaitsUptoSaid : Prop := shareWaitsUptoRow.holds Try.pinned (OpenSpec.upto shareWaitsSpec)

end Rows
end Go.Proofs.Ytjhocfebopclhaa
