/-
  No cell of these rows narrows 'for every input' (looked for: loops, veiled, ifaces, maps, wideKeys, modest, calm, conditions, laid).
  DERIVED. THE GIVEN ROWS OF THIS SEAT. 4 by the template 'for every input the law returns true; each argument reads behind the call as it read before'; 0 by the template 'total and deterministic' (their statements: YthmcgbjkbcogkaaTotals.lean).
  GIVEN WITH THE SEED: the statements are not yours to turn. If you find one false, say at which input.
  Laid BY PROGRAM, IN A SANDBOX (cutbox-rows.mjs): the forced cells as the released guide's own fill.sh prints them over the translation baaaaab256b229b2… (all of the seat's roots in one cut). By AI agents, Wed Nov 11 2026. No macro, syntax, notation, axiom, sorry.
-/
import Derived.Test.YthmcgbjkbcogkaaChecked
import GoSem.Claim
import GoSem.ClaimJoined
import GoSem.ClaimMapViews
import Derived.JoinedTies
import Derived.KernelRfl
namespace Go.Proofs.Ythmcgbjkbcogkaa
/- THE CELL 'sum', in the pinned program and in every row, IS THE sha256 OF THE DUMP (.gsa) THAT YthmcgbjkbcogkaaProg.lean LOADS. Nothing in Lean hashes anything: it is a label: what it is worth is what the hold of that sum in a sandbox is worth. -/
noncomputable def Try.pinned : Pinned := { name := "ythmcgbjkbcogkaa", sum := "baaaaab256b229b2834185384bc4ac00d43da9252e43ce9c3c699e0bb394a0e7", checked := Try.checked }
namespace Rows
def none {H : Type} : Left H := { results := [], args := [] }

/-- 'linchpinlaw23.LockCeils': WHATEVER THE INPUT: true; the input reads as it did. -/
def lockCeilsSpec : ChangeSpec := { name := "lockCeils", fn := fun _ => fun
  | [d1, d2, d3] => { results := [.lit (.bool true)], args := [d1, d2, d3] }
  | _ => none }
def lockCeilsRow : OpenClaim := { program := "ythmcgbjkbcogkaa", sum := "baaaaab256b229b2834185384bc4ac00d43da9252e43ce9c3c699e0bb394a0e7", func := "linchpin/linchpinlaw23.LockCeils", spec := "lockCeils", unfollowed := true, recurses := true, apart := false }
def LockCeilsSaid : Prop := lockCeilsRow.holds Try.pinned (OpenSpec.ofChange lockCeilsSpec)

/-- ITS FALSE NEIGHBOUR: 'it returns false'. Refute it at one input. -/
def lockCeilsWrong : ChangeSpec := { name := "lockCeils", fn := fun _ => fun
  | [d1, d2, d3] => { results := [.lit (.bool false)], args := [d1, d2, d3] }
  | _ => none }
def LockCeilsWrongFalsely : Prop := lockCeilsRow.holds Try.pinned (OpenSpec.ofChange lockCeilsWrong)

/-- 'linchpinlaw23.LockNests': WHATEVER THE INPUT: true; the input reads as it did. -/
def lockNestsSpec : ChangeSpec := { name := "lockNests", fn := fun _ => fun
  | [d1, d2] => { results := [.lit (.bool true)], args := [d1, d2] }
  | _ => none }
def lockNestsRow : OpenClaim := { program := "ythmcgbjkbcogkaa", sum := "baaaaab256b229b2834185384bc4ac00d43da9252e43ce9c3c699e0bb394a0e7", func := "linchpin/linchpinlaw23.LockNests", spec := "lockNests", unfollowed := true, recurses := true, apart := false }
def LockNestsSaid : Prop := lockNestsRow.holds Try.pinned (OpenSpec.ofChange lockNestsSpec)

/-- ITS FALSE NEIGHBOUR: 'it returns false'. Refute it at one input. -/
def lockNestsWrong : ChangeSpec := { name := "lockNests", fn := fun _ => fun
  | [d1, d2] => { results := [.lit (.bool false)], args := [d1, d2] }
  | _ => none }
def LockNestsWrongFalsely : Prop := lockNestsRow.holds Try.pinned (OpenSpec.ofChange lockNestsWrong)

/-- 'linchpinlaw23.LockGone': WHATEVER THE INPUT: true; the input reads as it did. -/
def lockGoneSpec : ChangeSpec := { name := "lockGone", fn := fun _ => fun
  | [d1, d2] => { results := [.lit (.bool true)], args := [d1, d2] }
  | _ => none }
def lockGoneRow : OpenClaim := { program := "ythmcgbjkbcogkaa", sum := "baaaaab256b229b2834185384bc4ac00d43da9252e43ce9c3c699e0bb394a0e7", func := "linchpin/linchpinlaw23.LockGone", spec := "lockGone", unfollowed := true, recurses := true, apart := false }
def LockGoneSaid : Prop := lockGoneRow.holds Try.pinned (OpenSpec.ofChange lockGoneSpec)

/-- ITS FALSE NEIGHBOUR: 'it returns false'. Refute it at one input. -/
def lockGoneWrong : ChangeSpec := { name := "lockGone", fn := fun _ => fun
  | [d1, d2] => { results := [.lit (.bool false)], args := [d1, d2] }
  | _ => none }
def LockGoneWrongFalsely : Prop := lockGoneRow.holds Try.pinned (OpenSpec.ofChange lockGoneWrong)

/-- 'linchpinlaw23.LockDenied': WHATEVER THE INPUT: true; the input reads as it did. -/
def lockDeniedSpec : ChangeSpec := { name := "lockDenied", fn := fun _ => fun
  | [d1, d2] => { results := [.lit (.bool true)], args := [d1, d2] }
  | _ => none }
def lockDeniedRow : OpenClaim := { program := "ythmcgbjkbcogkaa", sum := "baaaaab256b229b2834185384bc4ac00d43da9252e43ce9c3c699e0bb394a0e7", func := "linchpin/linchpinlaw23.LockDenied", spec := "lockDenied", unfollowed := true, recurses := true, apart := false }
def LockDeniedSaid : Prop := lockDeniedRow.holds Try.pinned (OpenSpec.ofChange lockDeniedSpec)

/-- ITS FALSE NEIGHBOUR: 'it returns false'. Refute it at one input. -/
def lockDeniedWrong : ChangeSpec := { name := "lockDenied", fn := fun _ => fun
  | [d1, d2] => { results := [.lit (.bool false)], args := [d1, d2] }
  | _ => none }
def LockDeniedWrongFalsely : Prop := lockDeniedRow.holds Try.pinned (OpenSpec.ofChange lockDeniedWrong)

/- THE SECOND FORM. 'bulk': how many values and letters a reading holds, each counted each time it is reached (what is shared counts as often as it is met; a slice's spare places count too). A statement '..UptoSaid' is the law's where the arguments, and the package variables that the reading takes, are together of bulk at most 1048576: NARROWER than '..Said'. Prove '..Said' where nothing that the law and all that it calls make is longer than what came in: it says more and counts as full. Else prove '..UptoSaid'. A law counts once. -/
mutual
def uptoBulk {H : Type} : DataW H → Nat
  | .lit (.string bytes) => bytes.length + 1
  | .lit _ => 1
  | .nil => 1
  | .ptr d => uptoBulk d + 1
  | .slice elems spare => uptoBulkAll elems + uptoBulkAll spare + 1
  | .agg parts => uptoBulkAll parts + 1
  | .iface _ d => uptoBulk d + 1
  | .map entries => uptoBulkEntries entries + 1
  | .held _ => 1
def uptoBulkAll {H : Type} : List (DataW H) → Nat
  | [] => 0
  | d :: r => uptoBulk d + uptoBulkAll r
def uptoBulkEntries {H : Type} : List (Lit × DataW H) → Nat
  | [] => 0
  | x :: r => uptoBulkEntry x + uptoBulkEntries r
def uptoBulkEntry {H : Type} : Lit × DataW H → Nat
  | (.string bytes, d) => bytes.length + uptoBulk d + 1
  | (_, d) => uptoBulk d + 1
 end
def uptoSmall : (H : Type) → List (DataW H) → Bool := fun _ ds => decide (uptoBulkAll ds ≤ 1048576)
def OpenSpec.upto (s : _root_.Go.ChangeSpec) : _root_.Go.OpenSpec := { _root_.Go.OpenSpec.ofChange s with cond := some uptoSmall }

/-- 'linchpinlaw23.LockCeils', WHERE WHAT IT READS IS OF BULK AT MOST 1048576: true; the input reads as it did. -/
def lockCeilsUptoRow : OpenClaim := { program := "ythmcgbjkbcogkaa", sum := "baaaaab256b229b2834185384bc4ac00d43da9252e43ce9c3c699e0bb394a0e7", func := "linchpin/linchpinlaw23.LockCeils", spec := "lockCeils", unfollowed := true, recurses := true, apart := false, narrowed := true }
def LockCeilsUptoSaid : Prop := lockCeilsUptoRow.holds Try.pinned (OpenSpec.upto lockCeilsSpec)

/-- 'linchpinlaw23.LockNests', WHERE WHAT IT READS IS OF BULK AT MOST 1048576: true; the input reads as it did. -/
def lockNestsUptoRow : OpenClaim := { program := "ythmcgbjkbcogkaa", sum := "baaaaab256b229b2834185384bc4ac00d43da9252e43ce9c3c699e0bb394a0e7", func := "linchpin/linchpinlaw23.LockNests", spec := "lockNests", unfollowed := true, recurses := true, apart := false, narrowed := true }
def LockNestsUptoSaid : Prop := lockNestsUptoRow.holds Try.pinned (OpenSpec.upto lockNestsSpec)

/-- 'linchpinlaw23.LockGone', WHERE WHAT IT READS IS OF BULK AT MOST 1048576: true; the input reads as it did. -/
def lockGoneUptoRow : OpenClaim := { program := "ythmcgbjkbcogkaa", sum := "baaaaab256b229b2834185384bc4ac00d43da9252e43ce9c3c699e0bb394a0e7", func := "linchpin/linchpinlaw23.LockGone", spec := "lockGone", unfollowed := true, recurses := true, apart := false, narrowed := true }
def LockGoneUptoSaid : Prop := lockGoneUptoRow.holds Try.pinned (OpenSpec.upto lockGoneSpec)

/-- 'linchpinlaw23.LockDenied', WHERE WHAT IT READS IS OF BULK AT MOST 1048576: true; the input reads as it did. -/
def lockDeniedUptoRow : OpenClaim := { program := "ythmcgbjkbcogkaa", sum := "baaaaab256b229b2834185384bc4ac00d43da9252e43ce9c3c699e0bb394a0e7", func := "linchpin/linchpinlaw23.LockDenied", spec := "lockDenied", unfollowed := true, recurses := true, apart := false, narrowed := true }
def LockDeniedUptoSaid : Prop := lockDeniedUptoRow.holds Try.pinned (OpenSpec.upto lockDeniedSpec)

end Rows
end Go.Proofs.Ythmcgbjkbcogkaa
