/-
  No cell of these rows narrows 'for every input' (looked for: loops, veiled, ifaces, maps, wideKeys, modest, calm, conditions, laid).
  DERIVED. THE GIVEN ROWS OF THIS SEAT. 5 by the template 'for every input the law returns true; each argument reads behind the call as it read before'; 0 by the template 'total and deterministic' (their statements: YtbhpdljfkcdnbaaTotals.lean).
  GIVEN WITH THE SEED: the statements are not yours to turn. If you find one false, say at which input.
  Laid BY PROGRAM, IN A SANDBOX (cutbox-rows.mjs): the forced cells as the released guide's own fill.sh prints them over the translation f9686149bba6f289… (all of the seat's roots in one cut). By AI agents, Wed Nov 11 2026. No macro, syntax, notation, axiom, sorry.
-/
import Derived.Test.YtbhpdljfkcdnbaaChecked
import GoSem.Claim
import GoSem.ClaimJoined
import GoSem.ClaimMapViews
import Derived.JoinedTies
import Derived.KernelRfl
namespace Go.Proofs.Ytbhpdljfkcdnbaa
/- THE CELL 'sum', in the pinned program and in every row, IS THE sha256 OF THE DUMP (.gsa) THAT YtbhpdljfkcdnbaaProg.lean LOADS. Nothing in Lean hashes anything: it is a label: what it is worth is what the hold of that sum in a sandbox is worth. -/
noncomputable def Try.pinned : Pinned := { name := "ytbhpdljfkcdnbaa", sum := "f9686149bba6f289f0d7b296761c52a95c3aaaa31ef7298bb00d9ba5eee3c3e4", checked := Try.checked }
namespace Rows
def none {H : Type} : Left H := { results := [], args := [] }

/-- 'linchpinlaw07.PoolGets': WHATEVER THE INPUT: true; the input reads as it did. -/
def poolGetsSpec : ChangeSpec := { name := "poolGets", fn := fun _ => fun
  | [d1, d2] => { results := [.lit (.bool true)], args := [d1, d2] }
  | _ => none }
def poolGetsRow : OpenClaim := { program := "ytbhpdljfkcdnbaa", sum := "f9686149bba6f289f0d7b296761c52a95c3aaaa31ef7298bb00d9ba5eee3c3e4", func := "linchpin/linchpinlaw07.PoolGets", spec := "poolGets", unfollowed := true, recurses := true, apart := false }
def PoolGetsSaid : Prop := poolGetsRow.holds Try.pinned (OpenSpec.ofChange poolGetsSpec)

/-- ITS FALSE NEIGHBOUR: 'it returns false'. Refute it at one input. -/
def poolGetsWrong : ChangeSpec := { name := "poolGets", fn := fun _ => fun
  | [d1, d2] => { results := [.lit (.bool false)], args := [d1, d2] }
  | _ => none }
def PoolGetsWrongFalsely : Prop := poolGetsRow.holds Try.pinned (OpenSpec.ofChange poolGetsWrong)

/-- 'linchpinlaw07.PoolBytes': WHATEVER THE INPUT: true; the input reads as it did. -/
def poolBytesSpec : ChangeSpec := { name := "poolBytes", fn := fun _ => fun
  | [d1, d2, d3] => { results := [.lit (.bool true)], args := [d1, d2, d3] }
  | _ => none }
def poolBytesRow : OpenClaim := { program := "ytbhpdljfkcdnbaa", sum := "f9686149bba6f289f0d7b296761c52a95c3aaaa31ef7298bb00d9ba5eee3c3e4", func := "linchpin/linchpinlaw07.PoolBytes", spec := "poolBytes", unfollowed := true, recurses := true, apart := false }
def PoolBytesSaid : Prop := poolBytesRow.holds Try.pinned (OpenSpec.ofChange poolBytesSpec)

/-- ITS FALSE NEIGHBOUR: 'it returns false'. Refute it at one input. -/
def poolBytesWrong : ChangeSpec := { name := "poolBytes", fn := fun _ => fun
  | [d1, d2, d3] => { results := [.lit (.bool false)], args := [d1, d2, d3] }
  | _ => none }
def PoolBytesWrongFalsely : Prop := poolBytesRow.holds Try.pinned (OpenSpec.ofChange poolBytesWrong)

/-- 'linchpinlaw07.PoolOwners': WHATEVER THE INPUT: true; the input reads as it did. -/
def poolOwnersSpec : ChangeSpec := { name := "poolOwners", fn := fun _ => fun
  | [d] => { results := [.lit (.bool true)], args := [d] }
  | _ => none }
def poolOwnersRow : OpenClaim := { program := "ytbhpdljfkcdnbaa", sum := "f9686149bba6f289f0d7b296761c52a95c3aaaa31ef7298bb00d9ba5eee3c3e4", func := "linchpin/linchpinlaw07.PoolOwners", spec := "poolOwners", unfollowed := true, recurses := true, apart := false }
def PoolOwnersSaid : Prop := poolOwnersRow.holds Try.pinned (OpenSpec.ofChange poolOwnersSpec)

/-- ITS FALSE NEIGHBOUR: 'it returns false'. Refute it at one input. -/
def poolOwnersWrong : ChangeSpec := { name := "poolOwners", fn := fun _ => fun
  | [d] => { results := [.lit (.bool false)], args := [d] }
  | _ => none }
def PoolOwnersWrongFalsely : Prop := poolOwnersRow.holds Try.pinned (OpenSpec.ofChange poolOwnersWrong)

/-- 'linchpinlaw07.PoolShares': WHATEVER THE INPUT: true; the input reads as it did. -/
def poolSharesSpec : ChangeSpec := { name := "poolShares", fn := fun _ => fun
  | [d1, d2] => { results := [.lit (.bool true)], args := [d1, d2] }
  | _ => none }
def poolSharesRow : OpenClaim := { program := "ytbhpdljfkcdnbaa", sum := "f9686149bba6f289f0d7b296761c52a95c3aaaa31ef7298bb00d9ba5eee3c3e4", func := "linchpin/linchpinlaw07.PoolShares", spec := "poolShares", unfollowed := true, recurses := true, apart := false }
def PoolSharesSaid : Prop := poolSharesRow.holds Try.pinned (OpenSpec.ofChange poolSharesSpec)

/-- ITS FALSE NEIGHBOUR: 'it returns false'. Refute it at one input. -/
def poolSharesWrong : ChangeSpec := { name := "poolShares", fn := fun _ => fun
  | [d1, d2] => { results := [.lit (.bool false)], args := [d1, d2] }
  | _ => none }
def PoolSharesWrongFalsely : Prop := poolSharesRow.holds Try.pinned (OpenSpec.ofChange poolSharesWrong)

/-- 'linchpinlaw07.PoolReturns': WHATEVER THE INPUT: true; the input reads as it did. -/
def poolReturnsSpec : ChangeSpec := { name := "poolReturns", fn := fun _ => fun
  | [d1, d2] => { results := [.lit (.bool true)], args := [d1, d2] }
  | _ => none }
def poolReturnsRow : OpenClaim := { program := "ytbhpdljfkcdnbaa", sum := "f9686149bba6f289f0d7b296761c52a95c3aaaa31ef7298bb00d9ba5eee3c3e4", func := "linchpin/linchpinlaw07.PoolReturns", spec := "poolReturns", unfollowed := true, recurses := true, apart := false }
def PoolReturnsSaid : Prop := poolReturnsRow.holds Try.pinned (OpenSpec.ofChange poolReturnsSpec)

/-- ITS FALSE NEIGHBOUR: 'it returns false'. Refute it at one input. -/
def poolReturnsWrong : ChangeSpec := { name := "poolReturns", fn := fun _ => fun
  | [d1, d2] => { results := [.lit (.bool false)], args := [d1, d2] }
  | _ => none }
def PoolReturnsWrongFalsely : Prop := poolReturnsRow.holds Try.pinned (OpenSpec.ofChange poolReturnsWrong)

/- THE SECOND FORM. 'bulk': how many values and letters a reading holds, each counted each time it is reached (what is shared counts as often as it is met; a slice's spare places count too). A statement '..UptoSaid' is the law's where the arguments, and the package variables that the reading takes, are together of bulk at most 1048576: NARROWER than '..Said'. Prove '..Said' where nothing that the law and all that it calls make is longer than what came in: it says more and counts as full. Else prove '..UptoSaid'. A law counts once. -/
mutual
def uptoBulk {H : Type} : DataW H → Nat
  | .lit (.string bytes) => bytes.length + 1
  | .lit _ => 1
  | .nil => 1
  | .ptr d => uptoBulk d + 1
  | .slice elems spare => uptoBulkAll elems + uptoBulkAll spare + 1
  | .agg parts => uptoBulkAll parts + 1
  | .iface _ d => uptoBulk d + 1
  | .map entries => uptoBulkEntries entries + 1
  | .held _ => 1
def uptoBulkAll {H : Type} : List (DataW H) → Nat
  | [] => 0
  | d :: r => uptoBulk d + uptoBulkAll r
def uptoBulkEntries {H : Type} : List (Lit × DataW H) → Nat
  | [] => 0
  | x :: r => uptoBulkEntry x + uptoBulkEntries r
def uptoBulkEntry {H : Type} : Lit × DataW H → Nat
  | (.string bytes, d) => bytes.length + uptoBulk d + 1
  | (_, d) => uptoBulk d + 1
 end
def uptoSmall : (H : Type) → List (DataW H) → Bool := fun _ ds => decide (uptoBulkAll ds ≤ 1048576)
def OpenSpec.upto (s : _root_.Go.ChangeSpec) : _root_.Go.OpenSpec := { _root_.Go.OpenSpec.ofChange s with cond := some uptoSmall }

/-- 'linchpinlaw07.PoolGets', WHERE WHAT IT READS IS OF BULK AT MOST 1048576: true; the input reads as it did. -/
def poolGetsUptoRow : OpenClaim := { program := "ytbhpdljfkcdnbaa", sum := "f9686149bba6f289f0d7b296761c52a95c3aaaa31ef7298bb00d9ba5eee3c3e4", func := "linchpin/linchpinlaw07.PoolGets", spec := "poolGets", unfollowed := true, recurses := true, apart := false, narrowed := true }
def PoolGetsUptoSaid : Prop := poolGetsUptoRow.holds Try.pinned (OpenSpec.upto poolGetsSpec)

/-- 'linchpinlaw07.PoolBytes', WHERE WHAT IT READS IS OF BULK AT MOST 1048576: true; the input reads as it did. -/
def poolBytesUptoRow : OpenClaim := { program := "ytbhpdljfkcdnbaa", sum := "f9686149bba6f289f0d7b296761c52a95c3aaaa31ef7298bb00d9ba5eee3c3e4", func := "linchpin/linchpinlaw07.PoolBytes", spec := "poolBytes", unfollowed := true, recurses := true, apart := false, narrowed := true }
def PoolBytesUptoSaid : Prop := poolBytesUptoRow.holds Try.pinned (OpenSpec.upto poolBytesSpec)

/-- 'linchpinlaw07.PoolOwners', WHERE WHAT IT READS IS OF BULK AT MOST 1048576: true; the input reads as it did. -/
def poolOwnersUptoRow : OpenClaim := { program := "ytbhpdljfkcdnbaa", sum := "f9686149bba6f289f0d7b296761c52a95c3aaaa31ef7298bb00d9ba5eee3c3e4", func := "linchpin/linchpinlaw07.PoolOwners", spec := "poolOwners", unfollowed := true, recurses := true, apart := false, narrowed := true }
def PoolOwnersUptoSaid : Prop := poolOwnersUptoRow.holds Try.pinned (OpenSpec.upto poolOwnersSpec)

/-- 'linchpinlaw07.PoolShares', WHERE WHAT IT READS IS OF BULK AT MOST 1048576: true; the input reads as it did. -/
def poolSharesUptoRow : OpenClaim := { program := "ytbhpdljfkcdnbaa", sum := "f9686149bba6f289f0d7b296761c52a95c3aaaa31ef7298bb00d9ba5eee3c3e4", func := "linchpin/linchpinlaw07.PoolShares", spec := "poolShares", unfollowed := true, recurses := true, apart := false, narrowed := true }
def PoolSharesUptoSaid : Prop := poolSharesUptoRow.holds Try.pinned (OpenSpec.upto poolSharesSpec)

/-- 'linchpinlaw07.PoolReturns', WHERE WHAT IT READS IS OF BULK AT MOST 1048576: true; the input reads as it did. -/
def poolReturnsUptoRow : OpenClaim := { program := "ytbhpdljfkcdnbaa", sum := "f9686149bba6f289f0d7b296761c52a95c3aaaa31ef7298bb00d9ba5eee3c3e4", func := "linchpin/linchpinlaw07.PoolReturns", spec := "poolReturns", unfollowed := true, recurses := true, apart := false, narrowed := true }
def PoolReturnsUptoSaid : Prop := poolReturnsUptoRow.holds Try.pinned (OpenSpec.upto poolReturnsSpec)

end Rows
end Go.Proofs.Ytbhpdljfkcdnbaa
