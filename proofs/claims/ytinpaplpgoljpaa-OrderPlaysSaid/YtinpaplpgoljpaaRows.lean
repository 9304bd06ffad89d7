/-
  No cell of these rows narrows 'for every input' (looked for: loops, veiled, ifaces, maps, wideKeys, modest, calm, conditions, laid).
  DERIVED. THE GIVEN ROWS OF THIS SEAT. 6 by the template 'for every input the law returns true; each argument reads behind the call as it read before'; 0 by the template 'total and deterministic' (their statements: YtinpaplpgoljpaaTotals.lean).
  GIVEN WITH THE SEED: the statements are not yours to turn. If you find one false, say at which input.
  Laid BY PROGRAM, IN A SANDBOX (cutbox-rows.mjs): the forced cells as the released guide's own fill.sh prints them over the translation 1e7198e499b9706d… (all of the seat's roots in one cut). By AI agents, Wed Nov 11 2026. No macro, syntax, notation, axiom, sorry.
-/
import Derived.Test.YtinpaplpgoljpaaChecked
import GoSem.Claim
import GoSem.ClaimJoined
import GoSem.ClaimMapViews
import Derived.JoinedTies
import Derived.KernelRfl
namespace Go.Proofs.Ytinpaplpgoljpaa
/- THE CELL 'sum', in the pinned program and in every row, IS THE sha256 OF THE DUMP (.gsa) THAT YtinpaplpgoljpaaProg.lean LOADS. Nothing in Lean hashes anything: it is a label: what it is worth is what the hold of that sum in a sandbox is worth. -/
noncomputable def Try.pinned : Pinned := { name := "ytinpaplpgoljpaa", sum := "1e7198e499b9706deaf1569ebcd0cbbd6b2f256fa5d77e3ce79a8ae6680626d7", checked := Try.checked }
namespace Rows
def none {H : Type} : Left H := { results := [], args := [] }

/-- 'linchpinlaw18.OrderDrop': WHATEVER THE INPUT: true; the input reads as it did. -/
def orderDropSpec : ChangeSpec := { name := "orderDrop", fn := fun _ => fun
  | [d1, d2] => { results := [.lit (.bool true)], args := [d1, d2] }
  | _ => none }
def orderDropRow : OpenClaim := { program := "ytinpaplpgoljpaa", sum := "1e7198e499b9706deaf1569ebcd0cbbd6b2f256fa5d77e3ce79a8ae6680626d7", func := "linchpin/linchpinlaw18.OrderDrop", spec := "orderDrop", inPlace := ["slices.overlaps[linchpin/api.Want]"], unfollowed := true, recurses := true, apart := false }
def OrderDropSaid : Prop := orderDropRow.holds Try.pinned (OpenSpec.ofChange orderDropSpec)

/-- ITS FALSE NEIGHBOUR: 'it returns false'. Refute it at one input. -/
def orderDropWrong : ChangeSpec := { name := "orderDrop", fn := fun _ => fun
  | [d1, d2] => { results := [.lit (.bool false)], args := [d1, d2] }
  | _ => none }
def OrderDropWrongFalsely : Prop := orderDropRow.holds Try.pinned (OpenSpec.ofChange orderDropWrong)

/-- 'linchpinlaw18.OrderSweep': WHATEVER THE INPUT: true; the input reads as it did. -/
def orderSweepSpec : ChangeSpec := { name := "orderSweep", fn := fun _ => fun
  | [d1, d2] => { results := [.lit (.bool true)], args := [d1, d2] }
  | _ => none }
def orderSweepRow : OpenClaim := { program := "ytinpaplpgoljpaa", sum := "1e7198e499b9706deaf1569ebcd0cbbd6b2f256fa5d77e3ce79a8ae6680626d7", func := "linchpin/linchpinlaw18.OrderSweep", spec := "orderSweep", inPlace := ["slices.overlaps[linchpin/api.Want]"], unfollowed := true, recurses := true, apart := false }
def OrderSweepSaid : Prop := orderSweepRow.holds Try.pinned (OpenSpec.ofChange orderSweepSpec)

/-- ITS FALSE NEIGHBOUR: 'it returns false'. Refute it at one input. -/
def orderSweepWrong : ChangeSpec := { name := "orderSweep", fn := fun _ => fun
  | [d1, d2] => { results := [.lit (.bool false)], args := [d1, d2] }
  | _ => none }
def OrderSweepWrongFalsely : Prop := orderSweepRow.holds Try.pinned (OpenSpec.ofChange orderSweepWrong)

/-- 'linchpinlaw18.OrderEarly': WHATEVER THE INPUT: true; the input reads as it did. -/
def orderEarlySpec : ChangeSpec := { name := "orderEarly", fn := fun _ => fun
  | [d1, d2] => { results := [.lit (.bool true)], args := [d1, d2] }
  | _ => none }
def orderEarlyRow : OpenClaim := { program := "ytinpaplpgoljpaa", sum := "1e7198e499b9706deaf1569ebcd0cbbd6b2f256fa5d77e3ce79a8ae6680626d7", func := "linchpin/linchpinlaw18.OrderEarly", spec := "orderEarly", inPlace := ["slices.overlaps[linchpin/api.Want]"], unfollowed := true, recurses := true, apart := false }
def OrderEarlySaid : Prop := orderEarlyRow.holds Try.pinned (OpenSpec.ofChange orderEarlySpec)

/-- ITS FALSE NEIGHBOUR: 'it returns false'. Refute it at one input. -/
def orderEarlyWrong : ChangeSpec := { name := "orderEarly", fn := fun _ => fun
  | [d1, d2] => { results := [.lit (.bool false)], args := [d1, d2] }
  | _ => none }
def OrderEarlyWrongFalsely : Prop := orderEarlyRow.holds Try.pinned (OpenSpec.ofChange orderEarlyWrong)

/-- 'linchpinlaw18.OrderPlays': WHATEVER THE INPUT: true; the input reads as it did. -/
def orderPlaysSpec : ChangeSpec := { name := "orderPlays", fn := fun _ => fun
  | [d] => { results := [.lit (.bool true)], args := [d] }
  | _ => none }
def orderPlaysRow : OpenClaim := { program := "ytinpaplpgoljpaa", sum := "1e7198e499b9706deaf1569ebcd0cbbd6b2f256fa5d77e3ce79a8ae6680626d7", func := "linchpin/linchpinlaw18.OrderPlays", spec := "orderPlays", inPlace := ["slices.overlaps[linchpin/api.Want]"], unfollowed := true, recurses := true, apart := false }
def OrderPlaysSaid : Prop := orderPlaysRow.holds Try.pinned (OpenSpec.ofChange orderPlaysSpec)

/-- ITS FALSE NEIGHBOUR: 'it returns false'. Refute it at one input. -/
def orderPlaysWrong : ChangeSpec := { name := "orderPlays", fn := fun _ => fun
  | [d] => { results := [.lit (.bool false)], args := [d] }
  | _ => none }
def OrderPlaysWrongFalsely : Prop := orderPlaysRow.holds Try.pinned (OpenSpec.ofChange orderPlaysWrong)

/-- 'linchpinlaw18.OrderTimes': WHATEVER THE INPUT: true; the input reads as it did. -/
def orderTimesSpec : ChangeSpec := { name := "orderTimes", fn := fun _ => fun
  | [d] => { results := [.lit (.bool true)], args := [d] }
  | _ => none }
def orderTimesRow : OpenClaim := { program := "ytinpaplpgoljpaa", sum := "1e7198e499b9706deaf1569ebcd0cbbd6b2f256fa5d77e3ce79a8ae6680626d7", func := "linchpin/linchpinlaw18.OrderTimes", spec := "orderTimes", inPlace := ["slices.overlaps[linchpin/api.Want]"], unfollowed := true, recurses := true, apart := false }
def OrderTimesSaid : Prop := orderTimesRow.holds Try.pinned (OpenSpec.ofChange orderTimesSpec)

/-- ITS FALSE NEIGHBOUR: 'it returns false'. Refute it at one input. -/
def orderTimesWrong : ChangeSpec := { name := "orderTimes", fn := fun _ => fun
  | [d] => { results := [.lit (.bool false)], args := [d] }
  | _ => none }
def OrderTimesWrongFalsely : Prop := orderTimesRow.holds Try.pinned (OpenSpec.ofChange orderTimesWrong)

/-- 'linchpinlaw18.OrderAll': WHATEVER THE INPUT: true; the input reads as it did. -/
def orderAllSpec : ChangeSpec := { name := "orderAll", fn := fun _ => fun
  | [d] => { results := [.lit (.bool true)], args := [d] }
  | _ => none }
def orderAllRow : OpenClaim := { program := "ytinpaplpgoljpaa", sum := "1e7198e499b9706deaf1569ebcd0cbbd6b2f256fa5d77e3ce79a8ae6680626d7", func := "linchpin/linchpinlaw18.OrderAll", spec := "orderAll", inPlace := ["slices.overlaps[linchpin/api.Want]"], unfollowed := true, recurses := true, apart := false }
def OrderAllSaid : Prop := orderAllRow.holds Try.pinned (OpenSpec.ofChange orderAllSpec)

/-- ITS FALSE NEIGHBOUR: 'it returns false'. Refute it at one input. -/
def orderAllWrong : ChangeSpec := { name := "orderAll", fn := fun _ => fun
  | [d] => { results := [.lit (.bool false)], args := [d] }
  | _ => none }
def OrderAllWrongFalsely : Prop := orderAllRow.holds Try.pinned (OpenSpec.ofChange orderAllWrong)

/- THE SECOND FORM. 'bulk': how many values and letters a reading holds, each counted each time it is reached (what is shared counts as often as it is met; a slice's spare places count too). A statement '..UptoSaid' is the law's where the arguments, and the package variables that the reading takes, are together of bulk at most 1048576: NARROWER than '..Said'. Prove '..Said' where nothing that the law and all that it calls make is longer than what came in: it says more and counts as full. Else prove '..UptoSaid'. A law counts once. -/
mutual
def uptoBulk {H : Type} : DataW H → Nat
  | .lit (.string bytes) => bytes.length + 1
  | .lit _ => 1
  | .nil => 1
  | .ptr d => uptoBulk d + 1
  | .slice elems spare => uptoBulkAll elems + uptoBulkAll spare + 1
  | .agg parts => uptoBulkAll parts + 1
  | .iface _ d => uptoBulk d + 1
  | .map entries => uptoBulkEntries entries + 1
  | .held _ => 1
def uptoBulkAll {H : Type} : List (DataW H) → Nat
  | [] => 0
  | d :: r => uptoBulk d + uptoBulkAll r
def uptoBulkEntries {H : Type} : List (Lit × DataW H) → Nat
  | [] => 0
  | x :: r => uptoBulkEntry x + uptoBulkEntries r
def uptoBulkEntry {H : Type} : Lit × DataW H → Nat
  | (.string bytes, d) => bytes.length + uptoBulk d + 1
  | (_, d) => uptoBulk d + 1
 end
def uptoSmall : (H : Type) → List (DataW H) → Bool := fun _ ds => decide (uptoBulkAll ds ≤ 1048576)
def OpenSpec.upto (s : _root_.Go.ChangeSpec) : _root_.Go.OpenSpec := { _root_.Go.OpenSpec.ofChange s with cond := some uptoSmall }

/-- 'linchpinlaw18.OrderDrop', WHERE WHAT IT READS IS OF BULK AT MOST 1048576: true; the input reads as it did. -/
def orderDropUptoRow : OpenClaim := { program := "ytinpaplpgoljpaa", sum := "1e7198e499b9706deaf1569ebcd0cbbd6b2f256fa5d77e3ce79a8ae6680626d7", func := "linchpin/linchpinlaw18.OrderDrop", spec := "orderDrop", inPlace := ["slices.overlaps[linchpin/api.Want]"], unfollowed := true, recurses := true, apart := false, narrowed := true }
def OrderDropUptoSaid : Prop := orderDropUptoRow.holds Try.pinned (OpenSpec.upto orderDropSpec)

/-- 'linchpinlaw18.OrderSweep', WHERE WHAT IT READS IS OF BULK AT MOST 1048576: true; the input reads as it did. -/
def orderSweepUptoRow : OpenClaim := { program := "ytinpaplpgoljpaa", sum := "1e7198e499b9706deaf1569ebcd0cbbd6b2f256fa5d77e3ce79a8ae6680626d7", func := "linchpin/linchpinlaw18.OrderSweep", spec := "orderSweep", inPlace := ["slices.overlaps[linchpin/api.Want]"], unfollowed := true, recurses := true, apart := false, narrowed := true }
def OrderSweepUptoSaid : Prop := orderSweepUptoRow.holds Try.pinned (OpenSpec.upto orderSweepSpec)

/-- 'linchpinlaw18.OrderEarly', WHERE WHAT IT READS IS OF BULK AT MOST 1048576: true; the input reads as it did. -/
def orderEarlyUptoRow : OpenClaim := { program := "ytinpaplpgoljpaa", sum := "1e7198e499b9706deaf1569ebcd0cbbd6b2f256fa5d77e3ce79a8ae6680626d7", func := "linchpin/linchpinlaw18.OrderEarly", spec := "orderEarly", inPlace := ["slices.overlaps[linchpin/api.Want]"], unfollowed := true, recurses := true, apart := false, narrowed := true }
def OrderEarlyUptoSaid : Prop := orderEarlyUptoRow.holds Try.pinned (OpenSpec.upto orderEarlySpec)

/-- 'linchpinlaw18.OrderPlays', WHERE WHAT IT READS IS OF BULK AT MOST 1048576: true; the input reads as it did. -/
def orderPlaysUptoRow : OpenClaim := { program := "ytinpaplpgoljpaa", sum := "1e7198e499b9706deaf1569ebcd0cbbd6b2f256fa5d77e3ce79a8ae6680626d7", func := "linchpin/linchpinlaw18.OrderPlays", spec := "orderPlays", inPlace := ["slices.overlaps[linchpin/api.Want]"], unfollowed := true, recurses := true, apart := false, narrowed := true }
def OrderPlaysUptoSaid : Prop := orderPlaysUptoRow.holds Try.pinned (OpenSpec.upto orderPlaysSpec)

/-- 'linchpinlaw18.OrderTimes', WHERE WHAT IT READS IS OF BULK AT MOST 1048576: true; the input reads as it did. -/
def orderTimesUptoRow : OpenClaim := { program := "ytinpaplpgoljpaa", sum := "1e7198e499b9706deaf1569ebcd0cbbd6b2f256fa5d77e3ce79a8ae6680626d7", func := "linchpin/linchpinlaw18.OrderTimes", spec := "orderTimes", inPlace := ["slices.overlaps[linchpin/api.Want]"], unfollowed := true, recurses := true, apart := false, narrowed := true }
def OrderTimesUptoSaid : Prop := orderTimesUptoRow.holds Try.pinned (OpenSpec.upto orderTimesSpec)

/-- 'linchpinlaw18.OrderAll', WHERE WHAT IT READS IS OF BULK AT MOST 1048576: true; the input reads as it did. -/
def orderAllUptoRow : OpenClaim := { program := "ytinpaplpgoljpaa", sum := "1e7198e499b9706deaf1569ebcd0cbbd6b2f256fa5d77e3ce79a8ae6680626d7", func := "linchpin/linchpinlaw18.OrderAll", spec := "orderAll", inPlace := ["slices.overlaps[linchpin/api.Want]"], unfollowed := true, recurses := true, apart := false, narrowed := true }
def OrderAllUptoSaid : Prop := orderAllUptoRow.holds Try.pinned (OpenSpec.upto orderAllSpec)

end Rows
end Go.Proofs.Ytinpaplpgoljpaa
