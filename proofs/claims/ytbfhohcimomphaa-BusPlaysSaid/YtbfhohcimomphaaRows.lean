/-
  No cell of these rows narrows 'for every input' (looked for: loops, veiled, ifaces, maps, wideKeys, modest, calm, conditions, laid).
  DERIVED. THE GIVEN ROWS OF THIS SEAT. 6 by the template 'for every input the law returns true; each argument reads behind the call as it read before'; 0 by the template 'total and deterministic' (their statements: YtbfhohcimomphaaTotals.lean).
  GIVEN WITH THE SEED: the statements are not yours to turn. If you find one false, say at which input.
  Laid BY PROGRAM, IN A SANDBOX (cutbox-rows.mjs): the forced cells as the released guide's own fill.sh prints them over the translation 696b3f1331209e27… (all of the seat's roots in one cut). By AI agents, Wed Nov 11 2026. No macro, syntax, notation, axiom, sorry.
-/
import Derived.Test.YtbfhohcimomphaaChecked
import GoSem.Claim
import GoSem.ClaimJoined
import GoSem.ClaimMapViews
import Derived.JoinedTies
import Derived.KernelRfl
namespace Go.Proofs.Ytbfhohcimomphaa
/- THE CELL 'sum', in the pinned program and in every row, IS THE sha256 OF THE DUMP (.gsa) THAT YtbfhohcimomphaaProg.lean LOADS. Nothing in Lean hashes anything: it is a label: what it is worth is what the hold of that sum in a sandbox is worth. -/
noncomputable def Try.pinned : Pinned := { name := "ytbfhohcimomphaa", sum := "696b3f1331209e271b9f1c61a45cbba160439d1d2c26c14c156959b433bfc84f", checked := Try.checked }
namespace Rows
def none {H : Type} : Left H := { results := [], args := [] }

/-- 'linchpinlaw06.BusShares': WHATEVER THE INPUT: true; the input reads as it did. -/
def busSharesSpec : ChangeSpec := { name := "busShares", fn := fun _ => fun
  | [d1, d2, d3] => { results := [.lit (.bool true)], args := [d1, d2, d3] }
  | _ => none }
def busSharesRow : OpenClaim := { program := "ytbfhohcimomphaa", sum := "696b3f1331209e271b9f1c61a45cbba160439d1d2c26c14c156959b433bfc84f", func := "linchpin/linchpinlaw06.BusShares", spec := "busShares", unfollowed := true, recurses := true, apart := false }
def BusSharesSaid : Prop := busSharesRow.holds Try.pinned (OpenSpec.ofChange busSharesSpec)

/-- ITS FALSE NEIGHBOUR: 'it returns false'. Refute it at one input. -/
def busSharesWrong : ChangeSpec := { name := "busShares", fn := fun _ => fun
  | [d1, d2, d3] => { results := [.lit (.bool false)], args := [d1, d2, d3] }
  | _ => none }
def BusSharesWrongFalsely : Prop := busSharesRow.holds Try.pinned (OpenSpec.ofChange busSharesWrong)

/-- 'linchpinlaw06.BusAlone': WHATEVER THE INPUT: true; the input reads as it did. -/
def busAloneSpec : ChangeSpec := { name := "busAlone", fn := fun _ => fun
  | [d1, d2] => { results := [.lit (.bool true)], args := [d1, d2] }
  | _ => none }
def busAloneRow : OpenClaim := { program := "ytbfhohcimomphaa", sum := "696b3f1331209e271b9f1c61a45cbba160439d1d2c26c14c156959b433bfc84f", func := "linchpin/linchpinlaw06.BusAlone", spec := "busAlone", unfollowed := true, recurses := true, apart := false }
def BusAloneSaid : Prop := busAloneRow.holds Try.pinned (OpenSpec.ofChange busAloneSpec)

/-- ITS FALSE NEIGHBOUR: 'it returns false'. Refute it at one input. -/
def busAloneWrong : ChangeSpec := { name := "busAlone", fn := fun _ => fun
  | [d1, d2] => { results := [.lit (.bool false)], args := [d1, d2] }
  | _ => none }
def BusAloneWrongFalsely : Prop := busAloneRow.holds Try.pinned (OpenSpec.ofChange busAloneWrong)

/-- 'linchpinlaw06.BusUrgent': WHATEVER THE INPUT: true; the input reads as it did. -/
def busUrgentSpec : ChangeSpec := { name := "busUrgent", fn := fun _ => fun
  | [d1, d2] => { results := [.lit (.bool true)], args := [d1, d2] }
  | _ => none }
def busUrgentRow : OpenClaim := { program := "ytbfhohcimomphaa", sum := "696b3f1331209e271b9f1c61a45cbba160439d1d2c26c14c156959b433bfc84f", func := "linchpin/linchpinlaw06.BusUrgent", spec := "busUrgent", unfollowed := true, recurses := true, apart := false }
def BusUrgentSaid : Prop := busUrgentRow.holds Try.pinned (OpenSpec.ofChange busUrgentSpec)

/-- ITS FALSE NEIGHBOUR: 'it returns false'. Refute it at one input. -/
def busUrgentWrong : ChangeSpec := { name := "busUrgent", fn := fun _ => fun
  | [d1, d2] => { results := [.lit (.bool false)], args := [d1, d2] }
  | _ => none }
def BusUrgentWrongFalsely : Prop := busUrgentRow.holds Try.pinned (OpenSpec.ofChange busUrgentWrong)

/-- 'linchpinlaw06.BusStalls': WHATEVER THE INPUT: true; the input reads as it did. -/
def busStallsSpec : ChangeSpec := { name := "busStalls", fn := fun _ => fun
  | [d1, d2] => { results := [.lit (.bool true)], args := [d1, d2] }
  | _ => none }
def busStallsRow : OpenClaim := { program := "ytbfhohcimomphaa", sum := "696b3f1331209e271b9f1c61a45cbba160439d1d2c26c14c156959b433bfc84f", func := "linchpin/linchpinlaw06.BusStalls", spec := "busStalls", unfollowed := true, recurses := true, apart := false }
def BusStallsSaid : Prop := busStallsRow.holds Try.pinned (OpenSpec.ofChange busStallsSpec)

/-- ITS FALSE NEIGHBOUR: 'it returns false'. Refute it at one input. -/
def busStallsWrong : ChangeSpec := { name := "busStalls", fn := fun _ => fun
  | [d1, d2] => { results := [.lit (.bool false)], args := [d1, d2] }
  | _ => none }
def BusStallsWrongFalsely : Prop := busStallsRow.holds Try.pinned (OpenSpec.ofChange busStallsWrong)

/-- 'linchpinlaw06.BusPlays': WHATEVER THE INPUT: true; the input reads as it did. -/
def busPlaysSpec : ChangeSpec := { name := "busPlays", fn := fun _ => fun
  | [d1, d2, d3] => { results := [.lit (.bool true)], args := [d1, d2, d3] }
  | _ => none }
def busPlaysRow : OpenClaim := { program := "ytbfhohcimomphaa", sum := "696b3f1331209e271b9f1c61a45cbba160439d1d2c26c14c156959b433bfc84f", func := "linchpin/linchpinlaw06.BusPlays", spec := "busPlays", unfollowed := true, recurses := true, apart := false }
def BusPlaysSaid : Prop := busPlaysRow.holds Try.pinned (OpenSpec.ofChange busPlaysSpec)

/-- ITS FALSE NEIGHBOUR: 'it returns false'. Refute it at one input. -/
def busPlaysWrong : ChangeSpec := { name := "busPlays", fn := fun _ => fun
  | [d1, d2, d3] => { results := [.lit (.bool false)], args := [d1, d2, d3] }
  | _ => none }
def BusPlaysWrongFalsely : Prop := busPlaysRow.holds Try.pinned (OpenSpec.ofChange busPlaysWrong)

/-- 'linchpinlaw06.BusTurns': WHATEVER THE INPUT: true; the input reads as it did. -/
def busTurnsSpec : ChangeSpec := { name := "busTurns", fn := fun _ => fun
  | [d] => { results := [.lit (.bool true)], args := [d] }
  | _ => none }
def busTurnsRow : OpenClaim := { program := "ytbfhohcimomphaa", sum := "696b3f1331209e271b9f1c61a45cbba160439d1d2c26c14c156959b433bfc84f", func := "linchpin/linchpinlaw06.BusTurns", spec := "busTurns", unfollowed := true, recurses := true, apart := false }
def BusTurnsSaid : Prop := busTurnsRow.holds Try.pinned (OpenSpec.ofChange busTurnsSpec)

/-- ITS FALSE NEIGHBOUR: 'it returns false'. Refute it at one input. -/
def busTurnsWrong : ChangeSpec := { name := "busTurns", fn := fun _ => fun
  | [d] => { results := [.lit (.bool false)], args := [d] }
  | _ => none }
def BusTurnsWrongFalsely : Prop := busTurnsRow.holds Try.pinned (OpenSpec.ofChange busTurnsWrong)

/- THE SECOND FORM. 'bulk': how many values and letters a reading holds, each counted each time it is reached (what is shared counts as often as it is met; a slice's spare places count too). A statement '..UptoSaid' is the law's where the arguments, and the package variables that the reading takes, are together of bulk at most 1048576: NARROWER than '..Said'. Prove '..Said' where nothing that the law and all that it calls make is longer than what came in: it says more and counts as full. Else prove '..UptoSaid'. A law counts once. -/
mutual
def uptoBulk {H : Type} : DataW H → Nat
  | .lit (.string bytes) => bytes.length + 1
  | .lit _ => 1
  | .nil => 1
  | .ptr d => uptoBulk d + 1
  | .slice elems spare => uptoBulkAll elems + uptoBulkAll spare + 1
  | .agg parts => uptoBulkAll parts + 1
  | .iface _ d => uptoBulk d + 1
  | .map entries => uptoBulkEntries entries + 1
  | .held _ => 1
def uptoBulkAll {H : Type} : List (DataW H) → Nat
  | [] => 0
  | d :: r => uptoBulk d + uptoBulkAll r
def uptoBulkEntries {H : Type} : List (Lit × DataW H) → Nat
  | [] => 0
  | x :: r => uptoBulkEntry x + uptoBulkEntries r
def uptoBulkEntry {H : Type} : Lit × DataW H → Nat
  | (.string bytes, d) => bytes.length + uptoBulk d + 1
  | (_, d) => uptoBulk d + 1
 end
def uptoSmall : (H : Type) → List (DataW H) → Bool := fun _ ds => decide (uptoBulkAll ds ≤ 1048576)
def OpenSpec.upto (s : _root_.Go.ChangeSpec) : _root_.Go.OpenSpec := { _root_.Go.OpenSpec.ofChange s with cond := some uptoSmall }

/-- 'linchpinlaw06.BusShares', WHERE WHAT IT READS IS OF BULK AT MOST 1048576: true; the input reads as it did. -/
def busSharesUptoRow : OpenClaim := { program := "ytbfhohcimomphaa", sum := "696b3f1331209e271b9f1c61a45cbba160439d1d2c26c14c156959b433bfc84f", func := "linchpin/linchpinlaw06.BusShares", spec := "busShares", unfollowed := true, recurses := true, apart := false, narrowed := true }
def BusSharesUptoSaid : Prop := busSharesUptoRow.holds Try.pinned (OpenSpec.upto busSharesSpec)

/-- 'linchpinlaw06.BusAlone', WHERE WHAT IT READS IS OF BULK AT MOST 1048576: true; the input reads as it did. -/
def busAloneUptoRow : OpenClaim := { program := "ytbfhohcimomphaa", sum := "696b3f1331209e271b9f1c61a45cbba160439d1d2c26c14c156959b433bfc84f", func := "linchpin/linchpinlaw06.BusAlone", spec := "busAlone", unfollowed := true, recurses := true, apart := false, narrowed := true }
def BusAloneUptoSaid : Prop := busAloneUptoRow.holds Try.pinned (OpenSpec.upto busAloneSpec)

/-- 'linchpinlaw06.BusUrgent', WHERE WHAT IT READS IS OF BULK AT MOST 1048576: true; the input reads as it did. -/
def busUrgentUptoRow : OpenClaim := { program := "ytbfhohcimomphaa", sum := "696b3f1331209e271b9f1c61a45cbba160439d1d2c26c14c156959b433bfc84f", func := "linchpin/linchpinlaw06.BusUrgent", spec := "busUrgent", unfollowed := true, recurses := true, apart := false, narrowed := true }
def BusUrgentUptoSaid : Prop := busUrgentUptoRow.holds Try.pinned (OpenSpec.upto busUrgentSpec)

/-- 'linchpinlaw06.BusStalls', WHERE WHAT IT READS IS OF BULK AT MOST 1048576: true; the input reads as it did. -/
def busStallsUptoRow : OpenClaim := { program := "ytbfhohcimomphaa", sum := "696b3f1331209e271b9f1c61a45cbba160439d1d2c26c14c156959b433bfc84f", func := "linchpin/linchpinlaw06.BusStalls", spec := "busStalls", unfollowed := true, recurses := true, apart := false, narrowed := true }
def BusStallsUptoSaid : Prop := busStallsUptoRow.holds Try.pinned (OpenSpec.upto busStallsSpec)

/-- 'linchpinlaw06.BusPlays', WHERE WHAT IT READS IS OF BULK AT MOST 1048576: true; the input reads as it did. -/
def busPlaysUptoRow : OpenClaim := { program := "ytbfhohcimomphaa", sum := "696b3f1331209e271b9f1c61a45cbba160439d1d2c26c14c156959b433bfc84f", func := "linchpin/linchpinlaw06.BusPlays", spec := "busPlays", unfollowed := true, recurses := true, apart := false, narrowed := true }
def BusPlaysUptoSaid : Prop := busPlaysUptoRow.holds Try.pinned (OpenSpec.upto busPlaysSpec)

/-- 'linchpinlaw06.BusTurns', WHERE WHAT IT READS IS OF BULK AT MOST 1048576: true; the input reads as it did. -/
def busTurnsUptoRow : OpenClaim := { program := "ytbfhohcimomphaa", sum := "696b3f1331209e271b9f1c61a45cbba160439d1d2c26c14c156959b433bfc84f", func := "linchpin/linchpinlaw06.BusTurns", spec := "busTurns", unfollowed := true, recurses := true, apart := false, narrowed := true }
def BusTurnsUptoSaid : Prop := busTurnsUptoRow.holds Try.pinned (OpenSpec.upto busTurnsSpec)

end Rows
end Go.Proofs.Ytbfhohcimomphaa
