/-
  No cell of these rows narrows 'for every input' (looked for: loops, veiled, ifaces, maps, wideKeys, modest, calm, conditions, laid).
  DERIVED. THE GIVEN ROWS OF THIS SEAT. 4 by the template 'for every input the law returns true; each argument reads behind the call as it read before'; 0 by the template 'total and deterministic' (their statements: YtajcjepolfmhmaaTotals.lean).
  GIVEN WITH THE SEED: the statements are not yours to turn. If you find one false, say at which input.
  Laid BY PROGRAM, IN A SANDBOX (cutbox-rows.mjs): the forced cells as the released guide's own fill.sh prints them over the translation 41752e1156c912e4… (all of the seat's roots in one cut). By AI agents, Wed Nov 11 2026. No macro, syntax, notation, axiom, sorry.
-/
import Derived.Test.YtajcjepolfmhmaaChecked
import GoSem.Claim
import GoSem.ClaimJoined
import GoSem.ClaimMapViews
import Derived.JoinedTies
import Derived.KernelRfl
namespace Go.Proofs.Ytajcjepolfmhmaa
/- THE CELL 'sum', in the pinned program and in every row, IS THE sha256 OF THE DUMP (.gsa) THAT YtajcjepolfmhmaaProg.lean LOADS. Nothing in Lean hashes anything: it is a label: what it is worth is what the hold of that sum in a sandbox is worth. -/
noncomputable def Try.pinned : Pinned := { name := "ytajcjepolfmhmaa", sum := "41752e1156c912e492fa7c20257b3ff65ac803c0e6fe05480364c4811b7a3c71", checked := Try.checked }
namespace Rows
def none {H : Type} : Left H := { results := [], args := [] }

/-- 'linchpinlaw08.PiecesBack': WHATEVER THE INPUT: true; the input reads as it did. -/
def piecesBackSpec : ChangeSpec := { name := "piecesBack", fn := fun _ => fun
  | [d1, d2] => { results := [.lit (.bool true)], args := [d1, d2] }
  | _ => none }
def piecesBackRow : OpenClaim := { program := "ytajcjepolfmhmaa", sum := "41752e1156c912e492fa7c20257b3ff65ac803c0e6fe05480364c4811b7a3c71", func := "linchpin/linchpinlaw08.PiecesBack", spec := "piecesBack", unfollowed := true, recurses := true, apart := false }
def PiecesBackSaid : Prop := piecesBackRow.holds Try.pinned (OpenSpec.ofChange piecesBackSpec)

/-- ITS FALSE NEIGHBOUR: 'it returns false'. Refute it at one input. -/
def piecesBackWrong : ChangeSpec := { name := "piecesBack", fn := fun _ => fun
  | [d1, d2] => { results := [.lit (.bool false)], args := [d1, d2] }
  | _ => none }
def PiecesBackWrongFalsely : Prop := piecesBackRow.holds Try.pinned (OpenSpec.ofChange piecesBackWrong)

/-- 'linchpinlaw08.PiecesFind': WHATEVER THE INPUT: true; the input reads as it did. -/
def piecesFindSpec : ChangeSpec := { name := "piecesFind", fn := fun _ => fun
  | [d] => { results := [.lit (.bool true)], args := [d] }
  | _ => none }
def piecesFindRow : OpenClaim := { program := "ytajcjepolfmhmaa", sum := "41752e1156c912e492fa7c20257b3ff65ac803c0e6fe05480364c4811b7a3c71", func := "linchpin/linchpinlaw08.PiecesFind", spec := "piecesFind", unfollowed := true, recurses := true, apart := false }
def PiecesFindSaid : Prop := piecesFindRow.holds Try.pinned (OpenSpec.ofChange piecesFindSpec)

/-- ITS FALSE NEIGHBOUR: 'it returns false'. Refute it at one input. -/
def piecesFindWrong : ChangeSpec := { name := "piecesFind", fn := fun _ => fun
  | [d] => { results := [.lit (.bool false)], args := [d] }
  | _ => none }
def PiecesFindWrongFalsely : Prop := piecesFindRow.holds Try.pinned (OpenSpec.ofChange piecesFindWrong)

/-- 'linchpinlaw08.PiecesGive': WHATEVER THE INPUT: true; the input reads as it did. -/
def piecesGiveSpec : ChangeSpec := { name := "piecesGive", fn := fun _ => fun
  | [d1, d2, d3] => { results := [.lit (.bool true)], args := [d1, d2, d3] }
  | _ => none }
def piecesGiveRow : OpenClaim := { program := "ytajcjepolfmhmaa", sum := "41752e1156c912e492fa7c20257b3ff65ac803c0e6fe05480364c4811b7a3c71", func := "linchpin/linchpinlaw08.PiecesGive", spec := "piecesGive", unfollowed := true, recurses := true, apart := false }
def PiecesGiveSaid : Prop := piecesGiveRow.holds Try.pinned (OpenSpec.ofChange piecesGiveSpec)

/-- ITS FALSE NEIGHBOUR: 'it returns false'. Refute it at one input. -/
def piecesGiveWrong : ChangeSpec := { name := "piecesGive", fn := fun _ => fun
  | [d1, d2, d3] => { results := [.lit (.bool false)], args := [d1, d2, d3] }
  | _ => none }
def PiecesGiveWrongFalsely : Prop := piecesGiveRow.holds Try.pinned (OpenSpec.ofChange piecesGiveWrong)

/-- 'linchpinlaw08.PiecesWhole': WHATEVER THE INPUT: true; the input reads as it did. -/
def piecesWholeSpec : ChangeSpec := { name := "piecesWhole", fn := fun _ => fun
  | [d1, d2] => { results := [.lit (.bool true)], args := [d1, d2] }
  | _ => none }
def piecesWholeRow : OpenClaim := { program := "ytajcjepolfmhmaa", sum := "41752e1156c912e492fa7c20257b3ff65ac803c0e6fe05480364c4811b7a3c71", func := "linchpin/linchpinlaw08.PiecesWhole", spec := "piecesWhole", unfollowed := true, recurses := true, apart := false }
def PiecesWholeSaid : Prop := piecesWholeRow.holds Try.pinned (OpenSpec.ofChange piecesWholeSpec)

/-- ITS FALSE NEIGHBOUR: 'it returns false'. Refute it at one input. -/
def piecesWholeWrong : ChangeSpec := { name := "piecesWhole", fn := fun _ => fun
  | [d1, d2] => { results := [.lit (.bool false)], args := [d1, d2] }
  | _ => none }
def PiecesWholeWrongFalsely : Prop := piecesWholeRow.holds Try.pinned (OpenSpec.ofChange piecesWholeWrong)

/- THE SECOND FORM. 'bulk': how many values and letters a reading holds, each counted each time it is reached (what is shared counts as often as it is met; a slice's spare places count too). A statement '..UptoSaid' is the law's where the arguments, and the package variables that the reading takes, are together of bulk at most 1048576: NARROWER than '..Said'. Prove '..Said' where nothing that the law and all that it calls make is longer than what came in: it says more and counts as full. Else prove '..UptoSaid'. A law counts once. -/
mutual
def uptoBulk {H : Type} : DataW H → Nat
  | .lit (.string bytes) => bytes.length + 1
  | .lit _ => 1
  | .nil => 1
  | .ptr d => uptoBulk d + 1
  | .slice elems spare => uptoBulkAll elems + uptoBulkAll spare + 1
  | .agg parts => uptoBulkAll parts + 1
  | .iface _ d => uptoBulk d + 1
  | .map entries => uptoBulkEntries entries + 1
  | .held _ => 1
def uptoBulkAll {H : Type} : List (DataW H) → Nat
  | [] => 0
  | d :: r => uptoBulk d + uptoBulkAll r
def uptoBulkEntries {H : Type} : List (Lit × DataW H) → Nat
  | [] => 0
  | x :: r => uptoBulkEntry x + uptoBulkEntries r
def uptoBulkEntry {H : Type} : Lit × DataW H → Nat
  | (.string bytes, d) => bytes.length + uptoBulk d + 1
  | (_, d) => uptoBulk d + 1
 end
def uptoSmall : (H : Type) → List (DataW H) → Bool := fun _ ds => decide (uptoBulkAll ds ≤ 1048576)
def OpenSpec.upto (s : _root_.Go.ChangeSpec) : _root_.Go.OpenSpec := { _root_.Go.OpenSpec.ofChange s with cond := some uptoSmall }

/-- 'linchpinlaw08.PiecesBack', WHERE WHAT IT READS IS OF BULK AT MOST 1048576: true; the input reads as it did. -/
def piecesBackUptoRow : OpenClaim := { program := "ytajcjepolfmhmaa", sum := "41752e1156c912e492fa7c20257b3ff65ac803c0e6fe05480364c4811b7a3c71", func := "linchpin/linchpinlaw08.PiecesBack", spec := "piecesBack", unfollowed := true, recurses := true, apart := false, narrowed := true }
def PiecesBackUptoSaid : Prop := piecesBackUptoRow.holds Try.pinned (OpenSpec.upto piecesBackSpec)

/-- 'linchpinlaw08.PiecesFind', WHERE WHAT IT READS IS OF BULK AT MOST 1048576: true; the input reads as it did. -/
def piecesFindUptoRow : OpenClaim := { program := "ytajcjepolfmhmaa", sum := "41752e1156c912e492fa7c20257b3ff65ac803c0e6fe05480364c4811b7a3c71", func := "linchpin/linchpinlaw08.PiecesFind", spec := "piecesFind", unfollowed := true, recurses := true, apart := false, narrowed := true }
def PiecesFindUptoSaid : Prop := piecesFindUptoRow.holds Try.pinned (OpenSpec.upto piecesFindSpec)

/-- 'linchpinlaw08.PiecesGive', WHERE WHAT IT READS IS OF BULK AT MOST 1048576: true; the input reads as it did. -/
def piecesGiveUptoRow : OpenClaim := { program := "ytajcjepolfmhmaa", sum := "41752e1156c912e492fa7c20257b3ff65ac803c0e6fe05480364c4811b7a3c71", func := "linchpin/linchpinlaw08.PiecesGive", spec := "piecesGive", unfollowed := true, recurses := true, apart := false, narrowed := true }
def PiecesGiveUptoSaid : Prop := piecesGiveUptoRow.holds Try.pinned (OpenSpec.upto piecesGiveSpec)

/-- 'linchpinlaw08.PiecesWhole', WHERE WHAT IT READS IS OF BULK AT MOST 1048576: true; the input reads as it did. -/
def piecesWholeUptoRow : OpenClaim := { program := "ytajcjepolfmhmaa", sum := "41752e1156c912e492fa7c20257b3ff65ac803c0e6fe05480364c4811b7a3c71", func := "linchpin/linchpinlaw08.PiecesWhole", spec := "piecesWhole", unfollowed := true, recurses := true, apart := false, narrowed := true }
def PiecesWholeUptoSaid : Prop := piecesWholeUptoRow.holds Try.pinned (OpenSpec.upto piecesWholeSpec)

end Rows
end Go.Proofs.Ytajcjepolfmhmaa
