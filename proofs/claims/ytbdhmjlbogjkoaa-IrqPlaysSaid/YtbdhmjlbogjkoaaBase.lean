/- Small words that all walks of this seat use: endings by their numbers, quotients. -/
import Derived.Test.YtbdhmjlbogjkoaaProg
import Derived.Handy
import Derived.Lib.Hide
namespace Go.Proofs.Ytbdhmjlbogjkoaa
open Go.RowKit
set_option linter.unusedVariables false

theorem ret1 {k : IntKind} {a b : Int} (h : a = b) : Ending.returned (.int k a) = .returned (.int k b) := by rw [h]
theorem retb {a b : Bool} (h : a = b) : Ending.returned (.bool a) = .returned (.bool b) := by rw [h]
theorem ret2 {k l : IntKind} {a b c d : Int} (h : a = b) (h' : c = d) : Ending.returned (.tuple #[.int k a, .int l c]) = .returned (.tuple #[.int k b, .int l d]) := by rw [h, h']
theorem ret2b {k : IntKind} {a b : Int} {c d : Bool} (h : a = b) (h' : c = d) : Ending.returned (.tuple #[.int k a, .bool c]) = .returned (.tuple #[.int k b, .bool d]) := by rw [h, h']
theorem retb2 {k : IntKind} {a b : Int} {c d : Bool} (h' : c = d) (h : a = b) : Ending.returned (.tuple #[.bool c, .int k a]) = .returned (.tuple #[.bool d, .int k b]) := by rw [h, h']
theorem ret3 {k l m : IntKind} {a b c d e f : Int} (h : a = b) (h' : c = d) (h'' : e = f) : Ending.returned (.tuple #[.int k a, .int l c, .int m e]) = .returned (.tuple #[.int k b, .int l d, .int m f]) := by rw [h, h', h'']

theorem mul_div_le (a q : Int) (ha : 0 ≤ a) (hq : 0 < q) : 0 ≤ a / q ∧ a / q ≤ a ∧ 0 ≤ a / q * q ∧ a / q * q ≤ a ∧ a < a / q * q + q := by
  have h1 := Int.emod_add_mul_ediv a q
  have h2 := Int.emod_nonneg a (show q ≠ 0 by omega)
  have h3 := Int.emod_lt_of_pos a hq
  have h4 := Int.ediv_nonneg ha (show 0 ≤ q by omega)
  have h6 : a / q * q = q * (a / q) := Int.mul_comm _ _
  have h7 := Int.ediv_le_self q ha
  have h8 : 0 ≤ a / q * q := Int.mul_nonneg h4 (by omega)
  omega
end Go.Proofs.Ytbdhmjlbogjkoaa
