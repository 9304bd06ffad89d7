/- The contracts of layer 1 (tick): what each of its functions answers, by plain functions on whole numbers; nothing is written. -/
import Derived.Test.YthfnaeppolgpaaaBase
namespace Go.Proofs.Ythfnaeppolgpaaa
open Go.RowKit
set_option linter.unusedVariables false

def winF (t p q : Int) : Int × Int × Int :=
  if 4611686018427387904 ≤ t ∨ 4611686018427387904 ≤ p then (0, 0, 2) else if q < 1 ∨ 4611686018427387904 < q ∨ t < p then (0, 0, 1) else ((t - p) / q, p + (t - p) / q * q, 0)
def addF (t s : Int) : Int × Int := if t < 4611686018427387904 ∧ s ≤ 4611686018427387904 ∧ t + s < 4611686018427387904 then (t + s, 0) else (0, 2)
def nextF (t p q : Int) : Int × Int :=
  if 4611686018427387904 ≤ t ∨ 4611686018427387904 ≤ p then (0, 2) else if q < 1 ∨ 4611686018427387904 < q then (0, 1) else if t < p then (p, 0) else addF (p + (t - p) / q * q) q
def upF (n q : Int) : Int := if q = 0 then 0 else if n % q = 0 then n / q else n / q + 1
def leftF (t u : Int) : Int := if u ≤ t then 0 else u - t

theorem winF_far {t p q : Int} (h : 4611686018427387904 ≤ t ∨ 4611686018427387904 ≤ p) : winF t p q = (0, 0, 2) := by unfold winF; rw [if_pos h]
theorem winF_arg {t p q : Int} (h : ¬ (4611686018427387904 ≤ t ∨ 4611686018427387904 ≤ p)) (h' : q < 1 ∨ 4611686018427387904 < q ∨ t < p) : winF t p q = (0, 0, 1) := by unfold winF; rw [if_neg h, if_pos h']
theorem winF_ok {t p q : Int} (h : ¬ (4611686018427387904 ≤ t ∨ 4611686018427387904 ≤ p)) (h' : ¬ (q < 1 ∨ 4611686018427387904 < q ∨ t < p)) : winF t p q = ((t - p) / q, p + (t - p) / q * q, 0) := by unfold winF; rw [if_neg h, if_neg h']

theorem may_any (t : Int) (w : World) : Calls Try.prog 16 #[.int .u64 t] w fun e w' => e = .returned (.bool (decide (t < 4611686018427387904))) ∧ w = w' := by
  go_enter Try.func16, Try.ntmps16
  go_wp2
  go_ret
  exact ⟨rfl, rfl⟩



theorem up_any (n q : Int) (w : World) (ht : 0 ≤ n) (ht' : n ≤ 18446744073709551615) (hs : 0 ≤ q) (hs' : q ≤ 18446744073709551615) :
    Calls Try.prog 15 #[.int .u64 n, .int .u64 q] w fun e w' => e = .returned (.int .u64 (upF n q)) ∧ w = w' := by
  by_cases h : q = 0
  · subst h
    go_enter Try.func15, Try.ntmps15
    go_wp2
    go_ret
    exact ⟨rfl, rfl⟩
  · obtain ⟨b1, b2, b3, b4, b5⟩ := mul_div_le n q (by omega) (by omega)
    have hp : 0 < q := by omega
    by_cases h2 : n % q = 0
    · have e : upF n q = n / q := by unfold upF; rw [if_neg h, if_pos h2]
      rw [e]; clear e
      go_enter Try.func15, Try.ntmps15
      go_wp2
      go_ret
      exact ⟨rfl, rfl⟩
    · have e : upF n q = n / q + 1 := by unfold upF; rw [if_neg h, if_neg h2]
      have h3 : q ≠ 1 := by rintro rfl; exact h2 (Int.emod_one n)
      have h4 : n / q * 2 ≤ n / q * q := Int.mul_le_mul_of_nonneg_left (by omega) b1
      rw [e]; clear e h3
      go_enter Try.func15, Try.ntmps15
      go_wp2
      go_ret
      exact ⟨rfl, rfl⟩


end Go.Proofs.Ythfnaeppolgpaaa
