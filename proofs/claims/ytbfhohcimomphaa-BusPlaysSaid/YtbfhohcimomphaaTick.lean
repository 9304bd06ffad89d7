/- The contracts of layer 1 (tick): what each of its functions answers, by plain functions on whole numbers; nothing is written. -/
import Derived.Test.YtbfhohcimomphaaBase
namespace Go.Proofs.Ytbfhohcimomphaa
open Go.RowKit
set_option linter.unusedVariables false

def winF (t p q : Int) : Int × Int × Int :=
  if 4611686018427387904 ≤ t ∨ 4611686018427387904 ≤ p then (0, 0, 2) else if q < 1 ∨ 4611686018427387904 < q ∨ t < p then (0, 0, 1) else ((t - p) / q, p + (t - p) / q * q, 0)
def addF (t s : Int) : Int × Int := if t < 4611686018427387904 ∧ s ≤ 4611686018427387904 ∧ t + s < 4611686018427387904 then (t + s, 0) else (0, 2)
def nextF (t p q : Int) : Int × Int :=
  if 4611686018427387904 ≤ t ∨ 4611686018427387904 ≤ p then (0, 2) else if q < 1 ∨ 4611686018427387904 < q then (0, 1) else if t < p then (p, 0) else addF (p + (t - p) / q * q) q
def upF (n q : Int) : Int := if q = 0 then 0 else if n % q = 0 then n / q else n / q + 1
def leftF (t u : Int) : Int := if u ≤ t then 0 else u - t

theorem winF_far {t p q : Int} (h : 4611686018427387904 ≤ t ∨ 4611686018427387904 ≤ p) : winF t p q = (0, 0, 2) := by unfold winF; rw [if_pos h]
theorem winF_arg {t p q : Int} (h : ¬ (4611686018427387904 ≤ t ∨ 4611686018427387904 ≤ p)) (h' : q < 1 ∨ 4611686018427387904 < q ∨ t < p) : winF t p q = (0, 0, 1) := by unfold winF; rw [if_neg h, if_pos h']
theorem winF_ok {t p q : Int} (h : ¬ (4611686018427387904 ≤ t ∨ 4611686018427387904 ≤ p)) (h' : ¬ (q < 1 ∨ 4611686018427387904 < q ∨ t < p)) : winF t p q = ((t - p) / q, p + (t - p) / q * q, 0) := by unfold winF; rw [if_neg h, if_neg h']

theorem may_any (t : Int) (w : World) : Calls Try.prog 21 #[.int .u64 t] w fun e w' => e = .returned (.bool (decide (t < 4611686018427387904))) ∧ w = w' := by
  go_enter Try.func21, Try.ntmps21
  go_wp2
  go_ret
  exact ⟨rfl, rfl⟩




set_option maxHeartbeats 1000000 in
theorem win_any (t p q : Int) (w : World) (ht : 0 ≤ t) (ht' : t ≤ 18446744073709551615) (hp : 0 ≤ p) (hp' : p ≤ 18446744073709551615) (hq : 0 ≤ q) (hq' : q ≤ 18446744073709551615) :
    Calls Try.prog 41 #[.int .u64 t, .int .u64 p, .int .u64 q] w fun e w' => e = .returned (.tuple #[.int .u64 (winF t p q).1, .int .u64 (winF t p q).2.1, .int .i64 (winF t p q).2.2]) ∧ w = w' := by
  by_cases h1 : 4611686018427387904 ≤ t ∨ 4611686018427387904 ≤ p
  · rw [winF_far h1]
    by_cases a1 : t < 4611686018427387904
    · have a2 : decide (p < 4611686018427387904) = false := by simp; omega
      clear h1
      go_enter Try.func41, Try.ntmps41
      go_wp2
      all_goals (go_ret3; exact ⟨rfl, rfl⟩)
    · clear h1
      go_enter Try.func41, Try.ntmps41
      go_wp2
      all_goals (go_ret3; exact ⟨rfl, rfl⟩)
  · by_cases h2 : q < 1 ∨ 4611686018427387904 < q ∨ t < p
    · rw [winF_arg h1 h2]
      have a1 : t < 4611686018427387904 := by omega
      have a2 : p < 4611686018427387904 := by omega
      clear h1
      rcases h2 with h2 | h2 | h2
      all_goals
        go_enter Try.func41, Try.ntmps41
        go_wp2
        all_goals (go_ret3; exact ⟨rfl, rfl⟩)
    · rw [winF_ok h1 h2]
      have a1 : t < 4611686018427387904 := by omega
      have a2 : p < 4611686018427387904 := by omega
      have a3 : p ≤ t := by omega
      have a4 : 1 ≤ q := by omega
      have a5 : q ≤ 4611686018427387904 := by omega
      clear h1 h2
      obtain ⟨b1, b2, b3, b4, b5⟩ := mul_div_le (t - p) q (by omega) (by omega)
      go_enter Try.func41, Try.ntmps41
      go_wp2
      go_ret3
      exact ⟨rfl, rfl⟩

end Go.Proofs.Ytbfhohcimomphaa
