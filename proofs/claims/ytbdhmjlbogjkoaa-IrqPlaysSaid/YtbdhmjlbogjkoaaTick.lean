/- The contracts of layer 1 (tick): what each of its functions answers, by plain functions on whole numbers; nothing is written. -/
import Derived.Test.YtbdhmjlbogjkoaaBase
namespace Go.Proofs.Ytbdhmjlbogjkoaa
open Go.RowKit
set_option linter.unusedVariables false

def winF (t p q : Int) : Int × Int × Int :=
  if 4611686018427387904 ≤ t ∨ 4611686018427387904 ≤ p then (0, 0, 2) else if q < 1 ∨ 4611686018427387904 < q ∨ t < p then (0, 0, 1) else ((t - p) / q, p + (t - p) / q * q, 0)
def addF (t s : Int) : Int × Int := if t < 4611686018427387904 ∧ s ≤ 4611686018427387904 ∧ t + s < 4611686018427387904 then (t + s, 0) else (0, 2)
def nextF (t p q : Int) : Int × Int :=
  if 4611686018427387904 ≤ t ∨ 4611686018427387904 ≤ p then (0, 2) else if q < 1 ∨ 4611686018427387904 < q then (0, 1) else if t < p then (p, 0) else addF (p + (t - p) / q * q) q
def upF (n q : Int) : Int := if q = 0 then 0 else if n % q = 0 then n / q else n / q + 1
def leftF (t u : Int) : Int := if u ≤ t then 0 else u - t

theorem winF_far {t p q : Int} (h : 4611686018427387904 ≤ t ∨ 4611686018427387904 ≤ p) : winF t p q = (0, 0, 2) := by unfold winF; rw [if_pos h]
theorem winF_arg {t p q : Int} (h : ¬ (4611686018427387904 ≤ t ∨ 4611686018427387904 ≤ p)) (h' : q < 1 ∨ 4611686018427387904 < q ∨ t < p) : winF t p q = (0, 0, 1) := by unfold winF; rw [if_neg h, if_pos h']
theorem winF_ok {t p q : Int} (h : ¬ (4611686018427387904 ≤ t ∨ 4611686018427387904 ≤ p)) (h' : ¬ (q < 1 ∨ 4611686018427387904 < q ∨ t < p)) : winF t p q = ((t - p) / q, p + (t - p) / q * q, 0) := by unfold winF; rw [if_neg h, if_neg h']

theorem may_any (t : Int) (w : World) : Calls Try.prog 44 #[.int .u64 t] w fun e w' => e = .returned (.bool (decide (t < 4611686018427387904))) ∧ w = w' := by
  go_enter Try.func44, Try.ntmps44
  go_wp2
  go_ret
  exact ⟨rfl, rfl⟩

set_option maxHeartbeats 400000 in
theorem add_any (t s : Int) (w : World) (ht : 0 ≤ t) (ht' : t ≤ 18446744073709551615) (hs : 0 ≤ s) (hs' : s ≤ 18446744073709551615) :
    Calls Try.prog 59 #[.int .u64 t, .int .u64 s] w fun e w' => e = .returned (.tuple #[.int .u64 (addF t s).1, .int .i64 (addF t s).2]) ∧ w = w' := by
  by_cases h1 : t < 4611686018427387904
  · by_cases h2 : s ≤ 4611686018427387904
    · by_cases h3 : t + s < 4611686018427387904
      all_goals
        go_enter Try.func59, Try.ntmps59
        go_wp2
        go_ret2
        exact ⟨ret2 (by unfold addF; split <;> simp <;> omega) (by unfold addF; split <;> simp <;> omega), rfl⟩
    · go_enter Try.func59, Try.ntmps59
      go_wp2
      go_ret2
      exact ⟨ret2 (by unfold addF; split <;> simp <;> omega) (by unfold addF; split <;> simp <;> omega), rfl⟩
  · go_enter Try.func59, Try.ntmps59
    go_wp2
    go_ret2
    exact ⟨ret2 (by unfold addF; split <;> simp <;> omega) (by unfold addF; split <;> simp <;> omega), rfl⟩




end Go.Proofs.Ytbdhmjlbogjkoaa
