/- The contracts of layer 1 (tick): what each of its functions answers, by plain functions on whole numbers; nothing is written. -/
import Derived.Test.YtjhocfebopclhaaBase
namespace Go.Proofs.Ytjhocfebopclhaa
open Go.RowKit
set_option linter.unusedVariables false

def winF (t p q : Int) : Int × Int × Int :=
  if 4611686018427387904 ≤ t ∨ 4611686018427387904 ≤ p then (0, 0, 2) else if q < 1 ∨ 4611686018427387904 < q ∨ t < p then (0, 0, 1) else ((t - p) / q, p + (t - p) / q * q, 0)
def addF (t s : Int) : Int × Int := if t < 4611686018427387904 ∧ s ≤ 4611686018427387904 ∧ t + s < 4611686018427387904 then (t + s, 0) else (0, 2)
def nextF (t p q : Int) : Int × Int :=
  if 4611686018427387904 ≤ t ∨ 4611686018427387904 ≤ p then (0, 2) else if q < 1 ∨ 4611686018427387904 < q then (0, 1) else if t < p then (p, 0) else addF (p + (t - p) / q * q) q
def upF (n q : Int) : Int := if q = 0 then 0 else if n % q = 0 then n / q else n / q + 1
def leftF (t u : Int) : Int := if u ≤ t then 0 else u - t

theorem winF_far {t p q : Int} (h : 4611686018427387904 ≤ t ∨ 4611686018427387904 ≤ p) : winF t p q = (0, 0, 2) := by unfold winF; rw [if_pos h]
theorem winF_arg {t p q : Int} (h : ¬ (4611686018427387904 ≤ t ∨ 4611686018427387904 ≤ p)) (h' : q < 1 ∨ 4611686018427387904 < q ∨ t < p) : winF t p q = (0, 0, 1) := by unfold winF; rw [if_neg h, if_pos h']
theorem winF_ok {t p q : Int} (h : ¬ (4611686018427387904 ≤ t ∨ 4611686018427387904 ≤ p)) (h' : ¬ (q < 1 ∨ 4611686018427387904 < q ∨ t < p)) : winF t p q = ((t - p) / q, p + (t - p) / q * q, 0) := by unfold winF; rw [if_neg h, if_neg h']

theorem may_any (t : Int) (w : World) : Calls Try.prog 21 #[.int .u64 t] w fun e w' => e = .returned (.bool (decide (t < 4611686018427387904))) ∧ w = w' := by
  go_enter Try.func21, Try.ntmps21
  go_wp2
  go_ret
  exact ⟨rfl, rfl⟩

set_option maxHeartbeats 400000 in
theorem add_any (t s : Int) (w : World) (ht : 0 ≤ t) (ht' : t ≤ 18446744073709551615) (hs : 0 ≤ s) (hs' : s ≤ 18446744073709551615) :
    Calls Try.prog 35 #[.int .u64 t, .int .u64 s] w fun e w' => e = .returned (.tuple #[.int .u64 (addF t s).1, .int .i64 (addF t s).2]) ∧ w = w' := by
  by_cases h1 : t < 4611686018427387904
  · by_cases h2 : s ≤ 4611686018427387904
    · by_cases h3 : t + s < 4611686018427387904
      all_goals
        go_enter Try.func35, Try.ntmps35
        go_wp2
        go_ret2
        exact ⟨ret2 (by unfold addF; split <;> simp <;> omega) (by unfold addF; split <;> simp <;> omega), rfl⟩
    · go_enter Try.func35, Try.ntmps35
      go_wp2
      go_ret2
      exact ⟨ret2 (by unfold addF; split <;> simp <;> omega) (by unfold addF; split <;> simp <;> omega), rfl⟩
  · go_enter Try.func35, Try.ntmps35
    go_wp2
    go_ret2
    exact ⟨ret2 (by unfold addF; split <;> simp <;> omega) (by unfold addF; split <;> simp <;> omega), rfl⟩


theorem up_any (n q : Int) (w : World) (ht : 0 ≤ n) (ht' : n ≤ 18446744073709551615) (hs : 0 ≤ q) (hs' : q ≤ 18446744073709551615) :
    Calls Try.prog 30 #[.int .u64 n, .int .u64 q] w fun e w' => e = .returned (.int .u64 (upF n q)) ∧ w = w' := by
  by_cases h : q = 0
  · subst h
    go_enter Try.func30, Try.ntmps30
    go_wp2
    go_ret
    exact ⟨rfl, rfl⟩
  · obtain ⟨b1, b2, b3, b4, b5⟩ := mul_div_le n q (by omega) (by omega)
    have hp : 0 < q := by omega
    by_cases h2 : n % q = 0
    · have e : upF n q = n / q := by unfold upF; rw [if_neg h, if_pos h2]
      rw [e]; clear e
      go_enter Try.func30, Try.ntmps30
      go_wp2
      go_ret
      exact ⟨rfl, rfl⟩
    · have e : upF n q = n / q + 1 := by unfold upF; rw [if_neg h, if_neg h2]
      have h3 : q ≠ 1 := by rintro rfl; exact h2 (Int.emod_one n)
      have h4 : n / q * 2 ≤ n / q * q := Int.mul_le_mul_of_nonneg_left (by omega) b1
      rw [e]; clear e h3
      go_enter Try.func30, Try.ntmps30
      go_wp2
      go_ret
      exact ⟨rfl, rfl⟩

set_option maxHeartbeats 1000000 in
theorem win_any (t p q : Int) (w : World) (ht : 0 ≤ t) (ht' : t ≤ 18446744073709551615) (hp : 0 ≤ p) (hp' : p ≤ 18446744073709551615) (hq : 0 ≤ q) (hq' : q ≤ 18446744073709551615) :
    Calls Try.prog 32 #[.int .u64 t, .int .u64 p, .int .u64 q] w fun e w' => e = .returned (.tuple #[.int .u64 (winF t p q).1, .int .u64 (winF t p q).2.1, .int .i64 (winF t p q).2.2]) ∧ w = w' := by
  by_cases h1 : 4611686018427387904 ≤ t ∨ 4611686018427387904 ≤ p
  · rw [winF_far h1]
    by_cases a1 : t < 4611686018427387904
    · have a2 : decide (p < 4611686018427387904) = false := by simp; omega
      clear h1
      go_enter Try.func32, Try.ntmps32
      go_wp2
      all_goals (go_ret3; exact ⟨rfl, rfl⟩)
    · clear h1
      go_enter Try.func32, Try.ntmps32
      go_wp2
      all_goals (go_ret3; exact ⟨rfl, rfl⟩)
  · by_cases h2 : q < 1 ∨ 4611686018427387904 < q ∨ t < p
    · rw [winF_arg h1 h2]
      have a1 : t < 4611686018427387904 := by omega
      have a2 : p < 4611686018427387904 := by omega
      clear h1
      rcases h2 with h2 | h2 | h2
      all_goals
        go_enter Try.func32, Try.ntmps32
        go_wp2
        all_goals (go_ret3; exact ⟨rfl, rfl⟩)
    · rw [winF_ok h1 h2]
      have a1 : t < 4611686018427387904 := by omega
      have a2 : p < 4611686018427387904 := by omega
      have a3 : p ≤ t := by omega
      have a4 : 1 ≤ q := by omega
      have a5 : q ≤ 4611686018427387904 := by omega
      clear h1 h2
      obtain ⟨b1, b2, b3, b4, b5⟩ := mul_div_le (t - p) q (by omega) (by omega)
      go_enter Try.func32, Try.ntmps32
      go_wp2
      go_ret3
      exact ⟨rfl, rfl⟩

set_option maxHeartbeats 1000000 in
theorem next_any (t p q : Int) (w : World) (ht : 0 ≤ t) (ht' : t ≤ 18446744073709551615) (hp : 0 ≤ p) (hp' : p ≤ 18446744073709551615) (hq : 0 ≤ q) (hq' : q ≤ 18446744073709551615) :
    Calls Try.prog 27 #[.int .u64 t, .int .u64 p, .int .u64 q] w fun e w' => e = .returned (.tuple #[.int .u64 (nextF t p q).1, .int .i64 (nextF t p q).2]) ∧ w = w' := by
  by_cases a1 : t < 4611686018427387904
  · by_cases a2 : p < 4611686018427387904
    · by_cases a3 : 1 ≤ q
      · by_cases a4 : q ≤ 4611686018427387904
        · by_cases a5 : t < p
          · have e : nextF t p q = (p, 0) := by unfold nextF; rw [if_neg (by omega), if_neg (by omega), if_pos a5]
            rw [e]; clear e
            go_enter Try.func27, Try.ntmps27
            go_wp2
            go_ret2
            exact ⟨rfl, rfl⟩
          · have e : nextF t p q = addF (p + (t - p) / q * q) q := by unfold nextF; rw [if_neg (by omega), if_neg (by omega), if_neg a5]
            obtain ⟨b1, b2, b3, b4, b5⟩ := mul_div_le (t - p) q (by omega) (by omega)
            have c := win_any t p q w ht ht' hp hp' hq hq'
            rw [winF_ok (by omega) (by omega)] at c
            rw [e]; clear e
            have C := Lib.hid c
            clear c
            go_enter Try.func27, Try.ntmps27
            go_wp2_with (first | (go_at_call 32; refine Calls.mono C.out ?_; rintro e w' ⟨rfl, rfl⟩) | (go_at_call 35; refine (add_any _ _ _ (by omega) (by omega) (by omega) (by omega)).mono ?_; rintro e w' ⟨rfl, rfl⟩) | go_in)
            go_ret2
            exact ⟨rfl, rfl⟩
        · have e : nextF t p q = (0, 1) := by unfold nextF; rw [if_neg (by omega), if_pos (by omega)]
          rw [e]; clear e
          go_enter Try.func27, Try.ntmps27
          go_wp2
          go_ret2
          exact ⟨rfl, rfl⟩
      · have e : nextF t p q = (0, 1) := by unfold nextF; rw [if_neg (by omega), if_pos (by omega)]
        rw [e]; clear e
        go_enter Try.func27, Try.ntmps27
        go_wp2
        go_ret2
        exact ⟨rfl, rfl⟩
    · have e : nextF t p q = (0, 2) := by unfold nextF; rw [if_pos (by omega)]
      rw [e]; clear e
      have a3 : decide (p < 4611686018427387904) = false := by simp; omega
      go_enter Try.func27, Try.ntmps27
      go_wp2
      go_ret2
      exact ⟨rfl, rfl⟩
  · have e : nextF t p q = (0, 2) := by unfold nextF; rw [if_pos (by omega)]
    rw [e]; clear e
    go_enter Try.func27, Try.ntmps27
    go_wp2
    go_ret2
    exact ⟨rfl, rfl⟩
end Go.Proofs.Ytjhocfebopclhaa
