/- The contracts of the reference of layer 1: the same plain functions as the program's. -/
import Derived.Test.YtbfhohcimomphaaTick
namespace Go.Proofs.Ytbfhohcimomphaa
open Go.RowKit
set_option linter.unusedVariables false

theorem rmay_any (t : Int) (w : World) : Calls Try.prog 42 #[.int .u64 t] w fun e w' => e = .returned (.bool (decide (t < 4611686018427387904))) ∧ w = w' := by
  go_enter Try.func42, Try.ntmps42
  go_wp2
  go_ret
  exact ⟨retb (by simp; omega), rfl⟩



theorem rup_any (n q : Int) (w : World) (ht : 0 ≤ n) (ht' : n ≤ 18446744073709551615) (hs : 0 ≤ q) (hs' : q ≤ 18446744073709551615) :
    Calls Try.prog 29 #[.int .u64 n, .int .u64 q] w fun e w' => e = .returned (.int .u64 (upF n q)) ∧ w = w' := by
  by_cases h : q = 0
  · subst h
    go_enter Try.func29, Try.ntmps29
    go_wp2
    go_ret
    exact ⟨rfl, rfl⟩
  · obtain ⟨b1, b2, b3, b4, b5⟩ := mul_div_le n q (by omega) (by omega)
    have hp : 0 < q := by omega
    have hm : n % q = n - n / q * q := by have := Int.emod_add_mul_ediv n q; rw [Int.mul_comm] at this; omega
    by_cases h2 : n / q * q < n
    · have e : upF n q = n / q + 1 := by unfold upF; rw [if_neg h, if_neg (by omega)]
      have h3 : q ≠ 1 := by rintro rfl; rw [Int.ediv_one] at h2; omega
      have h4 : n / q * 2 ≤ n / q * q := Int.mul_le_mul_of_nonneg_left (by omega) b1
      rw [e]; clear e h3 hm
      go_enter Try.func29, Try.ntmps29
      go_wp2
      go_ret
      exact ⟨rfl, rfl⟩
    · have e : upF n q = n / q := by unfold upF; rw [if_neg h, if_pos (by omega)]
      rw [e]; clear e hm
      go_enter Try.func29, Try.ntmps29
      go_wp2
      go_ret
      exact ⟨rfl, rfl⟩

theorem mod_le (a q : Int) (ha : 0 ≤ a) (hq : 0 < q) : 0 ≤ a % q ∧ a % q < q ∧ a % q ≤ a ∧ a % q = a - a / q * q ∧ (a - a % q) / q = a / q := by
  have h1 := Int.emod_add_mul_ediv a q
  have h2 := Int.emod_nonneg a (show q ≠ 0 by omega)
  have h3 := Int.emod_lt_of_pos a hq
  obtain ⟨b1, b2, b3, b4, b5⟩ := mul_div_le a q ha hq
  have h6 : a / q * q = q * (a / q) := Int.mul_comm _ _
  refine ⟨h2, h3, by omega, by omega, ?_⟩
  have : a - a % q = a / q * q := by omega
  rw [this, Int.mul_ediv_cancel _ (by omega)]

set_option maxHeartbeats 1000000 in
theorem rwin_any (t p q : Int) (w : World) (ht : 0 ≤ t) (ht' : t ≤ 18446744073709551615) (hp : 0 ≤ p) (hp' : p ≤ 18446744073709551615) (hq : 0 ≤ q) (hq' : q ≤ 18446744073709551615) :
    Calls Try.prog 39 #[.int .u64 t, .int .u64 p, .int .u64 q] w fun e w' => e = .returned (.tuple #[.int .u64 (winF t p q).1, .int .u64 (winF t p q).2.1, .int .i64 (winF t p q).2.2]) ∧ w = w' := by
  by_cases h1 : 4611686018427387904 ≤ t ∨ 4611686018427387904 ≤ p
  · rw [winF_far h1]
    by_cases a1 : t < 4611686018427387904
    · have a2 : decide (p < 4611686018427387904) = false := by simp; omega
      clear h1
      go_enter Try.func39, Try.ntmps39
      go_wp2_with (go_at_call 42; refine (rmay_any _ _).mono ?_; rintro e w' ⟨rfl, rfl⟩)
      all_goals (go_ret3; exact ⟨rfl, rfl⟩)
    · clear h1
      go_enter Try.func39, Try.ntmps39
      go_wp2_with (go_at_call 42; refine (rmay_any _ _).mono ?_; rintro e w' ⟨rfl, rfl⟩)
      all_goals (go_ret3; exact ⟨rfl, rfl⟩)
  · by_cases h2 : q < 1 ∨ 4611686018427387904 < q ∨ t < p
    · rw [winF_arg h1 h2]
      have a1 : t < 4611686018427387904 := by omega
      have a2 : p < 4611686018427387904 := by omega
      clear h1
      by_cases z : q = 0
      · subst z
        go_enter Try.func39, Try.ntmps39
        go_wp2_with (go_at_call 42; refine (rmay_any _ _).mono ?_; rintro e w' ⟨rfl, rfl⟩)
        all_goals (go_ret3; exact ⟨rfl, rfl⟩)
      · have z' : (q == 0) = false := by simpa using z
        by_cases g : 4611686018427387904 < q
        · clear h2 z
          go_enter Try.func39, Try.ntmps39
          go_wp2_with (go_at_call 42; refine (rmay_any _ _).mono ?_; rintro e w' ⟨rfl, rfl⟩)
          all_goals (go_ret3; exact ⟨rfl, rfl⟩)
        · have k : t < p := by omega
          have g' : decide (4611686018427387904 < q) = false := by simpa using g
          clear h2 z
          go_enter Try.func39, Try.ntmps39
          go_wp2_with (go_at_call 42; refine (rmay_any _ _).mono ?_; rintro e w' ⟨rfl, rfl⟩)
          all_goals (go_ret3; exact ⟨rfl, rfl⟩)
    · rw [winF_ok h1 h2]
      have a1 : t < 4611686018427387904 := by omega
      have a2 : p < 4611686018427387904 := by omega
      have a3 : p ≤ t := by omega
      have a4 : 1 ≤ q := by omega
      have a5 : q ≤ 4611686018427387904 := by omega
      clear h1 h2
      obtain ⟨b1, b2, b3, b4, b5⟩ := mul_div_le (t - p) q (by omega) (by omega)
      obtain ⟨c1, c2, c3, c4, c5⟩ := mod_le (t - p) q (by omega) (by omega)
      have d1 : (t - p) / q = (t - p - (t - p) % q) / q := c5.symm
      have d2 : p + (t - p) / q * q = t - (t - p) % q := by omega
      rw [d2, d1]
      have C5 := Lib.hid c5
      clear c4 d1 d2 c5 b1 b2 b3 b4 b5
      have z1 : (q == 0) = false := beq_eq_false_iff_ne.2 (by omega)
      have z2 : decide (4611686018427387904 < q) = false := decide_eq_false (by omega)
      have z3 : decide (t < p) = false := decide_eq_false (by omega)
      go_enter Try.func39, Try.ntmps39
      go_wp2_with (go_at_call 42; refine (rmay_any _ _).mono ?_; rintro e w' ⟨rfl, rfl⟩)
      go_ret3
      exact ⟨rfl, rfl⟩

end Go.Proofs.Ytbfhohcimomphaa
