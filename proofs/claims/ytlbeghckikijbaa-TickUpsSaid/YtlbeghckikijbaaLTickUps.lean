/- TickUps: a quotient rounded up is the least that is enough; of a sum of spans the time is the same, whichever comes first. No condition. -/
import Derived.Test.YtlbeghckikijbaaTickAwake
import Derived.Test.YtlbeghckikijbaaRows
import Derived.ProofKit
import Derived.OpenShut
import Derived.ShutString
import Derived.ChangeOld
import Derived.Below
import Derived.SizedLaws
namespace Go.Proofs.Ytlbeghckikijbaa
open Go.ChangeShapes Go.WideShapes Go.ChangeAt Go.RowKit
open Go.ChangeMaps (open_string shut_string)
set_option linter.unusedVariables false
namespace tickUps
theorem addF_yes {t s : Int} (h : t < 4611686018427387904 ∧ s ≤ 4611686018427387904 ∧ t + s < 4611686018427387904) : addF t s = (t + s, 0) := by unfold addF; rw [if_pos h]
theorem addF_no {t s : Int} (h : ¬ (t < 4611686018427387904 ∧ s ≤ 4611686018427387904 ∧ t + s < 4611686018427387904)) : addF t s = (0, 2) := by unfold addF; rw [if_neg h]
theorem addF_bd (t s : Int) (h : 0 ≤ t) (h' : 0 ≤ s) : 0 ≤ (addF t s).1 ∧ (addF t s).1 < 4611686018427387904 ∧ ((addF t s).2 = 0 ∨ (addF t s).2 = 2) := by
  unfold addF; split <;> simp <;> omega
/-- What the four sums come to. -/
theorem sums (t a b : Int) (ht : 0 ≤ t) (ha : 0 ≤ a) (hb : 0 ≤ b) :
    ((addF t a).2 = 0 ∧ (addF (addF t a).1 b).2 = 0 ∧ (addF t b).2 = 0 ∧ (addF (addF t b).1 a).2 = 0 ∧ (addF (addF t a).1 b).1 = (addF (addF t b).1 a).1 ∧ (addF (addF t a).1 b).1 - t = a + b ∧ t + a + b < 4611686018427387904)
    ∨ (((addF t a).2 ≠ 0 ∨ (addF t a).2 = 0 ∧ (addF (addF t a).1 b).2 ≠ 0) ∧ ((addF t b).2 ≠ 0 ∨ (addF t b).2 = 0 ∧ (addF (addF t b).1 a).2 ≠ 0)) := by
  by_cases h1 : t < 4611686018427387904 ∧ a ≤ 4611686018427387904 ∧ t + a < 4611686018427387904
  · by_cases h2 : t < 4611686018427387904 ∧ b ≤ 4611686018427387904 ∧ t + b < 4611686018427387904
    · rw [addF_yes h1, addF_yes h2]
      by_cases h3 : t + a + b < 4611686018427387904
      · rw [addF_yes (t := t + a) (s := b) (by omega), addF_yes (t := t + b) (s := a) (by omega)]; left; simp; omega
      · rw [addF_no (t := t + a) (s := b) (by omega), addF_no (t := t + b) (s := a) (by omega)]; right; simp
    · rw [addF_yes h1, addF_no h2, addF_no (t := t + a) (s := b) (by omega)]; right; simp
  · by_cases h2 : t < 4611686018427387904 ∧ b ≤ 4611686018427387904 ∧ t + b < 4611686018427387904
    · rw [addF_no h1, addF_yes h2, addF_no (t := t + b) (s := a) (by omega)]; right; simp
    · rw [addF_no h1, addF_no h2]; right; simp
/-- The quotient rounded up. -/
theorem up_is (b a : Int) (ha : 0 < a) (hb : 0 ≤ b) : 0 ≤ upF b a ∧ upF b a ≤ b ∧ b ≤ upF b a * a ∧ upF b a * a < b + a ∧ (0 < upF b a → 0 ≤ (upF b a - 1) * a ∧ (upF b a - 1) * a < b) := by
  obtain ⟨b1, b2, b3, b4, b5⟩ := mul_div_le b a hb ha
  have hm : b % a = b - b / a * a := by have := Int.emod_add_mul_ediv b a; rw [Int.mul_comm] at this; omega
  unfold upF
  rw [if_neg (by omega)]
  split
  · have : (b / a - 1) * a = b / a * a - a := by rw [Int.sub_mul, Int.one_mul]
    refine ⟨b1, b2, by omega, by omega, fun h => ?_⟩
    have h1 : 0 ≤ (b / a - 1) * a := Int.mul_nonneg (by omega) (by omega)
    omega
  · have e : (b / a + 1) * a = b / a * a + a := by rw [Int.add_mul, Int.one_mul]
    have e1 : b / a + 1 - 1 = b / a := by omega
    rw [e1]
    have h3 : a ≠ 1 := by rintro rfl; simp at *
    have h4 : b / a * 2 ≤ b / a * a := Int.mul_le_mul_of_nonneg_left (by omega) b1
    refine ⟨by omega, by omega, by omega, by omega, fun h => by omega⟩
set_option maxHeartbeats 4000000 in
theorem walk (t a b : Int) (w : World) (w0 : (Lit.int .u64 t).wf = true) (w1 : (Lit.int .u64 a).wf = true) (w2 : (Lit.int .u64 b).wf = true) :
    Calls Try.prog 4 #[.int .u64 t, .int .u64 a, .int .u64 b] w fun e w' => e = .returned (.bool true) ∧ Below w.heap.size w w' := by
  obtain ⟨b0, b0'⟩ := bounds_u64 w0
  obtain ⟨b1, b1'⟩ := bounds_u64 w1
  obtain ⟨b2, b2'⟩ := bounds_u64 w2
  clear w0 w1 w2
  have S := sums t a b b0 b1 b2
  obtain ⟨p1, p2, p3⟩ := addF_bd t a b0 b1
  obtain ⟨q1, q2, q3⟩ := addF_bd t b b0 b2
  have c1 := add_any t a w b0 b0' b1 b1'
  have c2 := add_any (addF t a).1 b w p1 (by omega) b2 b2'
  have c3 := add_any t b w b0 b0' b2 b2'
  have c4 := add_any (addF t b).1 a w q1 (by omega) b1 b1'
  obtain ⟨p4, p5, p6⟩ := addF_bd (addF t a).1 b p1 b2
  obtain ⟨q4, q5, q6⟩ := addF_bd (addF t b).1 a q1 b1
  have C5 := Lib.hid (up_any b a w b2 b2' b1 b1')
  generalize (addF (addF t a).1 b).1 = y at *
  generalize (addF (addF t a).1 b).2 = f at *
  generalize (addF (addF t b).1 a).1 = v at *
  generalize (addF (addF t b).1 a).2 = h at *
  generalize (addF t a).1 = x at *
  generalize (addF t a).2 = e at *
  generalize (addF t b).1 = z at *
  generalize (addF t b).2 = g at *
  have C1 := Lib.hid c1
  have C2 := Lib.hid c2
  have C3 := Lib.hid c3
  have C4 := Lib.hid c4
  clear c1 c2 c3 c4
  by_cases hr : 0 < a ∧ a < 2147483648 ∧ b < 2147483648
  · obtain ⟨hr1, hr2, hr3⟩ := hr
    obtain ⟨u1, u2, u3, u4, u5⟩ := up_is b a hr1 b2
    generalize upF b a = q at *
    have z1 : decide (q * a < b) = false := decide_eq_false (by omega)
    by_cases hq : 0 < q
    · obtain ⟨v1, v2⟩ := u5 hq
      have z2 : decide (b ≤ (q - 1) * a) = false := decide_eq_false (by omega)
      clear u5
      rcases S with ⟨s1, s2, s3, s4, s5, s6, s7⟩ | ⟨s1, s2⟩
      · subst s1 s2 s3 s4 s5
        have s8 : 0 ≤ y - t := by omega
        have s9 : (y - t == a + b) = true := by simp; exact s6
        clear s6 p3 p6 q3 q6
        go_enter Try.func4, Try.ntmps4
        go_wp2_with (first
          | (go_at_call 11; refine (awake_any _).mono ?_; rintro e w' ⟨rfl, rfl⟩)
          | (go_at_call 16; (with_reducible refine Calls.mono C5.out ?_); rintro e w' ⟨rfl, rfl⟩)
          | (go_at_call 17; (with_reducible refine Calls.mono C1.out ?_); rintro e w' ⟨rfl, rfl⟩)
          | (go_at_call 17; (with_reducible refine Calls.mono C2.out ?_); rintro e w' ⟨rfl, rfl⟩)
          | (go_at_call 17; (with_reducible refine Calls.mono C3.out ?_); rintro e w' ⟨rfl, rfl⟩)
          | (go_at_call 17; (with_reducible refine Calls.mono C4.out ?_); rintro e w' ⟨rfl, rfl⟩))
        go_ret
        exact ⟨retb (by simp), Below.refl _ _⟩
      · have s1' : e = 2 ∨ e = 0 ∧ f = 2 := by omega
        have s2' : g = 2 ∨ g = 0 ∧ h = 2 := by omega
        clear s1 s2 p3 p6 q3 q6
        rcases s1' with rfl | ⟨rfl, rfl⟩ <;> rcases s2' with rfl | ⟨rfl, rfl⟩
        all_goals
          go_enter Try.func4, Try.ntmps4
          go_wp2_with (first
            | (go_at_call 11; refine (awake_any _).mono ?_; rintro e w' ⟨rfl, rfl⟩)
            | (go_at_call 16; (with_reducible refine Calls.mono C5.out ?_); rintro e w' ⟨rfl, rfl⟩)
            | (go_at_call 17; (with_reducible refine Calls.mono C1.out ?_); rintro e w' ⟨rfl, rfl⟩)
            | (go_at_call 17; (with_reducible refine Calls.mono C2.out ?_); rintro e w' ⟨rfl, rfl⟩)
            | (go_at_call 17; (with_reducible refine Calls.mono C3.out ?_); rintro e w' ⟨rfl, rfl⟩)
            | (go_at_call 17; (with_reducible refine Calls.mono C4.out ?_); rintro e w' ⟨rfl, rfl⟩))
          go_ret
          exact ⟨retb (by simp), Below.refl _ _⟩
    · have z2 : decide (0 < q) = false := decide_eq_false hq
      clear u5
      rcases S with ⟨s1, s2, s3, s4, s5, s6, s7⟩ | ⟨s1, s2⟩
      · subst s1 s2 s3 s4 s5
        have s8 : 0 ≤ y - t := by omega
        have s9 : (y - t == a + b) = true := by simp; exact s6
        clear s6 p3 p6 q3 q6
        go_enter Try.func4, Try.ntmps4
        go_wp2_with (first
          | (go_at_call 11; refine (awake_any _).mono ?_; rintro e w' ⟨rfl, rfl⟩)
          | (go_at_call 16; (with_reducible refine Calls.mono C5.out ?_); rintro e w' ⟨rfl, rfl⟩)
          | (go_at_call 17; (with_reducible refine Calls.mono C1.out ?_); rintro e w' ⟨rfl, rfl⟩)
          | (go_at_call 17; (with_reducible refine Calls.mono C2.out ?_); rintro e w' ⟨rfl, rfl⟩)
          | (go_at_call 17; (with_reducible refine Calls.mono C3.out ?_); rintro e w' ⟨rfl, rfl⟩)
          | (go_at_call 17; (with_reducible refine Calls.mono C4.out ?_); rintro e w' ⟨rfl, rfl⟩))
        go_ret
        exact ⟨retb (by simp), Below.refl _ _⟩
      · have s1' : e = 2 ∨ e = 0 ∧ f = 2 := by omega
        have s2' : g = 2 ∨ g = 0 ∧ h = 2 := by omega
        clear s1 s2 p3 p6 q3 q6
        rcases s1' with rfl | ⟨rfl, rfl⟩ <;> rcases s2' with rfl | ⟨rfl, rfl⟩
        all_goals
          go_enter Try.func4, Try.ntmps4
          go_wp2_with (first
            | (go_at_call 11; refine (awake_any _).mono ?_; rintro e w' ⟨rfl, rfl⟩)
            | (go_at_call 16; (with_reducible refine Calls.mono C5.out ?_); rintro e w' ⟨rfl, rfl⟩)
            | (go_at_call 17; (with_reducible refine Calls.mono C1.out ?_); rintro e w' ⟨rfl, rfl⟩)
            | (go_at_call 17; (with_reducible refine Calls.mono C2.out ?_); rintro e w' ⟨rfl, rfl⟩)
            | (go_at_call 17; (with_reducible refine Calls.mono C3.out ?_); rintro e w' ⟨rfl, rfl⟩)
            | (go_at_call 17; (with_reducible refine Calls.mono C4.out ?_); rintro e w' ⟨rfl, rfl⟩))
          go_ret
          exact ⟨retb (by simp), Below.refl _ _⟩
  · have hr' : a < 1 ∨ 2147483648 ≤ a ∨ (0 < a ∧ a < 2147483648 ∧ 2147483648 ≤ b) := by omega
    clear hr
    rcases hr' with hr' | hr' | ⟨hr1, hr2, hr'⟩
    · have hz : decide (0 < a) = false := decide_eq_false (by omega)
      rcases S with ⟨s1, s2, s3, s4, s5, s6, s7⟩ | ⟨s1, s2⟩
      · subst s1 s2 s3 s4 s5
        have s8 : 0 ≤ y - t := by omega
        have s9 : (y - t == a + b) = true := by simp; exact s6
        clear s6 p3 p6 q3 q6
        go_enter Try.func4, Try.ntmps4
        go_wp2_with (first
          | (go_at_call 11; refine (awake_any _).mono ?_; rintro e w' ⟨rfl, rfl⟩)
          | (go_at_call 16; (with_reducible refine Calls.mono C5.out ?_); rintro e w' ⟨rfl, rfl⟩)
          | (go_at_call 17; (with_reducible refine Calls.mono C1.out ?_); rintro e w' ⟨rfl, rfl⟩)
          | (go_at_call 17; (with_reducible refine Calls.mono C2.out ?_); rintro e w' ⟨rfl, rfl⟩)
          | (go_at_call 17; (with_reducible refine Calls.mono C3.out ?_); rintro e w' ⟨rfl, rfl⟩)
          | (go_at_call 17; (with_reducible refine Calls.mono C4.out ?_); rintro e w' ⟨rfl, rfl⟩))
        go_ret
        exact ⟨retb (by simp), Below.refl _ _⟩
      · have s1' : e = 2 ∨ e = 0 ∧ f = 2 := by omega
        have s2' : g = 2 ∨ g = 0 ∧ h = 2 := by omega
        clear s1 s2 p3 p6 q3 q6
        rcases s1' with rfl | ⟨rfl, rfl⟩ <;> rcases s2' with rfl | ⟨rfl, rfl⟩
        all_goals
          go_enter Try.func4, Try.ntmps4
          go_wp2_with (first
            | (go_at_call 11; refine (awake_any _).mono ?_; rintro e w' ⟨rfl, rfl⟩)
            | (go_at_call 16; (with_reducible refine Calls.mono C5.out ?_); rintro e w' ⟨rfl, rfl⟩)
            | (go_at_call 17; (with_reducible refine Calls.mono C1.out ?_); rintro e w' ⟨rfl, rfl⟩)
            | (go_at_call 17; (with_reducible refine Calls.mono C2.out ?_); rintro e w' ⟨rfl, rfl⟩)
            | (go_at_call 17; (with_reducible refine Calls.mono C3.out ?_); rintro e w' ⟨rfl, rfl⟩)
            | (go_at_call 17; (with_reducible refine Calls.mono C4.out ?_); rintro e w' ⟨rfl, rfl⟩))
          go_ret
          exact ⟨retb (by simp), Below.refl _ _⟩
    · have hz : decide (a < 2147483648) = false := decide_eq_false (by omega)
      have hz2 : 0 < a := by omega
      rcases S with ⟨s1, s2, s3, s4, s5, s6, s7⟩ | ⟨s1, s2⟩
      · subst s1 s2 s3 s4 s5
        have s8 : 0 ≤ y - t := by omega
        have s9 : (y - t == a + b) = true := by simp; exact s6
        clear s6 p3 p6 q3 q6
        go_enter Try.func4, Try.ntmps4
        go_wp2_with (first
          | (go_at_call 11; refine (awake_any _).mono ?_; rintro e w' ⟨rfl, rfl⟩)
          | (go_at_call 16; (with_reducible refine Calls.mono C5.out ?_); rintro e w' ⟨rfl, rfl⟩)
          | (go_at_call 17; (with_reducible refine Calls.mono C1.out ?_); rintro e w' ⟨rfl, rfl⟩)
          | (go_at_call 17; (with_reducible refine Calls.mono C2.out ?_); rintro e w' ⟨rfl, rfl⟩)
          | (go_at_call 17; (with_reducible refine Calls.mono C3.out ?_); rintro e w' ⟨rfl, rfl⟩)
          | (go_at_call 17; (with_reducible refine Calls.mono C4.out ?_); rintro e w' ⟨rfl, rfl⟩))
        go_ret
        exact ⟨retb (by simp), Below.refl _ _⟩
      · have s1' : e = 2 ∨ e = 0 ∧ f = 2 := by omega
        have s2' : g = 2 ∨ g = 0 ∧ h = 2 := by omega
        clear s1 s2 p3 p6 q3 q6
        rcases s1' with rfl | ⟨rfl, rfl⟩ <;> rcases s2' with rfl | ⟨rfl, rfl⟩
        all_goals
          go_enter Try.func4, Try.ntmps4
          go_wp2_with (first
            | (go_at_call 11; refine (awake_any _).mono ?_; rintro e w' ⟨rfl, rfl⟩)
            | (go_at_call 16; (with_reducible refine Calls.mono C5.out ?_); rintro e w' ⟨rfl, rfl⟩)
            | (go_at_call 17; (with_reducible refine Calls.mono C1.out ?_); rintro e w' ⟨rfl, rfl⟩)
            | (go_at_call 17; (with_reducible refine Calls.mono C2.out ?_); rintro e w' ⟨rfl, rfl⟩)
            | (go_at_call 17; (with_reducible refine Calls.mono C3.out ?_); rintro e w' ⟨rfl, rfl⟩)
            | (go_at_call 17; (with_reducible refine Calls.mono C4.out ?_); rintro e w' ⟨rfl, rfl⟩))
          go_ret
          exact ⟨retb (by simp), Below.refl _ _⟩
    · have hz : decide (b < 2147483648) = false := decide_eq_false (by omega)
      rcases S with ⟨s1, s2, s3, s4, s5, s6, s7⟩ | ⟨s1, s2⟩
      · subst s1 s2 s3 s4 s5
        have s8 : 0 ≤ y - t := by omega
        have s9 : (y - t == a + b) = true := by simp; exact s6
        clear s6 p3 p6 q3 q6
        go_enter Try.func4, Try.ntmps4
        go_wp2_with (first
          | (go_at_call 11; refine (awake_any _).mono ?_; rintro e w' ⟨rfl, rfl⟩)
          | (go_at_call 16; (with_reducible refine Calls.mono C5.out ?_); rintro e w' ⟨rfl, rfl⟩)
          | (go_at_call 17; (with_reducible refine Calls.mono C1.out ?_); rintro e w' ⟨rfl, rfl⟩)
          | (go_at_call 17; (with_reducible refine Calls.mono C2.out ?_); rintro e w' ⟨rfl, rfl⟩)
          | (go_at_call 17; (with_reducible refine Calls.mono C3.out ?_); rintro e w' ⟨rfl, rfl⟩)
          | (go_at_call 17; (with_reducible refine Calls.mono C4.out ?_); rintro e w' ⟨rfl, rfl⟩))
        go_ret
        exact ⟨retb (by simp), Below.refl _ _⟩
      · have s1' : e = 2 ∨ e = 0 ∧ f = 2 := by omega
        have s2' : g = 2 ∨ g = 0 ∧ h = 2 := by omega
        clear s1 s2 p3 p6 q3 q6
        rcases s1' with rfl | ⟨rfl, rfl⟩ <;> rcases s2' with rfl | ⟨rfl, rfl⟩
        all_goals
          go_enter Try.func4, Try.ntmps4
          go_wp2_with (first
            | (go_at_call 11; refine (awake_any _).mono ?_; rintro e w' ⟨rfl, rfl⟩)
            | (go_at_call 16; (with_reducible refine Calls.mono C5.out ?_); rintro e w' ⟨rfl, rfl⟩)
            | (go_at_call 17; (with_reducible refine Calls.mono C1.out ?_); rintro e w' ⟨rfl, rfl⟩)
            | (go_at_call 17; (with_reducible refine Calls.mono C2.out ?_); rintro e w' ⟨rfl, rfl⟩)
            | (go_at_call 17; (with_reducible refine Calls.mono C3.out ?_); rintro e w' ⟨rfl, rfl⟩)
            | (go_at_call 17; (with_reducible refine Calls.mono C4.out ?_); rintro e w' ⟨rfl, rfl⟩))
          go_ret
          exact ⟨retb (by simp), Below.refl _ _⟩
end tickUps
namespace tickUps
theorem own : ownKnob Try.prog.godebug = none := by kernel_rfl
set_option maxRecDepth 100000 in
theorem lifted (os : Os) (started : os.Started) (H : Type) (enc : TypeId × Value → H) :
    ReturnsInHanded {} Try.checked os 4 .any (Rows.tickUpsSpec.pre6 enc Try.prog Try.f4 Rows.tickUpsRow.domain false) (Rows.tickUpsSpec.post enc Try.prog Try.f4 false true false false) := by
  refine returnsInHanded_of_change_sized (C := Try.checked) own started (by kernel_rfl) Try.func4
    (ChangeSpec.witness6 (enc := enc) (C := Try.checked) false ⟨#[], #[.int .u64 0, .int .u64 0, .int .u64 0], []⟩ 8 (by kernel_rfl) (by kernel_rfl) (by kernel_rfl) (by kernel_rfl)) ?_
  intro W base args ds gs before hval0 hW hcnd hsz0 _
  have hsz : (DataW.weightsEach Try.prog (Try.f4.params.toList ++ Rows.tickUpsSpec.plain.varTypes Try.prog) (ds ++ gs)).all (· ≤ reachBytes) = true := hsz0
  have hval : ∀ (j : Nat) t v, Try.f4.params[j]? = some t → args[j]? = some v → Value.okWide Try.prog W .any base t v := hval0
  have hW' := hW
  obtain ⟨p, q, hA0, hV, rfl, hfz, hnd⟩ := hW
  have hA : DataW.TrodAll enc Try.prog W 0 (fun _ => true) true Try.f4.params.toList args.toList ds p := hA0
  rw [Try.params4] at hA hval hsz
  obtain ⟨v0, vs0, d0, ds0, p0, q0, hargs, rfl, rfl, h0, r0⟩ := trodAll_cons hA
  obtain ⟨v1, vs1, d1, ds1, p1, q1, rfl, rfl, rfl, h1, r1⟩ := trodAll_cons r0
  obtain ⟨v2, vs2, d2, ds2, p2, q2, rfl, rfl, rfl, h2, r2⟩ := trodAll_cons r1
  obtain ⟨rfl, rfl, rfl⟩ := trodAll_nil r2
  obtain rfl : args = #[v0, v1, v2] := by cases args; simp_all
  obtain ⟨rfl, rfl⟩ := trodVars_none hV
  obtain ⟨a0, rfl, rfl, rfl, w0⟩ := open_int Try.underlying22 (hval 0 22 v0 rfl rfl) h0
  obtain ⟨a1, rfl, rfl, rfl, w1⟩ := open_int Try.underlying22 (hval 1 22 v1 rfl rfl) h1
  obtain ⟨a2, rfl, rfl, rfl, w2⟩ := open_int Try.underlying22 (hval 2 22 v2 rfl rfl) h2
  clear hA0 hval0 hsz0 hsz
  refine (walk a0 a1 a2 W w0 w1 w2).mono fun e W' ⟨he, bel⟩ => ?_
  subst he
  exact ⟨_, rfl, _, _, _, [], _, [], hW', trodAll_mk1 (shut_bool Try.underlying4 _), (trodAll_cons_mk (shut_int Try.underlying22 w0) (trodAll_cons_mk (shut_int Try.underlying22 w1) (trodAll_cons_mk (shut_int Try.underlying22 w2) trodAll_mk0))), rfl, bel.frame _, fun h => by cases h⟩
theorem over : Rows.tickUpsRow.holds Try.pinned (OpenSpec.ofChange Rows.tickUpsSpec) :=
  OpenClaim.holds_of_wide 4 Try.f4 rfl rfl rfl rfl rfl rfl rfl ⟨rfl, rfl, rfl, rfl, rfl⟩ rfl rfl rfl rfl rfl (by kernel_rfl) Try.func4 (by kernel_rfl)
    (of_decide_eq_true (by kernel_rfl)) (by unfold Func.isWrapper; first | (rw [if_pos (by decide +kernel)]; kernel_rfl) | (rw [if_neg (by decide +kernel)]; exact ⟨rfl, rfl⟩))
    (fun os started H enc _ => lifted os started H enc)
end tickUps
theorem tickUps_holds : Rows.TickUpsSaid := tickUps.over
#print axioms tickUps_holds
end Go.Proofs.Ytlbeghckikijbaa
