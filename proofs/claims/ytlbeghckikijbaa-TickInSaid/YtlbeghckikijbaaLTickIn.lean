/- TickIn: a time is in its window, which begins as many periods behind the phase as it is told; the next one begins a period later; what is left till then is at most a period. No condition. -/
import Derived.Test.YtlbeghckikijbaaTickAwake
import Derived.Test.YtlbeghckikijbaaArg
import Derived.Test.YtlbeghckikijbaaRows
import Derived.ProofKit
import Derived.OpenShut
import Derived.ShutString
import Derived.ChangeOld
import Derived.Below
import Derived.SizedLaws
namespace Go.Proofs.Ytlbeghckikijbaa
open Go.ChangeShapes Go.WideShapes Go.ChangeAt Go.RowKit
open Go.ChangeMaps (open_string shut_string)
set_option linter.unusedVariables false
namespace tickIn
theorem div_next (d q : Int) (hq : 0 < q) : (d * q + q) / q = d + 1 := by
  have e : d * q + q = (d + 1) * q := by rw [Int.add_mul, Int.one_mul]
  rw [e, Int.mul_ediv_cancel _ (by omega)]
set_option maxHeartbeats 2000000 in
theorem walk (w : World) (t : Int) (w0 : (Lit.int .u64 t).wf = true) (p : Int) (w1 : (Lit.int .u64 p).wf = true) (q : Int) (w2 : (Lit.int .u64 q).wf = true) :
    Calls Try.prog 9 #[.int .u64 t, .int .u64 p, .int .u64 q] w fun e w' => e = .returned (.bool true) ∧ Below w.heap.size w w' := by
  obtain ⟨b0, b0'⟩ := bounds_u64 w0
  obtain ⟨b1, b1'⟩ := bounds_u64 w1
  obtain ⟨b2, b2'⟩ := bounds_u64 w2
  clear w0 w1 w2
  have c1 := win_any t p q w b0 b0' b1 b1' b2 b2'
  have c2 := next_any t p q w b0 b0' b1 b1' b2 b2'
  by_cases hf : 4611686018427387904 ≤ t ∨ 4611686018427387904 ≤ p
  · rw [winF_far hf] at c1
    have C1 := Lib.hid c1
    clear c1 c2 hf
    go_enter Try.func9, Try.ntmps9
    go_wp2_with (first
      | (go_at_call 11; refine (awake_any _).mono ?_; rintro e w' ⟨rfl, rfl⟩)
      | (go_at_call 12; refine Calls.mono C1.out ?_; rintro e w' ⟨rfl, rfl⟩))
    go_ret
    exact ⟨rfl, Below.refl _ _⟩
  · by_cases ha : q < 1 ∨ 4611686018427387904 < q ∨ t < p
    · rw [winF_arg hf ha] at c1
      have C1 := Lib.hid c1
      clear c1 c2 hf ha
      go_enter Try.func9, Try.ntmps9
      go_wp2_with (first
        | (go_at_call 11; refine (awake_any _).mono ?_; rintro e w' ⟨rfl, rfl⟩)
        | (go_at_call 12; refine Calls.mono C1.out ?_; rintro e w' ⟨rfl, rfl⟩))
      go_ret
      exact ⟨rfl, Below.refl _ _⟩
    · rw [winF_ok hf ha] at c1
      have e2 : nextF t p q = addF (p + (t - p) / q * q) q := by unfold nextF; rw [if_neg hf, if_neg (by omega), if_neg (by omega)]
      rw [e2] at c2
      clear e2
      obtain ⟨d1, d2, d3, d4, d5⟩ := mul_div_le (t - p) q (by omega) (by omega)
      have hn := div_next ((t - p) / q) q (by omega)
      generalize (t - p) / q = d at *
      by_cases hl : p + d * q + q < 4611686018427387904
      · have e3 : addF (p + d * q) q = (p + d * q + q, 0) := by unfold addF; rw [if_pos (by omega)]
        rw [e3] at c2
        have c3 := win_any (p + d * q + q) p q w (by omega) (by omega) b1 b1' b2 b2'
        have e4 : winF (p + d * q + q) p q = (d + 1, p + d * q + q, 0) := by
          rw [winF_ok (by omega) (by omega)]
          have : p + d * q + q - p = d * q + q := by omega
          rw [this, hn, Int.add_mul, Int.one_mul]
          congr 2; omega
        rw [e4] at c3
        have c4 := left_any t (p + d * q + q) w b0 b0' (by omega) (by omega)
        have e5 : leftF t (p + d * q + q) = p + d * q + q - t := by unfold leftF; rw [if_neg (by omega)]
        rw [e5] at c4
        have C1 := Lib.hid c1
        have C2 := Lib.hid c2
        have C3 := Lib.hid c3
        have C4 := Lib.hid c4
        have z1 : decide (p + d * q > t) = false := decide_eq_false (by omega)
        have z2 : decide (t - (p + d * q) ≥ q) = false := decide_eq_false (by omega)
        have f1 : p + d * q ≤ t := by omega
        have f2 : t - (p + d * q) < q := by omega
        have f3 : q ≤ 4611686018427387904 := by omega
        have f4 : 1 ≤ p + d * q + q - t := by omega
        have f5 : p + d * q + q - t ≤ q := by omega
        have f6 : t < 4611686018427387904 := by omega
        have f7 : p < 4611686018427387904 := by omega
        have f8 : 1 ≤ q := by omega
        clear c1 c2 c3 c4 e3 e4 e5 hn hf ha
        go_enter Try.func9, Try.ntmps9
        go_wp2_with (first
          | (go_at_call 11; refine (awake_any _).mono ?_; rintro e w' ⟨rfl, rfl⟩)
          | (go_at_call 12; (with_reducible refine Calls.mono C1.out ?_); rintro e w' ⟨rfl, rfl⟩)
          | (go_at_call 12; (with_reducible refine Calls.mono C3.out ?_); rintro e w' ⟨rfl, rfl⟩)
          | (go_at_call 14; (with_reducible refine Calls.mono C2.out ?_); rintro e w' ⟨rfl, rfl⟩)
          | (go_at_call 21; (with_reducible refine Calls.mono C4.out ?_); rintro e w' ⟨rfl, rfl⟩))
        go_ret
        exact ⟨retb (by simp), Below.refl _ _⟩
      · have e3 : addF (p + d * q) q = (0, 2) := by unfold addF; rw [if_neg (by omega)]
        rw [e3] at c2
        have C1 := Lib.hid c1
        have C2 := Lib.hid c2
        have z1 : decide (p + d * q > t) = false := decide_eq_false (by omega)
        have z2 : decide (t - (p + d * q) ≥ q) = false := decide_eq_false (by omega)
        have f1 : p + d * q ≤ t := by omega
        have f2 : t - (p + d * q) < q := by omega
        have f3 : q ≤ 4611686018427387904 := by omega
        have f6 : t < 4611686018427387904 := by omega
        have f7 : p < 4611686018427387904 := by omega
        have f8 : 1 ≤ q := by omega
        clear c1 c2 e3 hn hf ha
        go_enter Try.func9, Try.ntmps9
        go_wp2_with (first
          | (go_at_call 11; refine (awake_any _).mono ?_; rintro e w' ⟨rfl, rfl⟩)
          | (go_at_call 12; (with_reducible refine Calls.mono C1.out ?_); rintro e w' ⟨rfl, rfl⟩)
          | (go_at_call 14; (with_reducible refine Calls.mono C2.out ?_); rintro e w' ⟨rfl, rfl⟩))
        go_ret
        exact ⟨retb (by simp), Below.refl _ _⟩
end tickIn
namespace tickIn
theorem own : ownKnob Try.prog.godebug = none := by kernel_rfl
set_option maxRecDepth 100000 in
theorem lifted (os : Os) (started : os.Started) (H : Type) (enc : TypeId × Value → H) :
    ReturnsInHanded {} Try.checked os 9 .any (Rows.tickInSpec.pre6 enc Try.prog Try.f9 Rows.tickInRow.domain false) (Rows.tickInSpec.post enc Try.prog Try.f9 false true false false) := by
  refine returnsInHanded_of_change_sized (C := Try.checked) own started (by kernel_rfl) Try.func9
    (ChangeSpec.witness6 (enc := enc) (C := Try.checked) false ⟨#[], #[.int .u64 0, .int .u64 0, .int .u64 0], []⟩ 8 (by kernel_rfl) (by kernel_rfl) (by kernel_rfl) (by kernel_rfl)) ?_
  intro W base args ds gs before hval0 hW hcnd hsz0 _
  have hsz : (DataW.weightsEach Try.prog (Try.f9.params.toList ++ Rows.tickInSpec.plain.varTypes Try.prog) (ds ++ gs)).all (· ≤ reachBytes) = true := hsz0
  have hval : ∀ (j : Nat) t v, Try.f9.params[j]? = some t → args[j]? = some v → Value.okWide Try.prog W .any base t v := hval0
  have hW' := hW
  obtain ⟨p, q, hA0, hV, rfl, hfz, hnd⟩ := hW
  have hA : DataW.TrodAll enc Try.prog W 0 (fun _ => true) true Try.f9.params.toList args.toList ds p := hA0
  rw [Try.params9] at hA hval hsz
  obtain ⟨v0, vs0, d0, ds0, p0, q0, hargs, rfl, rfl, h0, r0⟩ := trodAll_cons hA
  obtain ⟨v1, vs1, d1, ds1, p1, q1, rfl, rfl, rfl, h1, r1⟩ := trodAll_cons r0
  obtain ⟨v2, vs2, d2, ds2, p2, q2, rfl, rfl, rfl, h2, r2⟩ := trodAll_cons r1
  obtain ⟨rfl, rfl, rfl⟩ := trodAll_nil r2
  obtain rfl : args = #[v0, v1, v2] := by cases args; simp_all
  obtain ⟨rfl, rfl⟩ := trodVars_none hV
  obtain ⟨a0, rfl, w0⟩ := arg_one Try.underlying22 (hval 0 22 v0 rfl rfl) h0
  obtain ⟨a1, rfl, w1⟩ := arg_one Try.underlying22 (hval 1 22 v1 rfl rfl) h1
  obtain ⟨a2, rfl, w2⟩ := arg_one Try.underlying22 (hval 2 22 v2 rfl rfl) h2
  clear hA0 hval0 hsz0 hsz
  refine (walk W a0 w0 a1 w1 a2 w2).mono fun e W' ⟨he, bel⟩ => ?_
  subst he
  exact ⟨_, rfl, _, _, _, [], _, [], hW', trodAll_mk1 (shut_bool Try.underlying4 _), (trodAll_cons_mk (Below.trod laidOut (by kernel_rfl) (of_decide_eq_true (by kernel_rfl)) h0 bel (fun x hx => by simpa using hW'.lt x (by simp [hx]))) (trodAll_cons_mk (Below.trod laidOut (by kernel_rfl) (of_decide_eq_true (by kernel_rfl)) h1 bel (fun x hx => by simpa using hW'.lt x (by simp [hx]))) (trodAll_cons_mk (Below.trod laidOut (by kernel_rfl) (of_decide_eq_true (by kernel_rfl)) h2 bel (fun x hx => by simpa using hW'.lt x (by simp [hx]))) trodAll_mk0))), rfl, bel.frame _, fun h => by cases h⟩
theorem over : Rows.tickInRow.holds Try.pinned (OpenSpec.ofChange Rows.tickInSpec) :=
  OpenClaim.holds_of_wide 9 Try.f9 rfl rfl rfl rfl rfl rfl rfl ⟨rfl, rfl, rfl, rfl, rfl⟩ rfl rfl rfl rfl rfl (by kernel_rfl) Try.func9 (by kernel_rfl)
    (of_decide_eq_true (by kernel_rfl)) (by unfold Func.isWrapper; first | (rw [if_pos (by decide +kernel)]; kernel_rfl) | (rw [if_neg (by decide +kernel)]; exact ⟨rfl, rfl⟩))
    (fun os started H enc _ => lifted os started H enc)
end tickIn
theorem tickIn_holds : Rows.TickInSaid := tickIn.over
#print axioms tickIn_holds
end Go.Proofs.Ytlbeghckikijbaa
