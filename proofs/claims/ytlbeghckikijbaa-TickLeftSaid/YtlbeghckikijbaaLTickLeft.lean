/- TickLeft: what is left till a time, added, is that time; what is left from the later one is nothing. No condition. -/
import Derived.Test.YtlbeghckikijbaaTickAwake
import Derived.Test.YtlbeghckikijbaaRows
import Derived.ProofKit
import Derived.OpenShut
import Derived.ShutString
import Derived.ChangeOld
import Derived.Below
import Derived.SizedLaws
namespace Go.Proofs.Ytlbeghckikijbaa
open Go.ChangeShapes Go.WideShapes Go.ChangeAt Go.RowKit
open Go.ChangeMaps (open_string shut_string)
set_option linter.unusedVariables false
namespace tickLeft
set_option maxHeartbeats 2000000 in
theorem walk (a b : Int) (w : World) (w0 : (Lit.int .u64 a).wf = true) (w1 : (Lit.int .u64 b).wf = true) :
    Calls Try.prog 10 #[.int .u64 a, .int .u64 b] w fun e w' => e = .returned (.bool true) ∧ Below w.heap.size w w' := by
  obtain ⟨b0, b0'⟩ := bounds_u64 w0
  obtain ⟨b1, b1'⟩ := bounds_u64 w1
  clear w0 w1
  have c1 := left_any a b w b0 b0' b1 b1'
  have c2 := left_any b a w b1 b1' b0 b0'
  have m1 := may_any a w
  have m2 := may_any b w
  rcases (show a < b ∨ a = b ∨ b < a by omega) with h | h | h
  · have e1 : leftF a b = b - a := by unfold leftF; first | rw [if_neg (by omega)] | rw [if_pos (by omega)]
    have e2 : leftF b a = 0 := by unfold leftF; first | rw [if_neg (by omega)] | rw [if_pos (by omega)]
    rw [e1] at c1
    rw [e2] at c2
    clear e1 e2
    have z1 : (a == b) = false := by simp; omega
    have z2 : (a != b) = true := by simp; omega
    have z3 : (b - a == 0) = false := by simp; omega
    have z4 : 0 < b - a := by omega
    by_cases ha : a < 4611686018427387904
    · by_cases hb : b < 4611686018427387904
      · have c3 := add_any a (b - a) w b0 b0' (by omega) (by omega)
        have c4 := add_any b (0) w b1 b1' (by omega) (by omega)
        have e3 : addF a (b - a) = (b, 0) := by unfold addF; rw [if_pos (by omega)]; congr 1; omega
        have e4 : addF b (0) = (b, 0) := by unfold addF; rw [if_pos (by omega)]; congr 1; omega
        rw [e3] at c3
        rw [e4] at c4
        rw [decide_eq_true ha] at m1
        rw [decide_eq_true hb] at m2
        have C1 := Lib.hid c1
        have C2 := Lib.hid c2
        have C3 := Lib.hid c3
        have C4 := Lib.hid c4
        have M1 := Lib.hid m1
        have M2 := Lib.hid m2
        clear c1 c2 c3 c4 m1 m2 e3 e4
        go_enter Try.func10, Try.ntmps10
        go_wp2_with (first
          | (go_at_call 11; refine (awake_any _).mono ?_; rintro e w' ⟨rfl, rfl⟩)
          | (go_at_call 21; (with_reducible refine Calls.mono C1.out ?_); rintro e w' ⟨rfl, rfl⟩)
          | (go_at_call 21; (with_reducible refine Calls.mono C2.out ?_); rintro e w' ⟨rfl, rfl⟩)
          | (go_at_call 19; (with_reducible refine Calls.mono M1.out ?_); rintro e w' ⟨rfl, rfl⟩)
          | (go_at_call 19; (with_reducible refine Calls.mono M2.out ?_); rintro e w' ⟨rfl, rfl⟩)
          | (go_at_call 17; (with_reducible refine Calls.mono C3.out ?_); rintro e w' ⟨rfl, rfl⟩)
          | (go_at_call 17; (with_reducible refine Calls.mono C4.out ?_); rintro e w' ⟨rfl, rfl⟩))
        go_ret
        exact ⟨retb (by simp), Below.refl _ _⟩
      · rw [decide_eq_true ha] at m1
        rw [decide_eq_false hb] at m2
        have C1 := Lib.hid c1
        have C2 := Lib.hid c2
        have M1 := Lib.hid m1
        have M2 := Lib.hid m2
        clear c1 c2 m1 m2
        go_enter Try.func10, Try.ntmps10
        go_wp2_with (first
          | (go_at_call 11; refine (awake_any _).mono ?_; rintro e w' ⟨rfl, rfl⟩)
          | (go_at_call 21; (with_reducible refine Calls.mono C1.out ?_); rintro e w' ⟨rfl, rfl⟩)
          | (go_at_call 21; (with_reducible refine Calls.mono C2.out ?_); rintro e w' ⟨rfl, rfl⟩)
          | (go_at_call 19; (with_reducible refine Calls.mono M1.out ?_); rintro e w' ⟨rfl, rfl⟩)
          | (go_at_call 19; (with_reducible refine Calls.mono M2.out ?_); rintro e w' ⟨rfl, rfl⟩))
        go_ret
        exact ⟨rfl, Below.refl _ _⟩
    · rw [decide_eq_false ha] at m1
      have C1 := Lib.hid c1
      have C2 := Lib.hid c2
      have M1 := Lib.hid m1
      have M2 := Lib.hid m2
      clear c1 c2 m1 m2
      go_enter Try.func10, Try.ntmps10
      go_wp2_with (first
        | (go_at_call 11; refine (awake_any _).mono ?_; rintro e w' ⟨rfl, rfl⟩)
        | (go_at_call 21; (with_reducible refine Calls.mono C1.out ?_); rintro e w' ⟨rfl, rfl⟩)
        | (go_at_call 21; (with_reducible refine Calls.mono C2.out ?_); rintro e w' ⟨rfl, rfl⟩)
        | (go_at_call 19; (with_reducible refine Calls.mono M1.out ?_); rintro e w' ⟨rfl, rfl⟩)
        | (go_at_call 19; (with_reducible refine Calls.mono M2.out ?_); rintro e w' ⟨rfl, rfl⟩))
      go_ret
      exact ⟨rfl, Below.refl _ _⟩
  · subst h
    have e1 : leftF a a = 0 := by unfold leftF; first | rw [if_neg (by omega)] | rw [if_pos (by omega)]
    have e2 : leftF a a = 0 := by unfold leftF; first | rw [if_neg (by omega)] | rw [if_pos (by omega)]
    rw [e1] at c1
    rw [e2] at c2
    clear e1 e2
    by_cases ha : a < 4611686018427387904
    · by_cases hb : a < 4611686018427387904
      · have c3 := add_any a (0) w b0 b0' (by omega) (by omega)
        have c4 := add_any a (0) w b0 b0' (by omega) (by omega)
        have e3 : addF a (0) = (a, 0) := by unfold addF; rw [if_pos (by omega)]; congr 1; omega
        have e4 : addF a (0) = (a, 0) := by unfold addF; rw [if_pos (by omega)]; congr 1; omega
        rw [e3] at c3
        rw [e4] at c4
        rw [decide_eq_true ha] at m1
        rw [decide_eq_true hb] at m2
        have C1 := Lib.hid c1
        have C2 := Lib.hid c2
        have C3 := Lib.hid c3
        have C4 := Lib.hid c4
        have M1 := Lib.hid m1
        have M2 := Lib.hid m2
        clear c1 c2 c3 c4 m1 m2 e3 e4
        go_enter Try.func10, Try.ntmps10
        go_wp2_with (first
          | (go_at_call 11; refine (awake_any _).mono ?_; rintro e w' ⟨rfl, rfl⟩)
          | (go_at_call 21; (with_reducible refine Calls.mono C1.out ?_); rintro e w' ⟨rfl, rfl⟩)
          | (go_at_call 21; (with_reducible refine Calls.mono C2.out ?_); rintro e w' ⟨rfl, rfl⟩)
          | (go_at_call 19; (with_reducible refine Calls.mono M1.out ?_); rintro e w' ⟨rfl, rfl⟩)
          | (go_at_call 19; (with_reducible refine Calls.mono M2.out ?_); rintro e w' ⟨rfl, rfl⟩)
          | (go_at_call 17; (with_reducible refine Calls.mono C3.out ?_); rintro e w' ⟨rfl, rfl⟩)
          | (go_at_call 17; (with_reducible refine Calls.mono C4.out ?_); rintro e w' ⟨rfl, rfl⟩))
        go_ret
        exact ⟨retb (by simp), Below.refl _ _⟩
      · exact absurd ha hb
    · rw [decide_eq_false ha] at m1
      have C1 := Lib.hid c1
      have C2 := Lib.hid c2
      have M1 := Lib.hid m1
      have M2 := Lib.hid m2
      clear c1 c2 m1 m2
      go_enter Try.func10, Try.ntmps10
      go_wp2_with (first
        | (go_at_call 11; refine (awake_any _).mono ?_; rintro e w' ⟨rfl, rfl⟩)
        | (go_at_call 21; (with_reducible refine Calls.mono C1.out ?_); rintro e w' ⟨rfl, rfl⟩)
        | (go_at_call 21; (with_reducible refine Calls.mono C2.out ?_); rintro e w' ⟨rfl, rfl⟩)
        | (go_at_call 19; (with_reducible refine Calls.mono M1.out ?_); rintro e w' ⟨rfl, rfl⟩)
        | (go_at_call 19; (with_reducible refine Calls.mono M2.out ?_); rintro e w' ⟨rfl, rfl⟩))
      go_ret
      exact ⟨rfl, Below.refl _ _⟩
  · have e1 : leftF a b = 0 := by unfold leftF; first | rw [if_neg (by omega)] | rw [if_pos (by omega)]
    have e2 : leftF b a = a - b := by unfold leftF; first | rw [if_neg (by omega)] | rw [if_pos (by omega)]
    rw [e1] at c1
    rw [e2] at c2
    clear e1 e2
    have z1 : (a == b) = false := by simp; omega
    have z2 : (a != b) = true := by simp; omega
    have z3 : (a - b == 0) = false := by simp; omega
    have z4 : 0 < a - b := by omega
    by_cases ha : a < 4611686018427387904
    · by_cases hb : b < 4611686018427387904
      · have c3 := add_any a (0) w b0 b0' (by omega) (by omega)
        have c4 := add_any b (a - b) w b1 b1' (by omega) (by omega)
        have e3 : addF a (0) = (a, 0) := by unfold addF; rw [if_pos (by omega)]; congr 1; omega
        have e4 : addF b (a - b) = (a, 0) := by unfold addF; rw [if_pos (by omega)]; congr 1; omega
        rw [e3] at c3
        rw [e4] at c4
        rw [decide_eq_true ha] at m1
        rw [decide_eq_true hb] at m2
        have C1 := Lib.hid c1
        have C2 := Lib.hid c2
        have C3 := Lib.hid c3
        have C4 := Lib.hid c4
        have M1 := Lib.hid m1
        have M2 := Lib.hid m2
        clear c1 c2 c3 c4 m1 m2 e3 e4
        go_enter Try.func10, Try.ntmps10
        go_wp2_with (first
          | (go_at_call 11; refine (awake_any _).mono ?_; rintro e w' ⟨rfl, rfl⟩)
          | (go_at_call 21; (with_reducible refine Calls.mono C1.out ?_); rintro e w' ⟨rfl, rfl⟩)
          | (go_at_call 21; (with_reducible refine Calls.mono C2.out ?_); rintro e w' ⟨rfl, rfl⟩)
          | (go_at_call 19; (with_reducible refine Calls.mono M1.out ?_); rintro e w' ⟨rfl, rfl⟩)
          | (go_at_call 19; (with_reducible refine Calls.mono M2.out ?_); rintro e w' ⟨rfl, rfl⟩)
          | (go_at_call 17; (with_reducible refine Calls.mono C3.out ?_); rintro e w' ⟨rfl, rfl⟩)
          | (go_at_call 17; (with_reducible refine Calls.mono C4.out ?_); rintro e w' ⟨rfl, rfl⟩))
        go_ret
        exact ⟨retb (by simp), Below.refl _ _⟩
      · rw [decide_eq_true ha] at m1
        rw [decide_eq_false hb] at m2
        have C1 := Lib.hid c1
        have C2 := Lib.hid c2
        have M1 := Lib.hid m1
        have M2 := Lib.hid m2
        clear c1 c2 m1 m2
        go_enter Try.func10, Try.ntmps10
        go_wp2_with (first
          | (go_at_call 11; refine (awake_any _).mono ?_; rintro e w' ⟨rfl, rfl⟩)
          | (go_at_call 21; (with_reducible refine Calls.mono C1.out ?_); rintro e w' ⟨rfl, rfl⟩)
          | (go_at_call 21; (with_reducible refine Calls.mono C2.out ?_); rintro e w' ⟨rfl, rfl⟩)
          | (go_at_call 19; (with_reducible refine Calls.mono M1.out ?_); rintro e w' ⟨rfl, rfl⟩)
          | (go_at_call 19; (with_reducible refine Calls.mono M2.out ?_); rintro e w' ⟨rfl, rfl⟩))
        go_ret
        exact ⟨rfl, Below.refl _ _⟩
    · rw [decide_eq_false ha] at m1
      have C1 := Lib.hid c1
      have C2 := Lib.hid c2
      have M1 := Lib.hid m1
      have M2 := Lib.hid m2
      clear c1 c2 m1 m2
      go_enter Try.func10, Try.ntmps10
      go_wp2_with (first
        | (go_at_call 11; refine (awake_any _).mono ?_; rintro e w' ⟨rfl, rfl⟩)
        | (go_at_call 21; (with_reducible refine Calls.mono C1.out ?_); rintro e w' ⟨rfl, rfl⟩)
        | (go_at_call 21; (with_reducible refine Calls.mono C2.out ?_); rintro e w' ⟨rfl, rfl⟩)
        | (go_at_call 19; (with_reducible refine Calls.mono M1.out ?_); rintro e w' ⟨rfl, rfl⟩)
        | (go_at_call 19; (with_reducible refine Calls.mono M2.out ?_); rintro e w' ⟨rfl, rfl⟩))
      go_ret
      exact ⟨rfl, Below.refl _ _⟩
end tickLeft
namespace tickLeft
theorem own : ownKnob Try.prog.godebug = none := by kernel_rfl
set_option maxRecDepth 100000 in
theorem lifted (os : Os) (started : os.Started) (H : Type) (enc : TypeId × Value → H) :
    ReturnsInHanded {} Try.checked os 10 .any (Rows.tickLeftSpec.pre6 enc Try.prog Try.f10 Rows.tickLeftRow.domain false) (Rows.tickLeftSpec.post enc Try.prog Try.f10 false true false false) := by
  refine returnsInHanded_of_change_sized (C := Try.checked) own started (by kernel_rfl) Try.func10
    (ChangeSpec.witness6 (enc := enc) (C := Try.checked) false ⟨#[], #[.int .u64 0, .int .u64 0], []⟩ 8 (by kernel_rfl) (by kernel_rfl) (by kernel_rfl) (by kernel_rfl)) ?_
  intro W base args ds gs before hval0 hW hcnd hsz0 _
  have hsz : (DataW.weightsEach Try.prog (Try.f10.params.toList ++ Rows.tickLeftSpec.plain.varTypes Try.prog) (ds ++ gs)).all (· ≤ reachBytes) = true := hsz0
  have hval : ∀ (j : Nat) t v, Try.f10.params[j]? = some t → args[j]? = some v → Value.okWide Try.prog W .any base t v := hval0
  have hW' := hW
  obtain ⟨p, q, hA0, hV, rfl, hfz, hnd⟩ := hW
  have hA : DataW.TrodAll enc Try.prog W 0 (fun _ => true) true Try.f10.params.toList args.toList ds p := hA0
  rw [Try.params10] at hA hval hsz
  obtain ⟨v0, vs0, d0, ds0, p0, q0, hargs, rfl, rfl, h0, r0⟩ := trodAll_cons hA
  obtain ⟨v1, vs1, d1, ds1, p1, q1, rfl, rfl, rfl, h1, r1⟩ := trodAll_cons r0
  obtain ⟨rfl, rfl, rfl⟩ := trodAll_nil r1
  obtain rfl : args = #[v0, v1] := by cases args; simp_all
  obtain ⟨rfl, rfl⟩ := trodVars_none hV
  obtain ⟨a0, rfl, rfl, rfl, w0⟩ := open_int Try.underlying22 (hval 0 22 v0 rfl rfl) h0
  obtain ⟨a1, rfl, rfl, rfl, w1⟩ := open_int Try.underlying22 (hval 1 22 v1 rfl rfl) h1
  clear hA0 hval0 hsz0 hsz
  refine (walk a0 a1 W w0 w1).mono fun e W' ⟨he, bel⟩ => ?_
  subst he
  exact ⟨_, rfl, _, _, _, [], _, [], hW', trodAll_mk1 (shut_bool Try.underlying4 _), (trodAll_cons_mk (shut_int Try.underlying22 w0) (trodAll_cons_mk (shut_int Try.underlying22 w1) trodAll_mk0)), rfl, bel.frame _, fun h => by cases h⟩
theorem over : Rows.tickLeftRow.holds Try.pinned (OpenSpec.ofChange Rows.tickLeftSpec) :=
  OpenClaim.holds_of_wide 10 Try.f10 rfl rfl rfl rfl rfl rfl rfl ⟨rfl, rfl, rfl, rfl, rfl⟩ rfl rfl rfl rfl rfl (by kernel_rfl) Try.func10 (by kernel_rfl)
    (of_decide_eq_true (by kernel_rfl)) (by unfold Func.isWrapper; first | (rw [if_pos (by decide +kernel)]; kernel_rfl) | (rw [if_neg (by decide +kernel)]; exact ⟨rfl, rfl⟩))
    (fun os started H enc _ => lifted os started H enc)
end tickLeft
theorem tickLeft_holds : Rows.TickLeftSaid := tickLeft.over
#print axioms tickLeft_holds
end Go.Proofs.Ytlbeghckikijbaa
