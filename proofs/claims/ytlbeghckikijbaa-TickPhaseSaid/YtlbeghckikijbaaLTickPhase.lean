/- TickPhase: a phase that is later by whole periods counts as many windows less, with the same beginnings. No condition. -/
import Derived.Test.YtlbeghckikijbaaTickAwake
import Derived.Test.YtlbeghckikijbaaArg
import Derived.Test.YtlbeghckikijbaaRows
import Derived.ProofKit
import Derived.OpenShut
import Derived.ShutString
import Derived.ChangeOld
import Derived.Below
import Derived.SizedLaws
namespace Go.Proofs.Ytlbeghckikijbaa
open Go.ChangeShapes Go.WideShapes Go.ChangeAt Go.RowKit
open Go.ChangeMaps (open_string shut_string)
set_option linter.unusedVariables false
namespace tickPhase
theorem phase_law (t p q n : Int) (hp : 0 ≤ p) (hq : 0 < q) (hn : 0 ≤ n) (hle : p + n * q ≤ t) : (t - p) / q = (t - (p + n * q)) / q + n ∧ p + n * q + (t - (p + n * q)) / q * q = p + (t - p) / q * q := by
  have e : t - p = (t - (p + n * q)) + n * q := by omega
  have e1 : (t - p) / q = (t - (p + n * q)) / q + n := by
    rw [e, Int.add_mul_ediv_right _ _ (by omega)]
  refine ⟨e1, ?_⟩
  rw [e1, Int.add_mul]; omega
set_option maxRecDepth 100000 in
set_option maxHeartbeats 4000000 in
theorem walk2 (w : World) (t p0 k0 : Int) (bt : 0 ≤ t) (bt' : t ≤ 4294967295) (p q0 : Int) (b1 : 0 ≤ p) (b1' : p ≤ 65535) (b2 : 0 ≤ q0) (b2' : q0 ≤ 65535) (k : Int) (b3 : 0 ≤ k) (b3' : k ≤ 255) :
    Calls Try.prog 7 #[.int .u32 t, .agg #[.int .u16 p, .int .u16 q0], .int .u8 k] w fun e w' => e = .returned (.bool true) ∧ Below w.heap.size w w' := by
  have hm0 : 0 ≤ k % 20 := by omega
  have hm1 : k % 20 < 20 := by omega
  have hmul0 : 0 ≤ k % 20 * (1 + q0) := Int.mul_nonneg (by omega) (by omega)
  have hmul1 : k % 20 * (1 + q0) ≤ 1310720 := by
    have := Int.mul_le_mul (show k % 20 ≤ 20 by omega) (show 1 + q0 ≤ 65536 by omega) (by omega) (by omega); omega
  have C1 := fun W => Lib.hid (win_any t p (1 + q0) W bt (by omega) b1 (by omega) (by omega) (by omega))
  by_cases h : t < p + k % 20 * (1 + q0)
  · have c2 := fun W => win_any t (p + k % 20 * (1 + q0)) (1 + q0) W bt (by omega) (by omega) (by omega) (by omega) (by omega)
    rw [winF_arg (by omega) (by omega)] at c2
    have C2 := fun W => Lib.hid (c2 W)
    clear c2
    go_enter Try.func7, Try.ntmps7
    go_wp2_with (first
      | (go_at_call 11; refine (awake_any _).mono ?_; rintro e w' ⟨rfl, rfl⟩)
      | (go_at_call 12; (with_reducible refine Calls.mono (C1 _).out ?_); rintro e w' ⟨rfl, rfl⟩)
      | (go_at_call 12; (with_reducible refine Calls.mono (C2 _).out ?_); rintro e w' ⟨rfl, rfl⟩))
    go_ret
    exact ⟨rfl, (Below.refl _ _).alloc (Nat.le_refl _) _⟩
  · obtain ⟨l1, l2⟩ := phase_law t p (1 + q0) (k % 20) b1 (by omega) hm0 (by omega)
    obtain ⟨d1, d2, d3, d4, d5⟩ := mul_div_le (t - (p + k % 20 * (1 + q0))) (1 + q0) (by omega) (by omega)
    have c1 := fun W => win_any t p (1 + q0) W bt (by omega) b1 (by omega) (by omega) (by omega)
    have c2 := fun W => win_any t (p + k % 20 * (1 + q0)) (1 + q0) W bt (by omega) (by omega) (by omega) (by omega) (by omega)
    rw [winF_ok (by omega) (by omega)] at c2 c1
    simp only [← l2] at c1
    simp only [l1] at c1
    have C3 := fun W => Lib.hid (c1 W)
    have C2 := fun W => Lib.hid (c2 W)
    clear c2 c1 C1 l1 l2
    generalize (t - (p + k % 20 * (1 + q0))) / (1 + q0) = d at *
    go_enter Try.func7, Try.ntmps7
    go_wp2_with (first
      | (go_at_call 11; refine (awake_any _).mono ?_; rintro e w' ⟨rfl, rfl⟩)
      | (go_at_call 12; (with_reducible refine Calls.mono (C3 _).out ?_); rintro e w' ⟨rfl, rfl⟩)
      | (go_at_call 12; (with_reducible refine Calls.mono (C2 _).out ?_); rintro e w' ⟨rfl, rfl⟩))
    go_ret
    exact ⟨retb (by simp), (Below.refl _ _).alloc (Nat.le_refl _) _⟩
theorem walk (w : World) (t : Int) (w0 : (Lit.int .u32 t).wf = true) (cs : List Value) (w1 : AllOk [some .u16, some .u16] cs) (k : Int) (w2 : (Lit.int .u8 k).wf = true) :
    Calls Try.prog 7 #[.int .u32 t, .agg ⟨cs⟩, .int .u8 k] w fun e w' => e = .returned (.bool true) ∧ Below w.heap.size w w' := by
  obtain ⟨p, q, rfl, wp, wq⟩ : ∃ p q, cs = [.int .u16 p, .int .u16 q] ∧ (Lit.int .u16 p).wf = true ∧ (Lit.int .u16 q).wf = true := by
    match cs, w1 with
    | [_, _], ⟨⟨p, rfl, wp⟩, ⟨q, rfl, wq⟩, _⟩ => exact ⟨p, q, rfl, wp, wq⟩
  obtain ⟨b0, b0'⟩ := bounds_u32 w0
  obtain ⟨b1, b1'⟩ := bounds_u16 wp
  obtain ⟨b2, b2'⟩ := bounds_u16 wq
  obtain ⟨b3, b3'⟩ := bounds_u8 w2
  exact walk2 w t p k b0 b0' p q b1 b1' b2 b2' k b3 b3'
end tickPhase
namespace tickPhase
theorem own : ownKnob Try.prog.godebug = none := by kernel_rfl
set_option maxRecDepth 100000 in
theorem lifted (os : Os) (started : os.Started) (H : Type) (enc : TypeId × Value → H) :
    ReturnsInHanded {} Try.checked os 7 .any (Rows.tickPhaseSpec.pre6 enc Try.prog Try.f7 Rows.tickPhaseRow.domain false) (Rows.tickPhaseSpec.post enc Try.prog Try.f7 false true false false) := by
  refine returnsInHanded_of_change_sized (C := Try.checked) own started (by kernel_rfl) Try.func7
    (ChangeSpec.witness6 (enc := enc) (C := Try.checked) false ⟨#[], #[.int .u32 0, .agg #[.int .u16 0, .int .u16 0], .int .u8 0], []⟩ 8 (by kernel_rfl) (by kernel_rfl) (by kernel_rfl) (by kernel_rfl)) ?_
  intro W base args ds gs before hval0 hW hcnd hsz0 _
  have hsz : (DataW.weightsEach Try.prog (Try.f7.params.toList ++ Rows.tickPhaseSpec.plain.varTypes Try.prog) (ds ++ gs)).all (· ≤ reachBytes) = true := hsz0
  have hval : ∀ (j : Nat) t v, Try.f7.params[j]? = some t → args[j]? = some v → Value.okWide Try.prog W .any base t v := hval0
  have hW' := hW
  obtain ⟨p, q, hA0, hV, rfl, hfz, hnd⟩ := hW
  have hA : DataW.TrodAll enc Try.prog W 0 (fun _ => true) true Try.f7.params.toList args.toList ds p := hA0
  rw [Try.params7] at hA hval hsz
  obtain ⟨v0, vs0, d0, ds0, p0, q0, hargs, rfl, rfl, h0, r0⟩ := trodAll_cons hA
  obtain ⟨v1, vs1, d1, ds1, p1, q1, rfl, rfl, rfl, h1, r1⟩ := trodAll_cons r0
  obtain ⟨v2, vs2, d2, ds2, p2, q2, rfl, rfl, rfl, h2, r2⟩ := trodAll_cons r1
  obtain ⟨rfl, rfl, rfl⟩ := trodAll_nil r2
  obtain rfl : args = #[v0, v1, v2] := by cases args; simp_all
  obtain ⟨rfl, rfl⟩ := trodVars_none hV
  obtain ⟨a0, rfl, w0⟩ := arg_one Try.underlying32 (hval 0 32 v0 rfl rfl) h0
  obtain ⟨c1, rfl, w1⟩ := arg_agg [some .u16, some .u16] (by first | exact .inl ⟨_, Try.underlying35⟩ | exact .inr ⟨_, _, Try.underlying35⟩) 6 (by kernel_rfl) (by kernel_rfl) (hval 1 35 v1 rfl rfl) h1
  obtain ⟨a2, rfl, w2⟩ := arg_one Try.underlying5 (hval 2 5 v2 rfl rfl) h2
  clear hA0 hval0 hsz0 hsz
  refine (walk W a0 w0 c1 w1 a2 w2).mono fun e W' ⟨he, bel⟩ => ?_
  subst he
  exact ⟨_, rfl, _, _, _, [], _, [], hW', trodAll_mk1 (shut_bool Try.underlying4 _), (trodAll_cons_mk (Below.trod laidOut (by kernel_rfl) (of_decide_eq_true (by kernel_rfl)) h0 bel (fun x hx => by simpa using hW'.lt x (by simp [hx]))) (trodAll_cons_mk (Below.trod laidOut (by kernel_rfl) (of_decide_eq_true (by kernel_rfl)) h1 bel (fun x hx => by simpa using hW'.lt x (by simp [hx]))) (trodAll_cons_mk (Below.trod laidOut (by kernel_rfl) (of_decide_eq_true (by kernel_rfl)) h2 bel (fun x hx => by simpa using hW'.lt x (by simp [hx]))) trodAll_mk0))), rfl, bel.frame _, fun h => by cases h⟩
theorem over : Rows.tickPhaseRow.holds Try.pinned (OpenSpec.ofChange Rows.tickPhaseSpec) :=
  OpenClaim.holds_of_wide 7 Try.f7 rfl rfl rfl rfl rfl rfl rfl ⟨rfl, rfl, rfl, rfl, rfl⟩ rfl rfl rfl rfl rfl (by kernel_rfl) Try.func7 (by kernel_rfl)
    (of_decide_eq_true (by kernel_rfl)) (by unfold Func.isWrapper; first | (rw [if_pos (by decide +kernel)]; kernel_rfl) | (rw [if_neg (by decide +kernel)]; exact ⟨rfl, rfl⟩))
    (fun os started H enc _ => lifted os started H enc)
end tickPhase
theorem tickPhase_holds : Rows.TickPhaseSaid := tickPhase.over
#print axioms tickPhase_holds
end Go.Proofs.Ytlbeghckikijbaa
