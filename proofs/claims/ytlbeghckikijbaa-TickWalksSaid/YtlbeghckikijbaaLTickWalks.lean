/- TickWalks: from a time on, window by window, each begins a period behind the one ahead, up to the horizon. No condition. -/
import Derived.Test.YtlbeghckikijbaaTickAwake
import Derived.Test.YtlbeghckikijbaaArg
import Derived.Test.YtlbeghckikijbaaRows
import Derived.ProofKit
import Derived.OpenShut
import Derived.ShutString
import Derived.ChangeOld
import Derived.Below
import Derived.SizedLaws
namespace Go.Proofs.Ytlbeghckikijbaa
open Go.ChangeShapes Go.WideShapes Go.ChangeAt Go.RowKit
open Go.ChangeMaps (open_string shut_string)
set_option linter.unusedVariables false
namespace tickWalks
/-- What holds at each round's head: either the horizon is reached (and n is 0), or n begins a window. -/
def Inv (t p q n e : Int) : Prop := (e ≠ 0 ∧ e ≤ 2 ∧ 0 ≤ e ∧ n = 0) ∨ (e = 0 ∧ 0 ≤ n ∧ n < 4611686018427387904 ∧ p < 4611686018427387904 ∧ t < n ∧ 1 ≤ q ∧ q ≤ 4611686018427387904 ∧ p ≤ n ∧ (n - p) % q = 0)
theorem next_inv (t p q : Int) (b0 : 0 ≤ t) (b1 : 0 ≤ p) (b2 : 0 ≤ q) : Inv t p q (nextF t p q).1 (nextF t p q).2 := by
  unfold nextF
  by_cases h1 : 4611686018427387904 ≤ t ∨ 4611686018427387904 ≤ p
  · rw [if_pos h1]; left; simp
  · rw [if_neg h1]
    by_cases h2 : q < 1 ∨ 4611686018427387904 < q
    · rw [if_pos h2]; left; simp
    · rw [if_neg h2]
      by_cases h3 : t < p
      · rw [if_pos h3]; right; refine ⟨rfl, ?_, ?_, ?_, ?_, ?_, ?_, ?_, ?_⟩ <;> (try simp only []) <;> first | omega | (rw [Int.sub_self, Int.zero_emod])
      · rw [if_neg h3]
        obtain ⟨d1, d2, d3, d4, d5⟩ := mul_div_le (t - p) q (by omega) (by omega)
        generalize (t - p) / q = d at *
        unfold addF
        by_cases h4 : p + d * q < 4611686018427387904 ∧ q ≤ 4611686018427387904 ∧ p + d * q + q < 4611686018427387904
        · rw [if_pos h4]; right
          refine ⟨rfl, ?_, ?_, ?_, ?_, ?_, ?_, ?_, ?_⟩ <;> (try simp only []) <;> try omega
          have : p + d * q + q - p = (d + 1) * q := by rw [Int.add_mul, Int.one_mul]; omega
          rw [this, Int.mul_emod_left]
        · rw [if_neg h4]; left; simp
theorem step (t p q n : Int) (b1 : 0 ≤ p) (h : Inv t p q n 0) :
    winF n p q = ((n - p) / q, n, 0) ∧ nextF n p q = addF n q ∧ 0 ≤ (n - p) / q ∧ (n - p) / q ≤ n - p ∧ Inv t p q (addF n q).1 (addF n q).2 := by
  rcases h with ⟨h, _⟩ | ⟨_, h0, h1, h2, h3, h4, h5, h6, h7⟩
  · exact absurd rfl h
  · obtain ⟨d1, d2, d3, d4, d5⟩ := mul_div_le (n - p) q (by omega) (by omega)
    have hm := Int.emod_add_mul_ediv (n - p) q
    rw [h7, Int.mul_comm] at hm
    have e1 : p + (n - p) / q * q = n := by omega
    refine ⟨?_, ?_, d1, d2, ?_⟩
    · rw [winF_ok (by omega) (by omega), e1]
    · unfold nextF; rw [if_neg (by omega), if_neg (by omega), if_neg (by omega), e1]
    · unfold addF
      by_cases h8 : n < 4611686018427387904 ∧ q ≤ 4611686018427387904 ∧ n + q < 4611686018427387904
      · rw [if_pos h8]; right
        refine ⟨rfl, ?_, ?_, ?_, ?_, ?_, ?_, ?_, ?_⟩ <;> (try simp only []) <;> try omega
        have : n + q - p = n - p + q := by omega
        rw [this, Int.add_emod_right, h7]
      · rw [if_neg h8]; left; simp
set_option maxRecDepth 100000 in
set_option maxHeartbeats 4000000 in
theorem walk (w : World) (t : Int) (w0 : (Lit.int .u64 t).wf = true) (p : Int) (w1 : (Lit.int .u64 p).wf = true) (q : Int) (w2 : (Lit.int .u64 q).wf = true) :
    Calls Try.prog 5 #[.int .u64 t, .int .u64 p, .int .u64 q] w fun e w' => e = .returned (.bool true) ∧ Below w.heap.size w w' := by
  obtain ⟨b0, b0'⟩ := bounds_u64 w0
  obtain ⟨b1, b1'⟩ := bounds_u64 w1
  obtain ⟨b2, b2'⟩ := bounds_u64 w2
  clear w0 w1 w2
  have I0 := next_inv t p q b0 b1 b2
  have c1 := next_any t p q w b0 b0' b1 b1' b2 b2'
  generalize (nextF t p q).1 = n0 at *
  generalize (nextF t p q).2 = e0 at *
  have C1 := Lib.hid c1
  clear c1
  go_enter Try.func5, Try.ntmps5
  go_wp2_with (first
    | (go_at_call 11; refine (awake_any _).mono ?_; rintro e w' ⟨rfl, rfl⟩)
    | (go_at_call 14; (with_reducible refine Calls.mono C1.out ?_); rintro e w' ⟨rfl, rfl⟩))
  clear C1
  go_loop [7, 8, 9] (fun n e i => ∃ N E I : Int, n = .int .u64 N ∧ e = .int .i64 E ∧ i = .int .i64 I ∧ 0 ≤ I ∧ I ≤ 60 ∧ Hid (Inv t p q N E)) (fun _ _ i => 60 - (intOf i).toNat)
  case atStart => exact ⟨n0, e0, 0, rfl, rfl, rfl, by omega, by omega, I0⟩
  case round =>
    obtain ⟨N, E, I, rfl, rfl, rfl, hI0, hI1, hinv⟩ := hrel
    have hinv' := hinv
    by_cases hE : E = 0
    · subst hE
      obtain ⟨s1, s2, s3, s4, s5⟩ := step t p q N b1 hinv'.out
      rcases hinv'.out with ⟨h, _⟩ | ⟨_, h0, h1, h2, h3, h4, h5, h6, h7⟩
      · exact absurd rfl h
      by_cases hI : I < 60
      · have c1 := win_any N p q w (by omega) (by omega) b1 b1' b2 b2'
        have c2 := next_any N p q w (by omega) (by omega) b1 b1' b2 b2'
        rw [s1] at c1
        rw [s2] at c2
        have C1 := Lib.hid c1
        have z1 : decide (N ≤ t) = false := decide_eq_false (by omega)
        have z2 : ((N - p) % q != 0) = false := by rw [h7]; rfl
        have z3 : ((N - p) / q != (N - p) / q) = false := by simp
        by_cases hl : N + q < 4611686018427387904
        · have e1 : addF N q = (N + q, 0) := by unfold addF; rw [if_pos (by omega)]
          rw [e1] at c2 s5
          have C2 := Lib.hid c2
          have S5 := Lib.hid s5
          clear c1 c2 s1 s2 s5 e1 h7 hinv' hinv
          go_wp2_with (first
            | (go_at_call 12; (with_reducible refine Calls.mono C1.out ?_); rintro e w' ⟨rfl, rfl⟩)
            | (go_at_call 14; (with_reducible refine Calls.mono C2.out ?_); rintro e w' ⟨rfl, rfl⟩))
          go_round
          case rel => exact ⟨N + q, 0, I + 1, rfl, rfl, rfl, by omega, by omega, S5⟩
          case measure => simp [intOf]; omega
        · have e1 : addF N q = (0, 2) := by unfold addF; rw [if_neg (by omega)]
          have z4 : decide (N + q < 4611686018427387904) = false := decide_eq_false (by omega)
          rw [e1] at c2 s5
          have C2 := Lib.hid c2
          have S5 := Lib.hid s5
          clear c1 c2 s1 s2 s5 e1 h7 hinv' hinv
          go_wp2_with (first
            | (go_at_call 12; (with_reducible refine Calls.mono C1.out ?_); rintro e w' ⟨rfl, rfl⟩)
            | (go_at_call 14; (with_reducible refine Calls.mono C2.out ?_); rintro e w' ⟨rfl, rfl⟩))
          go_round
          case rel => exact ⟨0, 2, I + 1, rfl, rfl, rfl, by omega, by omega, S5⟩
          case measure => simp [intOf]; omega
      · clear s1 s2 s5 h7 hinv' hinv
        go_wp2
        go_ret
        exact ⟨rfl, Below.refl _ _⟩
    · rcases hinv'.out with ⟨h, h0, h1, h2⟩ | ⟨h, _⟩
      · subst h2
        have z : (E == 0) = false := beq_eq_false_iff_ne.2 hE
        clear hE h hinv hinv'
        go_wp2
        all_goals (go_ret; exact ⟨rfl, Below.refl _ _⟩)
      · exact absurd h hE
end tickWalks
namespace tickWalks
theorem own : ownKnob Try.prog.godebug = none := by kernel_rfl
set_option maxRecDepth 100000 in
theorem lifted (os : Os) (started : os.Started) (H : Type) (enc : TypeId × Value → H) :
    ReturnsInHanded {} Try.checked os 5 .any (Rows.tickWalksSpec.pre6 enc Try.prog Try.f5 Rows.tickWalksRow.domain false) (Rows.tickWalksSpec.post enc Try.prog Try.f5 false true false false) := by
  refine returnsInHanded_of_change_sized (C := Try.checked) own started (by kernel_rfl) Try.func5
    (ChangeSpec.witness6 (enc := enc) (C := Try.checked) false ⟨#[], #[.int .u64 0, .int .u64 0, .int .u64 0], []⟩ 8 (by kernel_rfl) (by kernel_rfl) (by kernel_rfl) (by kernel_rfl)) ?_
  intro W base args ds gs before hval0 hW hcnd hsz0 _
  have hsz : (DataW.weightsEach Try.prog (Try.f5.params.toList ++ Rows.tickWalksSpec.plain.varTypes Try.prog) (ds ++ gs)).all (· ≤ reachBytes) = true := hsz0
  have hval : ∀ (j : Nat) t v, Try.f5.params[j]? = some t → args[j]? = some v → Value.okWide Try.prog W .any base t v := hval0
  have hW' := hW
  obtain ⟨p, q, hA0, hV, rfl, hfz, hnd⟩ := hW
  have hA : DataW.TrodAll enc Try.prog W 0 (fun _ => true) true Try.f5.params.toList args.toList ds p := hA0
  rw [Try.params5] at hA hval hsz
  obtain ⟨v0, vs0, d0, ds0, p0, q0, hargs, rfl, rfl, h0, r0⟩ := trodAll_cons hA
  obtain ⟨v1, vs1, d1, ds1, p1, q1, rfl, rfl, rfl, h1, r1⟩ := trodAll_cons r0
  obtain ⟨v2, vs2, d2, ds2, p2, q2, rfl, rfl, rfl, h2, r2⟩ := trodAll_cons r1
  obtain ⟨rfl, rfl, rfl⟩ := trodAll_nil r2
  obtain rfl : args = #[v0, v1, v2] := by cases args; simp_all
  obtain ⟨rfl, rfl⟩ := trodVars_none hV
  obtain ⟨a0, rfl, w0⟩ := arg_one Try.underlying22 (hval 0 22 v0 rfl rfl) h0
  obtain ⟨a1, rfl, w1⟩ := arg_one Try.underlying22 (hval 1 22 v1 rfl rfl) h1
  obtain ⟨a2, rfl, w2⟩ := arg_one Try.underlying22 (hval 2 22 v2 rfl rfl) h2
  clear hA0 hval0 hsz0 hsz
  refine (walk W a0 w0 a1 w1 a2 w2).mono fun e W' ⟨he, bel⟩ => ?_
  subst he
  exact ⟨_, rfl, _, _, _, [], _, [], hW', trodAll_mk1 (shut_bool Try.underlying4 _), (trodAll_cons_mk (Below.trod laidOut (by kernel_rfl) (of_decide_eq_true (by kernel_rfl)) h0 bel (fun x hx => by simpa using hW'.lt x (by simp [hx]))) (trodAll_cons_mk (Below.trod laidOut (by kernel_rfl) (of_decide_eq_true (by kernel_rfl)) h1 bel (fun x hx => by simpa using hW'.lt x (by simp [hx]))) (trodAll_cons_mk (Below.trod laidOut (by kernel_rfl) (of_decide_eq_true (by kernel_rfl)) h2 bel (fun x hx => by simpa using hW'.lt x (by simp [hx]))) trodAll_mk0))), rfl, bel.frame _, fun h => by cases h⟩
theorem over : Rows.tickWalksRow.holds Try.pinned (OpenSpec.ofChange Rows.tickWalksSpec) :=
  OpenClaim.holds_of_wide 5 Try.f5 rfl rfl rfl rfl rfl rfl rfl ⟨rfl, rfl, rfl, rfl, rfl⟩ rfl rfl rfl rfl rfl (by kernel_rfl) Try.func5 (by kernel_rfl)
    (of_decide_eq_true (by kernel_rfl)) (by unfold Func.isWrapper; first | (rw [if_pos (by decide +kernel)]; kernel_rfl) | (rw [if_neg (by decide +kernel)]; exact ⟨rfl, rfl⟩))
    (fun os started H enc _ => lifted os started H enc)
end tickWalks
theorem tickWalks_holds : Rows.TickWalksSaid := tickWalks.over
#print axioms tickWalks_holds
end Go.Proofs.Ytlbeghckikijbaa
