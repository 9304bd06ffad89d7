/- CoalTimes: a time that is none, or goes back, is refused, and nothing is done by it. No condition. -/
import Derived.Test.YtppkpelpdmkgjaaCoalAwake
import Derived.Test.YtppkpelpdmkgjaaArg
import Derived.Test.YtppkpelpdmkgjaaRows
import Derived.ProofKit
import Derived.OpenShut
import Derived.ShutString
import Derived.ChangeOld
import Derived.Below
import Derived.SizedLaws
namespace Go.Proofs.Ytppkpelpdmkgjaa
open Go.ChangeShapes Go.WideShapes Go.ChangeAt Go.RowKit
open Go.ChangeMaps (open_string shut_string)
set_option linter.unusedVariables false
set_option linter.unusedSimpArgs false
namespace coalTimes
theorem second (now then_ : Int) (h : now < 4611686018427387904) :
    ∃ r1 r2 g2, raiseF then_ ⟨5, 10, 1, now, now⟩ = ((r1, r2), g2) ∧
      ((4611686018427387904 ≤ then_ ∧ r1 = 0 ∧ r2 = 2 ∧ g2.n = 1) ∨ (then_ < 4611686018427387904 ∧ then_ < now ∧ r1 = 0 ∧ r2 = 1 ∧ g2.n = 1) ∨
       (then_ < 4611686018427387904 ∧ now ≤ then_ ∧ now + 10 < 4611686018427387904 ∧ now + 10 ≤ then_ ∧ r1 = 1 ∧ r2 = 0 ∧ g2.n = 1) ∨
       (then_ < 4611686018427387904 ∧ now ≤ then_ ∧ (4611686018427387904 ≤ now + 10 ∨ then_ < now + 10) ∧ r1 = 0 ∧ r2 = 0 ∧ g2.n = 2)) := by
  unfold raiseF
  by_cases a : 4611686018427387904 ≤ then_
  · rw [if_pos a]; exact ⟨_, _, _, rfl, .inl ⟨a, rfl, rfl, rfl⟩⟩
  · rw [if_neg a]
    by_cases b : then_ < now
    · rw [if_pos b]; exact ⟨_, _, _, rfl, .inr (.inl ⟨by omega, b, rfl, rfl, rfl⟩)⟩
    · rw [if_neg b]
      by_cases c : now + 10 < 4611686018427387904 ∧ now + 10 ≤ then_
      · have e : lateF ⟨5, 10, 1, now, then_⟩ = (1, ⟨5, 10, 0, now, then_⟩) := by unfold lateF; rw [if_neg (by simp only; omega)]
        simp only [e]
        exact ⟨_, _, _, rfl, .inr (.inr (.inl ⟨by omega, by omega, by omega, by omega, by simp [doF], rfl, by simp [doF]⟩))⟩
      · have e : lateF ⟨5, 10, 1, now, then_⟩ = (0, ⟨5, 10, 1, now, then_⟩) := by unfold lateF; rw [if_pos (by simp only; omega)]
        simp only [e]
        exact ⟨_, _, _, rfl, .inr (.inr (.inr ⟨by omega, by omega, by omega, by simp [doF], rfl, by simp [doF]⟩))⟩
set_option maxRecDepth 100000 in
set_option maxHeartbeats 4000000 in
theorem walk (w : World) (now : Int) (w0 : (Lit.int .u64 now).wf = true) (then_ : Int) (w1 : (Lit.int .u64 then_).wf = true) :
    Calls Try.prog 7 #[.int .u64 now, .int .u64 then_] w fun e w' => e = .returned (.bool true) ∧ Below w.heap.size w w' := by
  obtain ⟨b0, b0'⟩ := bounds_u64 w0
  obtain ⟨b1, b1'⟩ := bounds_u64 w1
  clear w0 w1
  have o1 := g0_ok 5 10 (by omega) (by omega) (by omega) (by omega)
  have c1 := fun (W : World) (b : Nat) (k : IsG W b ⟨5, 10, 0, 0, 0⟩) => raise_any k o1 now b0 b0'
  by_cases hn : 4611686018427387904 ≤ now
  · have e1 : raiseF now ⟨5, 10, 0, 0, 0⟩ = ((0, 2), ⟨5, 10, 0, 0, 0⟩) := by unfold raiseF; rw [if_pos hn]
    simp only [e1] at c1
    have C1 := fun W b k => Lib.hid (c1 W b k)
    clear c1 e1 o1
    go_enter Try.func7, Try.ntmps7
    go_wp2_with (first
      | (go_at_call 8; (with_reducible refine Calls.mono (awake_any _) ?_); rintro e w0 ⟨rfl, bel0⟩)
      | (go_at_call 9; (with_reducible refine Calls.mono (new_any 5 10 _ (by omega) (by omega) (by omega) (by omega)) ?_); rintro e w1 ⟨b, rfl, hb, k1, bel1⟩)
      | (go_at_call 11; (with_reducible refine Calls.mono (C1 _ _ k1).out ?_); rintro e w2 ⟨rfl, k2, on2⟩)
      | (go_at_call 17; (with_reducible refine Calls.mono (has_any k2) ?_); rintro e w' ⟨rfl, rfl⟩))
    go_ret
    exact ⟨rfl, Below.only (Below.next bel0 bel1) on2 (Nat.le_trans bel0.size hb)⟩
  · have e1 : raiseF now ⟨5, 10, 0, 0, 0⟩ = ((0, 0), ⟨5, 10, 1, now, now⟩) := by unfold raiseF; rw [if_neg hn, if_neg (by simp only; omega)]; simp [lateF, doF]
    simp only [e1] at c1
    have o2 : Gs.ok ⟨5, 10, 1, now, now⟩ := by constructor <;> simp only <;> omega
    have c2 := fun (W : World) (b : Nat) (k : IsG W b ⟨5, 10, 1, now, now⟩) => due_any k o2
    have c3 := fun (W : World) (b : Nat) (k : IsG W b ⟨5, 10, 1, now, now⟩) => raise_any k o2 then_ b1 b1'
    obtain ⟨r1, r2, g2, e3, cases⟩ := second now then_ (by omega)
    simp only [e3] at c3
    have C1 := fun W b k => Lib.hid (c1 W b k)
    have C3 := fun W b k => Lib.hid (c3 W b k)
    clear c1 c3 e3 e1 o1
    by_cases hd : now + 10 < 4611686018427387904
    · have e2 : dueF ⟨5, 10, 1, now, now⟩ = (now + 10, true) := by unfold dueF; rw [if_neg (by simp only; omega)]
      simp only [e2] at c2
      have C2 := fun W b k => Lib.hid (c2 W b k)
      clear c2 e2 o2
      rcases cases with ⟨h1, rfl, rfl, hg⟩ | ⟨h1, h2, rfl, rfl, hg⟩ | ⟨h1, h2, h3, h4, rfl, rfl, hg⟩ | ⟨h1, h2, h3, rfl, rfl, hg⟩
      case' inr.inr.inr => replace h3 : then_ < now + 10 := by omega
      all_goals
        have H := fun W b (k : IsG W b g2) => Lib.hid (has_any k)
        rw [hg] at H
        clear hg
        go_enter Try.func7, Try.ntmps7
        go_wp2_with (first
          | (go_at_call 8; (with_reducible refine Calls.mono (awake_any _) ?_); rintro e w0 ⟨rfl, bel0⟩)
          | (go_at_call 9; (with_reducible refine Calls.mono (new_any 5 10 _ (by omega) (by omega) (by omega) (by omega)) ?_); rintro e w1 ⟨b, rfl, hb, k1, bel1⟩)
          | (go_at_call 11; (with_reducible refine Calls.mono (C1 _ _ k1).out ?_); rintro e w2 ⟨rfl, k2, on2⟩)
          | (go_at_call 15; (with_reducible refine Calls.mono (C2 _ _ k2).out ?_); rintro e w' ⟨rfl, m, rfl⟩)
          | (go_at_call 11; (with_reducible refine Calls.mono (C3 _ _ (Blk.drewN k2 _)).out ?_); rintro e w3 ⟨rfl, k3, on3⟩)
          | (go_at_call 17; (with_reducible refine Calls.mono (H _ _ k3).out ?_); rintro e w' ⟨rfl, rfl⟩))
        go_ret
        exact ⟨rfl, Below.only (Below.drewN' (Below.only (Below.next bel0 bel1) on2 (Nat.le_trans bel0.size hb)) m) on3 (Nat.le_trans bel0.size hb)⟩
    · have e2 : dueF ⟨5, 10, 1, now, now⟩ = (0, false) := by unfold dueF; rw [if_pos (by simp only; omega)]
      simp only [e2] at c2
      have C2 := fun W b k => Lib.hid (c2 W b k)
      clear c2 e2 o2
      have hd' : decide (now + 10 < 4611686018427387904) = false := decide_eq_false hd
      rcases cases with ⟨h1, rfl, rfl, hg⟩ | ⟨h1, h2, rfl, rfl, hg⟩ | ⟨h1, h2, h3, h4, rfl, rfl, hg⟩ | ⟨h1, h2, h3, rfl, rfl, hg⟩
      case' inr.inr.inl => exact absurd h3 hd
      case' inr.inr.inr => clear h3
      all_goals
        have H := fun W b (k : IsG W b g2) => Lib.hid (has_any k)
        rw [hg] at H
        clear hg
        go_enter Try.func7, Try.ntmps7
        go_wp2_with (first
          | (go_at_call 8; (with_reducible refine Calls.mono (awake_any _) ?_); rintro e w0 ⟨rfl, bel0⟩)
          | (go_at_call 9; (with_reducible refine Calls.mono (new_any 5 10 _ (by omega) (by omega) (by omega) (by omega)) ?_); rintro e w1 ⟨b, rfl, hb, k1, bel1⟩)
          | (go_at_call 11; (with_reducible refine Calls.mono (C1 _ _ k1).out ?_); rintro e w2 ⟨rfl, k2, on2⟩)
          | (go_at_call 15; (with_reducible refine Calls.mono (C2 _ _ k2).out ?_); rintro e w' ⟨rfl, m, rfl⟩)
          | (go_at_call 11; (with_reducible refine Calls.mono (C3 _ _ (Blk.drewN k2 _)).out ?_); rintro e w3 ⟨rfl, k3, on3⟩)
          | (go_at_call 17; (with_reducible refine Calls.mono (H _ _ k3).out ?_); rintro e w' ⟨rfl, rfl⟩))
        go_ret
        exact ⟨rfl, Below.only (Below.drewN' (Below.only (Below.next bel0 bel1) on2 (Nat.le_trans bel0.size hb)) m) on3 (Nat.le_trans bel0.size hb)⟩
end coalTimes
namespace coalTimes
theorem own : ownKnob Try.prog.godebug = none := by kernel_rfl
set_option maxRecDepth 100000 in
theorem lifted (os : Os) (started : os.Started) (H : Type) (enc : TypeId × Value → H) :
    ReturnsInHanded {} Try.checked os 7 .any (Rows.coalTimesSpec.pre6 enc Try.prog Try.f7 Rows.coalTimesRow.domain false) (Rows.coalTimesSpec.post enc Try.prog Try.f7 false true false false) := by
  refine returnsInHanded_of_change_sized (C := Try.checked) own started (by kernel_rfl) Try.func7
    (ChangeSpec.witness6 (enc := enc) (C := Try.checked) false ⟨#[], #[.int .u64 0, .int .u64 0], []⟩ 8 (by kernel_rfl) (by kernel_rfl) (by kernel_rfl) (by kernel_rfl)) ?_
  intro W base args ds gs before hval0 hW hcnd hsz0 _
  have hsz : (DataW.weightsEach Try.prog (Try.f7.params.toList ++ Rows.coalTimesSpec.plain.varTypes Try.prog) (ds ++ gs)).all (· ≤ reachBytes) = true := hsz0
  have hval : ∀ (j : Nat) t v, Try.f7.params[j]? = some t → args[j]? = some v → Value.okWide Try.prog W .any base t v := hval0
  have hW' := hW
  obtain ⟨p, q, hA0, hV, rfl, hfz, hnd⟩ := hW
  have hA : DataW.TrodAll enc Try.prog W 0 (fun _ => true) true Try.f7.params.toList args.toList ds p := hA0
  rw [Try.params7] at hA hval hsz
  obtain ⟨v0, vs0, d0, ds0, p0, q0, hargs, rfl, rfl, h0, r0⟩ := trodAll_cons hA
  obtain ⟨v1, vs1, d1, ds1, p1, q1, rfl, rfl, rfl, h1, r1⟩ := trodAll_cons r0
  obtain ⟨rfl, rfl, rfl⟩ := trodAll_nil r1
  obtain rfl : args = #[v0, v1] := by cases args; simp_all
  obtain ⟨rfl, rfl⟩ := trodVars_none hV
  obtain ⟨a0, rfl, w0⟩ := arg_one Try.underlying22 (hval 0 22 v0 rfl rfl) h0
  obtain ⟨a1, rfl, w1⟩ := arg_one Try.underlying22 (hval 1 22 v1 rfl rfl) h1
  clear hA0 hval0 hsz0 hsz
  refine (walk W a0 w0 a1 w1).mono fun e W' ⟨he, bel⟩ => ?_
  subst he
  exact ⟨_, rfl, _, _, _, [], _, [], hW', trodAll_mk1 (shut_bool Try.underlying4 _), (trodAll_cons_mk (Below.trod laidOut (by kernel_rfl) (of_decide_eq_true (by kernel_rfl)) h0 bel (fun x hx => by simpa using hW'.lt x (by simp [hx]))) (trodAll_cons_mk (Below.trod laidOut (by kernel_rfl) (of_decide_eq_true (by kernel_rfl)) h1 bel (fun x hx => by simpa using hW'.lt x (by simp [hx]))) trodAll_mk0)), rfl, bel.frame _, fun h => by cases h⟩
theorem over : Rows.coalTimesRow.holds Try.pinned (OpenSpec.ofChange Rows.coalTimesSpec) :=
  OpenClaim.holds_of_wide 7 Try.f7 rfl rfl rfl rfl rfl rfl rfl ⟨rfl, rfl, rfl, rfl, rfl⟩ rfl rfl rfl rfl rfl (by kernel_rfl) Try.func7 (by kernel_rfl)
    (of_decide_eq_true (by kernel_rfl)) (by unfold Func.isWrapper; first | (rw [if_pos (by decide +kernel)]; kernel_rfl) | (rw [if_neg (by decide +kernel)]; exact ⟨rfl, rfl⟩))
    (fun os started H enc _ => lifted os started H enc)
end coalTimes
theorem coalTimes_holds : Rows.CoalTimesSaid := coalTimes.over
#print axioms coalTimes_holds
end Go.Proofs.Ytppkpelpdmkgjaa
