/- CoalCounts: raised at one time as often as its count says a gatherer fires, each time, all that it has; with a count of one each raise fires at once. No condition. -/
import Derived.Test.YtppkpelpdmkgjaaCoalAwake
import Derived.Test.YtppkpelpdmkgjaaArg
import Derived.Test.YtppkpelpdmkgjaaRows
import Derived.ProofKit
import Derived.OpenShut
import Derived.ShutString
import Derived.ChangeOld
import Derived.Below
import Derived.SizedLaws
namespace Go.Proofs.Ytppkpelpdmkgjaa
open Go.ChangeShapes Go.WideShapes Go.ChangeAt Go.RowKit
open Go.ChangeMaps (open_string shut_string)
set_option linter.unusedVariables false
set_option linter.unusedSimpArgs false
namespace coalCounts
/-- The gatherer behind j raises at 7. -/
structure St (c h j : Int) (g : Gs) : Prop where
  ok : g.ok
  hc : g.c = c
  hh : g.h = h
  hn : g.n = j % c
  hf : g.n ≠ 0 → g.f = 7
  ht : g.t ≤ 7
theorem step {c h j : Int} {g : Gs} (s : St c h j g) (hc : 0 < c) (hh : 0 < h) (hj : 0 ≤ j) :
    ∃ r g', raiseF 7 g = ((r, 0), g') ∧ St c h (j + 1) g' ∧ g'.n = (j + 1) % c ∧ (((j + 1) % c = 0 ∧ r = c) ∨ ((j + 1) % c ≠ 0 ∧ r = 0)) := by
  obtain ⟨ok, sc, sh, sn, sf, st⟩ := s
  obtain ⟨c0, c1, h0, h1, n0, n1, f0, f1, t0, t1⟩ := ok
  have e : raiseF 7 g = ((raiseF 7 g).1, (raiseF 7 g).2) := rfl
  have okr := raiseF_ok ⟨c0, c1, h0, h1, n0, n1, f0, f1, t0, t1⟩ 7 (by omega)
  have e1 : lateF { g with t := 7 } = (0, { g with t := 7 }) := by
    unfold lateF; rw [if_pos]; simp only
    by_cases z : g.n = 0
    · exact .inl z
    · exact .inr (.inr (by have := sf z; omega))
  have hm := Int.emod_add_mul_ediv j c
  have hm0 := Int.emod_nonneg j (show c ≠ 0 by omega)
  have hm1 := Int.emod_lt_of_pos j hc
  have e2 : raiseF 7 g = (((doF 7 { g with t := 7 }).1, 0), (doF 7 { g with t := 7 }).2) := by
    unfold raiseF; rw [if_neg (by omega), if_neg (by omega), e1]; simp
  by_cases hl : j % c + 1 = c
  · have e3 : doF 7 { g with t := 7 } = (c, { g with t := 7, n := 0, f := if g.n = 0 then 7 else g.f }) := by
      unfold doF; rw [if_pos (.inl (by simp only; omega))]; simp only; congr 1; omega
    have e4 : (j + 1) % c = 0 := by
      have : j + 1 = c * (j / c + 1) := by rw [Int.mul_add, Int.mul_one]; omega
      rw [this, Int.mul_emod_right]
    rw [e2, e3]
    refine ⟨_, _, rfl, ⟨?_, sc, sh, by simp [e4], fun h => absurd rfl h, by simp⟩, by simp [e4], .inl ⟨e4, rfl⟩⟩
    rw [e2, e3] at okr; exact okr
  · have e3 : doF 7 { g with t := 7 } = (0, { g with t := 7, n := g.n + 1, f := if g.n = 0 then 7 else g.f }) := by
      unfold doF; rw [if_neg (by simp only; omega)]
    have e4 : (j + 1) % c = j % c + 1 := by
      have : j + 1 = (j % c + 1) + c * (j / c) := by omega
      rw [this, Int.add_mul_emod_self_left, Int.emod_eq_of_lt (by omega) (by omega)]
    rw [e2, e3]
    refine ⟨_, _, rfl, ⟨?_, sc, sh, by simp only [e4]; omega, fun _ => ?_, by simp⟩, by simp only [e4]; omega, .inr ⟨by omega, rfl⟩⟩
    · rw [e2, e3] at okr; exact okr
    · simp only; split
      · rfl
      · rename_i z; exact sf z
theorem last {c h j : Int} {g : Gs} (s : St c h j g) (hh : 0 < h) (hh' : h ≤ 256) : ∃ g', goF (7 + h) g = ((j % c, 0), g') ∧ g'.n = 0 := by
  obtain ⟨ok, sc, sh, sn, sf, st⟩ := s
  obtain ⟨c0, c1, h0, h1, n0, n1, f0, f1, t0, t1⟩ := ok
  unfold goF
  rw [if_neg (by omega), if_neg (by omega)]
  by_cases z : g.n = 0
  · have e1 : lateF { g with t := 7 + h } = (0, { g with t := 7 + h }) := by unfold lateF; rw [if_pos (.inl z)]
    exact ⟨{ g with t := 7 + h }, by rw [e1, ← sn, z], z⟩
  · have := sf z
    have e1 : lateF { g with t := 7 + h } = (g.n, { g with t := 7 + h, n := 0 }) := by unfold lateF; rw [if_neg (by simp only; omega)]
    exact ⟨{ g with t := 7 + h, n := 0 }, by rw [e1]; simp only [sn], rfl⟩
theorem first (c h : Int) (h1 : 1 ≤ c) (h2 : c ≤ 1000) (h3 : 0 ≤ h) (h4 : h ≤ 1099511627776) : St c h 0 ⟨c, h, 0, 0, 0⟩ :=
  ⟨g0_ok c h h1 h2 h3 h4, rfl, rfl, by simp, fun h => absurd rfl h, by simp⟩
/-- What holds at a round's head. -/
def Rel (w : World) (b : Nat) (c h n : Int) (i : Value) (wr : World) : Prop :=
  ∃ (I : Int) (g : Gs), i = .int .i64 I ∧ 1 ≤ I ∧ I ≤ n % 40 + 1 ∧ St c h (I - 1) g ∧ IsG wr b g ∧ Below w.heap.size w wr
set_option maxRecDepth 100000 in
set_option maxHeartbeats 4000000 in
theorem walk (w : World) (count : Int) (w0 : (Lit.int .u8 count).wf = true) (hold : Int) (w1 : (Lit.int .u8 hold).wf = true) (n : Int) (w2 : (Lit.int .u8 n).wf = true) :
    Calls Try.prog 5 #[.int .u8 count, .int .u8 hold, .int .u8 n] w fun e w' => e = .returned (.bool true) ∧ Below w.heap.size w w' := by
  obtain ⟨b0, b0'⟩ := bounds_u8 w0
  obtain ⟨b1, b1'⟩ := bounds_u8 w1
  obtain ⟨b2, b2'⟩ := bounds_u8 w2
  clear w0 w1 w2
  have hc1 : 1 ≤ 1 + count % 20 := by omega
  have hc2 : 1 + count % 20 ≤ 20 := by omega
  have hn1 : 0 ≤ n % 40 := by omega
  have hn2 : n % 40 < 40 := by omega
  go_enter Try.func5, Try.ntmps5
  go_wp2_with (first
    | (go_at_call 8; (with_reducible refine Calls.mono (awake_any _) ?_); rintro e w0 ⟨rfl, bel0⟩)
    | (go_at_call 9; (with_reducible refine Calls.mono (new_any (1 + count % 20) (hold + 1) _ (by omega) (by omega) (by omega) (by omega)) ?_); rintro e w1 ⟨b, rfl, hb, k1, bel1⟩))
  go_loopw [10] (fun i wr => Hid (Rel w b (1 + count % 20) (hold + 1) n i wr)) (fun i _ => (n % 40 + 1 - intOf i).toNat)
  case atStart => exact ⟨1, _, rfl, by omega, by omega, first _ _ hc1 (by omega) (by omega) (by omega), k1, Below.next bel0 bel1⟩
  case round =>
    obtain ⟨I, g, rfl, hI1, hI2, st, hk, hbel⟩ := hrel
    have hwb : w.heap.size ≤ b := Nat.le_trans bel0.size hb
    by_cases hI : I ≤ n % 40
    · obtain ⟨r, g', e1, st', hn', hr⟩ := step st (by omega) (by omega) (by omega)
      have ej : I - 1 + 1 = I := by omega
      rw [ej] at st' hn' hr
      have c1 := raise_any hk st.ok 7 (by omega) (by omega)
      rw [e1] at c1
      have C1 := Lib.hid c1
      have H := fun W (k : IsG W b g') => Lib.hid (has_any k)
      rw [hn'] at H
      have ST := Lib.hid st'
      have BEL := Lib.hid hbel
      have hm0 := Int.emod_nonneg I (show 1 + count % 20 ≠ 0 by omega)
      have hm1 := Int.emod_lt_of_pos I (show 0 < 1 + count % 20 by omega)
      clear c1 st st' hn' e1 hk hbel ej
      rcases hr with ⟨hz, rfl⟩ | ⟨hz, rfl⟩
      · have z1 : (I % (1 + count % 20) == 0) = true := beq_iff_eq.2 hz
        rw [hz] at H
        clear hz
        go_wp2_with (go_at_call 11; (with_reducible refine Calls.mono C1.out ?_); rintro e w2 ⟨rfl, k2, on2⟩)
        go_quiet ((go_at_call 17; exact Calls.quiet_of_same ((H _ (by first | exact k2 | exact Blk.drewN k2 _)).out.mono fun _ _ h => ⟨h.1, h.2.symm⟩)))
        go_wp2
        go_roundw
        case rel => exact ⟨I + 1, g', rfl, by omega, by omega, by have := ST.out; rwa [show I + 1 - 1 = I by omega], Blk.drewN k2 _, Below.drewN' (Below.only BEL.out on2 hwb) _⟩
        case measure => simp [intOf]; omega
      · have z1 : (I % (1 + count % 20) == 0) = false := beq_eq_false_iff_ne.2 hz
        clear hz
        go_wp2_with (go_at_call 11; (with_reducible refine Calls.mono C1.out ?_); rintro e w2 ⟨rfl, k2, on2⟩)
        go_quiet ((go_at_call 17; exact Calls.quiet_of_same ((H _ (by first | exact k2 | exact Blk.drewN k2 _)).out.mono fun _ _ h => ⟨h.1, h.2.symm⟩)))
        go_wp2
        go_roundw
        case rel => exact ⟨I + 1, g', rfl, by omega, by omega, by have := ST.out; rwa [show I + 1 - 1 = I by omega], Blk.drewN k2 _, Below.drewN' (Below.only BEL.out on2 hwb) _⟩
        case measure => simp [intOf]; omega
    · have ej : I - 1 = n % 40 := by omega
      rw [ej] at st
      obtain ⟨g', e1, hn'⟩ := last st (by omega) (by omega)
      have c1 := go_any hk st.ok (7 + (hold + 1)) (by omega) (by omega)
      rw [e1] at c1
      have ea : (7 : Int) + (hold + 1) = 7 + hold + 1 := by omega
      rw [ea] at c1
      have C1 := Lib.hid c1
      have H := fun W (k : IsG W b g') => Lib.hid (has_any k)
      rw [hn'] at H
      have BEL := Lib.hid hbel
      have hm0 := Int.emod_nonneg (n % 40) (show 1 + count % 20 ≠ 0 by omega)
      have hm1 := Int.emod_lt_of_pos (n % 40) (show 0 < 1 + count % 20 by omega)
      clear c1 st hn' e1 hk hbel ej ea
      go_wp2_with (first
        | (go_at_call 13; (with_reducible refine Calls.mono C1.out ?_); rintro e w2 ⟨rfl, k2, on2⟩)
        | (go_at_call 17; (with_reducible refine Calls.mono (H _ k2).out ?_); rintro e w' ⟨rfl, rfl⟩))
      go_ret
      exact ⟨retb (by simp), Below.only BEL.out on2 hwb⟩
end coalCounts
namespace coalCounts
theorem own : ownKnob Try.prog.godebug = none := by kernel_rfl
set_option maxRecDepth 100000 in
theorem lifted (os : Os) (started : os.Started) (H : Type) (enc : TypeId × Value → H) :
    ReturnsInHanded {} Try.checked os 5 .any (Rows.coalCountsSpec.pre6 enc Try.prog Try.f5 Rows.coalCountsRow.domain false) (Rows.coalCountsSpec.post enc Try.prog Try.f5 false true false false) := by
  refine returnsInHanded_of_change_sized (C := Try.checked) own started (by kernel_rfl) Try.func5
    (ChangeSpec.witness6 (enc := enc) (C := Try.checked) false ⟨#[], #[.int .u8 0, .int .u8 0, .int .u8 0], []⟩ 8 (by kernel_rfl) (by kernel_rfl) (by kernel_rfl) (by kernel_rfl)) ?_
  intro W base args ds gs before hval0 hW hcnd hsz0 _
  have hsz : (DataW.weightsEach Try.prog (Try.f5.params.toList ++ Rows.coalCountsSpec.plain.varTypes Try.prog) (ds ++ gs)).all (· ≤ reachBytes) = true := hsz0
  have hval : ∀ (j : Nat) t v, Try.f5.params[j]? = some t → args[j]? = some v → Value.okWide Try.prog W .any base t v := hval0
  have hW' := hW
  obtain ⟨p, q, hA0, hV, rfl, hfz, hnd⟩ := hW
  have hA : DataW.TrodAll enc Try.prog W 0 (fun _ => true) true Try.f5.params.toList args.toList ds p := hA0
  rw [Try.params5] at hA hval hsz
  obtain ⟨v0, vs0, d0, ds0, p0, q0, hargs, rfl, rfl, h0, r0⟩ := trodAll_cons hA
  obtain ⟨v1, vs1, d1, ds1, p1, q1, rfl, rfl, rfl, h1, r1⟩ := trodAll_cons r0
  obtain ⟨v2, vs2, d2, ds2, p2, q2, rfl, rfl, rfl, h2, r2⟩ := trodAll_cons r1
  obtain ⟨rfl, rfl, rfl⟩ := trodAll_nil r2
  obtain rfl : args = #[v0, v1, v2] := by cases args; simp_all
  obtain ⟨rfl, rfl⟩ := trodVars_none hV
  obtain ⟨a0, rfl, w0⟩ := arg_one Try.underlying5 (hval 0 5 v0 rfl rfl) h0
  obtain ⟨a1, rfl, w1⟩ := arg_one Try.underlying5 (hval 1 5 v1 rfl rfl) h1
  obtain ⟨a2, rfl, w2⟩ := arg_one Try.underlying5 (hval 2 5 v2 rfl rfl) h2
  clear hA0 hval0 hsz0 hsz
  refine (walk W a0 w0 a1 w1 a2 w2).mono fun e W' ⟨he, bel⟩ => ?_
  subst he
  exact ⟨_, rfl, _, _, _, [], _, [], hW', trodAll_mk1 (shut_bool Try.underlying4 _), (trodAll_cons_mk (Below.trod laidOut (by kernel_rfl) (of_decide_eq_true (by kernel_rfl)) h0 bel (fun x hx => by simpa using hW'.lt x (by simp [hx]))) (trodAll_cons_mk (Below.trod laidOut (by kernel_rfl) (of_decide_eq_true (by kernel_rfl)) h1 bel (fun x hx => by simpa using hW'.lt x (by simp [hx]))) (trodAll_cons_mk (Below.trod laidOut (by kernel_rfl) (of_decide_eq_true (by kernel_rfl)) h2 bel (fun x hx => by simpa using hW'.lt x (by simp [hx]))) trodAll_mk0))), rfl, bel.frame _, fun h => by cases h⟩
theorem over : Rows.coalCountsRow.holds Try.pinned (OpenSpec.ofChange Rows.coalCountsSpec) :=
  OpenClaim.holds_of_wide 5 Try.f5 rfl rfl rfl rfl rfl rfl rfl ⟨rfl, rfl, rfl, rfl, rfl⟩ rfl rfl rfl rfl rfl (by kernel_rfl) Try.func5 (by kernel_rfl)
    (of_decide_eq_true (by kernel_rfl)) (by unfold Func.isWrapper; first | (rw [if_pos (by decide +kernel)]; kernel_rfl) | (rw [if_neg (by decide +kernel)]; exact ⟨rfl, rfl⟩))
    (fun os started H enc _ => lifted os started H enc)
end coalCounts
theorem coalCounts_holds : Rows.CoalCountsSaid := coalCounts.over
#print axioms coalCounts_holds
end Go.Proofs.Ytppkpelpdmkgjaa
