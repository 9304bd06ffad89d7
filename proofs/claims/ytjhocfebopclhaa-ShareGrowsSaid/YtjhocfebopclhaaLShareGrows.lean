/- ShareGrows: of a longer span no less may be taken, nor more than one a tick more; of a span without ticks nothing. No condition. -/
import Derived.Test.YtjhocfebopclhaaShareLaw
import Derived.Test.YtjhocfebopclhaaArg
import Derived.Test.YtjhocfebopclhaaRows
import Derived.ProofKit
import Derived.OpenShut
import Derived.ShutString
import Derived.ChangeOld
import Derived.Below
import Derived.SizedLaws
namespace Go.Proofs.Ytjhocfebopclhaa
open Go.ChangeShapes Go.WideShapes Go.ChangeAt Go.RowKit
open Go.ChangeMaps (open_string shut_string)
set_option linter.unusedVariables false
set_option linter.unusedSimpArgs false
namespace shareGrows
set_option maxRecDepth 100000 in
set_option maxHeartbeats 8000000 in
theorem walk2 (w : World) (b p : Int) (bb : 0 ≤ b) (bb' : b ≤ 18446744073709551615) (bp : 0 ≤ p) (bp' : p ≤ 18446744073709551615) (n : Int) (b1 : 0 ≤ n) (b1' : n ≤ 4294967295) (d : Int) (b2 : 0 ≤ d) (b2' : d ≤ 65535) :
    Calls Try.prog 6 #[.agg #[.int .u64 b, .int .u64 p], .int .u32 n, .int .u16 d] w fun e w' => e = .returned (.bool true) ∧ Below w.heap.size w w' := by
  have M1 := fun W => Lib.hid (maym_any b p W bb bb' bp bp')
  have c1 := fun W => mostM_any b p n W bb bb' bp bp' (by omega) (by omega)
  have c2 := fun W => mostM_any b p (n + d) W bb bb' bp bp' (by omega) (by omega)
  have BOX := Lib.hid (boxm w b p)
  cases h1 : mayM b p with
  | false =>
    rw [h1] at M1
    rw [mostM_no h1] at c1 c2
    have N1 := fun W => Lib.hid (c1 W)
    have N2 := fun W => Lib.hid (c2 W)
    clear h1 c1 c2
    go_enter Try.func6, Try.ntmps6
    go_wp2_with (first
        | (go_at_call 8; (with_reducible refine Calls.mono (awake_any _) ?_); rintro e w0 ⟨rfl, bel0⟩
           have HB := Lib.hid bel0; clear bel0; obtain ⟨q0, q1⟩ := BOX.out _ HB.out)
        | (go_at_call 19; (with_reducible refine Calls.mono (N1 _).out ?_); rintro e w4 ⟨rfl, bel0⟩
           have HB := Lib.hid (Below.next HB.out bel0); clear bel0; obtain ⟨q0, q1⟩ := BOX.out _ HB.out)
        | (go_at_call 19; (with_reducible refine Calls.mono (N2 _).out ?_); rintro e w5 ⟨rfl, bel0⟩
           have HB := Lib.hid (Below.next HB.out bel0); clear bel0; obtain ⟨q0, q1⟩ := BOX.out _ HB.out)
        | (go_at_call 10; (with_reducible refine Calls.mono (M1 _).out ?_); rintro e w0 ⟨rfl, bel0⟩
           have HB := Lib.hid (Below.next HB.out bel0); clear bel0; obtain ⟨q0, q1⟩ := BOX.out _ HB.out))
    go_ret
    exact ⟨rfl, Below.next ((Below.refl _ _).alloc (Nat.le_refl _) _) HB.out⟩
  | true =>
    rw [h1] at M1
    have c3 := fun W => mostM_any b p 0 W bb bb' bp bp' (by omega) (by omega)
    have c4 := fun W => mostM_any b p 1 W bb bb' bp bp' (by omega) (by omega)
    obtain ⟨z3, z4⟩ := mostM_one h1
    rw [z3] at c3
    rw [z4] at c4
    obtain ⟨y1, y2, y3⟩ := mostM_mono h1 b1 (show n ≤ n + d by omega) (by omega)
    have y4 := (mostM_mono h1 (show 0 ≤ n + d by omega) (Int.le_refl _) (by omega)).2.1
    generalize mostM b p n = x at *
    generalize mostM b p (n + d) = y at *
    have N1 := fun W => Lib.hid (c1 W)
    have N2 := fun W => Lib.hid (c2 W)
    have N3 := fun W => Lib.hid (c3 W)
    have N4 := fun W => Lib.hid (c4 W)
    have d1 : decide (x ≤ y) = true := decide_eq_true y1
    have d2 : decide (x ≤ n) = true := decide_eq_true y2
    clear h1 c1 c2 c3 c4 z3 z4
    go_enter Try.func6, Try.ntmps6
    go_wp2_with (first
        | (go_at_call 8; (with_reducible refine Calls.mono (awake_any _) ?_); rintro e w0 ⟨rfl, bel0⟩
           have HB := Lib.hid bel0; clear bel0; obtain ⟨q0, q1⟩ := BOX.out _ HB.out)
        | (go_at_call 19; (with_reducible refine Calls.mono (N1 _).out ?_); rintro e w4 ⟨rfl, bel0⟩
           have HB := Lib.hid (Below.next HB.out bel0); clear bel0; obtain ⟨q0, q1⟩ := BOX.out _ HB.out)
        | (go_at_call 19; (with_reducible refine Calls.mono (N2 _).out ?_); rintro e w5 ⟨rfl, bel0⟩
           have HB := Lib.hid (Below.next HB.out bel0); clear bel0; obtain ⟨q0, q1⟩ := BOX.out _ HB.out)
        | (go_at_call 10; (with_reducible refine Calls.mono (M1 _).out ?_); rintro e w0 ⟨rfl, bel0⟩
           have HB := Lib.hid (Below.next HB.out bel0); clear bel0; obtain ⟨q0, q1⟩ := BOX.out _ HB.out)
        | (go_at_call 19; (with_reducible refine Calls.mono (N3 _).out ?_); rintro e w6 ⟨rfl, bel0⟩
           have HB := Lib.hid (Below.next HB.out bel0); clear bel0; obtain ⟨q0, q1⟩ := BOX.out _ HB.out)
        | (go_at_call 19; (with_reducible refine Calls.mono (N4 _).out ?_); rintro e w7 ⟨rfl, bel0⟩
           have HB := Lib.hid (Below.next HB.out bel0); clear bel0; obtain ⟨q0, q1⟩ := BOX.out _ HB.out))
    go_ret
    exact ⟨rfl, Below.next ((Below.refl _ _).alloc (Nat.le_refl _) _) HB.out⟩
theorem walk (w : World) (cs : List Value) (ws : AllOk [some .u64, some .u64] cs) (n : Int) (w1 : (Lit.int .u32 n).wf = true) (d : Int) (w2 : (Lit.int .u16 d).wf = true) :
    Calls Try.prog 6 #[.agg ⟨cs⟩, .int .u32 n, .int .u16 d] w fun e w' => e = .returned (.bool true) ∧ Below w.heap.size w w' := by
  obtain ⟨b, p, rfl, b1, b2, b3, b4⟩ := shareOf ws
  obtain ⟨f0, f1⟩ := bounds_u32 w1
  obtain ⟨g0, g1⟩ := bounds_u16 w2
  exact walk2 w b p b1 b2 b3 b4 n f0 f1 d g0 g1
end shareGrows
namespace shareGrows
theorem own : ownKnob Try.prog.godebug = none := by kernel_rfl
set_option maxRecDepth 100000 in
theorem lifted (os : Os) (started : os.Started) (H : Type) (enc : TypeId × Value → H) :
    ReturnsInHanded {} Try.checked os 6 .any (Rows.shareGrowsSpec.pre6 enc Try.prog Try.f6 Rows.shareGrowsRow.domain false) (Rows.shareGrowsSpec.post enc Try.prog Try.f6 false true false false) := by
  refine returnsInHanded_of_change_sized (C := Try.checked) own started (by kernel_rfl) Try.func6
    (ChangeSpec.witness6 (enc := enc) (C := Try.checked) false ⟨#[], #[.agg #[.int .u64 0, .int .u64 0], .int .u32 0, .int .u16 0], []⟩ 8 (by kernel_rfl) (by kernel_rfl) (by kernel_rfl) (by kernel_rfl)) ?_
  intro W base args ds gs before hval0 hW hcnd hsz0 _
  have hsz : (DataW.weightsEach Try.prog (Try.f6.params.toList ++ Rows.shareGrowsSpec.plain.varTypes Try.prog) (ds ++ gs)).all (· ≤ reachBytes) = true := hsz0
  have hval : ∀ (j : Nat) t v, Try.f6.params[j]? = some t → args[j]? = some v → Value.okWide Try.prog W .any base t v := hval0
  have hW' := hW
  obtain ⟨p, q, hA0, hV, rfl, hfz, hnd⟩ := hW
  have hA : DataW.TrodAll enc Try.prog W 0 (fun _ => true) true Try.f6.params.toList args.toList ds p := hA0
  rw [Try.params6] at hA hval hsz
  obtain ⟨v0, vs0, d0, ds0, p0, q0, hargs, rfl, rfl, h0, r0⟩ := trodAll_cons hA
  obtain ⟨v1, vs1, d1, ds1, p1, q1, rfl, rfl, rfl, h1, r1⟩ := trodAll_cons r0
  obtain ⟨v2, vs2, d2, ds2, p2, q2, rfl, rfl, rfl, h2, r2⟩ := trodAll_cons r1
  obtain ⟨rfl, rfl, rfl⟩ := trodAll_nil r2
  obtain rfl : args = #[v0, v1, v2] := by cases args; simp_all
  obtain ⟨rfl, rfl⟩ := trodVars_none hV
  obtain ⟨c0, rfl, w0⟩ := arg_agg [some .u64, some .u64] (by first | exact .inl ⟨_, Try.underlying24⟩ | exact .inr ⟨_, _, Try.underlying24⟩) 6 (by kernel_rfl) (by kernel_rfl) (hval 0 24 v0 rfl rfl) h0
  obtain ⟨a1, rfl, w1⟩ := arg_one Try.underlying46 (hval 1 46 v1 rfl rfl) h1
  obtain ⟨a2, rfl, w2⟩ := arg_one Try.underlying41 (hval 2 41 v2 rfl rfl) h2
  clear hA0 hval0 hsz0 hsz
  refine (walk W c0 w0 a1 w1 a2 w2).mono fun e W' ⟨he, bel⟩ => ?_
  subst he
  exact ⟨_, rfl, _, _, _, [], _, [], hW', trodAll_mk1 (shut_bool Try.underlying4 _), (trodAll_cons_mk (Below.trod laidOut (by kernel_rfl) (of_decide_eq_true (by kernel_rfl)) h0 bel (fun x hx => by simpa using hW'.lt x (by simp [hx]))) (trodAll_cons_mk (Below.trod laidOut (by kernel_rfl) (of_decide_eq_true (by kernel_rfl)) h1 bel (fun x hx => by simpa using hW'.lt x (by simp [hx]))) (trodAll_cons_mk (Below.trod laidOut (by kernel_rfl) (of_decide_eq_true (by kernel_rfl)) h2 bel (fun x hx => by simpa using hW'.lt x (by simp [hx]))) trodAll_mk0))), rfl, bel.frame _, fun h => by cases h⟩
theorem over : Rows.shareGrowsRow.holds Try.pinned (OpenSpec.ofChange Rows.shareGrowsSpec) :=
  OpenClaim.holds_of_wide 6 Try.f6 rfl rfl rfl rfl rfl rfl rfl ⟨rfl, rfl, rfl, rfl, rfl⟩ rfl rfl rfl rfl rfl (by kernel_rfl) Try.func6 (by kernel_rfl)
    (of_decide_eq_true (by kernel_rfl)) (by unfold Func.isWrapper; first | (rw [if_pos (by decide +kernel)]; kernel_rfl) | (rw [if_neg (by decide +kernel)]; exact ⟨rfl, rfl⟩))
    (fun os started H enc _ => lifted os started H enc)
end shareGrows
theorem shareGrows_holds : Rows.ShareGrowsSaid := shareGrows.over
#print axioms shareGrows_holds
end Go.Proofs.Ytjhocfebopclhaa
