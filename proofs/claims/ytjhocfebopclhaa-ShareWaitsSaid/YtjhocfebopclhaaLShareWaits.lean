/- ShareWaits: who waits as long as is told has a unit then; between nobody has one. No condition. -/
import Derived.Test.YtjhocfebopclhaaShareLaw
import Derived.Test.YtjhocfebopclhaaArg
import Derived.Test.YtjhocfebopclhaaRows
import Derived.ProofKit
import Derived.OpenShut
import Derived.ShutString
import Derived.ChangeOld
import Derived.Below
import Derived.SizedLaws
namespace Go.Proofs.Ytjhocfebopclhaa
open Go.ChangeShapes Go.WideShapes Go.ChangeAt Go.RowKit
open Go.ChangeMaps (open_string shut_string)
set_option linter.unusedVariables false
set_option linter.unusedSimpArgs false
namespace shareWaits
def W0 (w : World) (u p : Int) : World := w.alloc (.cells #[.int .u64 u, .int .u64 p] 24)
def Rel (w : World) (m : Nat) (b p : Int) (nv iv : Value) (wr : World) : Prop :=
  ∃ (k : Nat) (N : Int) (s : Ms), nv = .int .u64 N ∧ iv = .int .i64 k ∧ k ≤ 100 ∧ NowM b p 3 N s ∧ 0 ≤ N ∧ N ≤ 3 + 1048576 * k ∧ IsM wr m s ∧ Below (W0 w b p).heap.size (W0 w b p) wr
set_option maxRecDepth 100000 in
set_option maxHeartbeats 8000000 in
theorem walk2 (w : World) (b p : Int) (bb : 0 ≤ b) (bb' : b ≤ 18446744073709551615) (bp : 0 ≤ p) (bp' : p ≤ 18446744073709551615) (n : Int) (b2 : 0 ≤ n) (b2' : n ≤ 255) :
    Calls Try.prog 7 #[.agg #[.int .u64 b, .int .u64 p], .int .u8 n] w fun e w' => e = .returned (.bool true) ∧ Below w.heap.size w w' := by
  have M1 := fun W => Lib.hid (maym_any b p W bb bb' bp bp')
  have BOX := Lib.hid (boxm w b p)
  cases h1 : mayM b p with
  | false =>
    rw [h1] at M1
    clear h1
    go_enter Try.func7, Try.ntmps7
    go_wp2_with (first
        | (go_at_call 8; (with_reducible refine Calls.mono (awake_any _) ?_); rintro e w0 ⟨rfl, bel0⟩
           have HB := Lib.hid bel0; clear bel0; obtain ⟨q0, q1⟩ := BOX.out _ HB.out)
        | (go_at_call 10; (with_reducible refine Calls.mono (M1 _).out ?_); rintro e w0 ⟨rfl, bel0⟩
           have HB := Lib.hid (Below.next HB.out bel0); clear bel0; obtain ⟨q0, q1⟩ := BOX.out _ HB.out))
    go_ret
    exact ⟨rfl, Below.next ((Below.refl _ _).alloc (Nat.le_refl _) _) HB.out⟩
  | true =>
    rw [h1] at M1
    by_cases h2 : p ≤ 1048576
    · have C1 := fun W => Lib.hid (newM_any b p 3 W bb bb' bp bp' (by omega) (by omega) h1 (by omega))
      have B1 := Lib.hid h1
      clear h1
      go_enter Try.func7, Try.ntmps7
      go_wp2_with (first
        | (go_at_call 8; (with_reducible refine Calls.mono (awake_any _) ?_); rintro e w0 ⟨rfl, bel0⟩
           have HB := Lib.hid bel0; clear bel0; obtain ⟨q0, q1⟩ := BOX.out _ HB.out)
        | (go_at_call 10; (with_reducible refine Calls.mono (M1 _).out ?_); rintro e w0 ⟨rfl, bel0⟩
           have HB := Lib.hid (Below.next HB.out bel0); clear bel0; obtain ⟨q0, q1⟩ := BOX.out _ HB.out)
        | (go_at_call 9; (with_reducible refine Calls.mono (C1 _).out ?_); rintro e w1 ⟨m, rfl, hb, kb, bel0⟩
           have hwb := Nat.le_trans HB.out.size hb
           have HB := Lib.hid (Below.next HB.out bel0); clear bel0; obtain ⟨q0, q1⟩ := BOX.out _ HB.out))
      go_loopw [7, 8] (fun nv iv wr => Hid (Rel w m b p nv iv wr)) (fun _ iv _ => 100 - (intOf iv).toNat)
      case atStart => exact ⟨0, 3, _, rfl, rfl, by omega, NowM.new B1.out (by omega) (by omega), by omega, by omega, kb, HB.out⟩
      case round =>
        obtain ⟨k, N, s, rfl, rfl, hk, hn, hN0, hN1, hs, hbel⟩ := hrel
        have KS := Lib.hid hs
        have BEL := Lib.hid hbel
        obtain ⟨q0, q1⟩ := BOX.out _ hbel
        clear hs hbel kb
        by_cases hkn : (k : Int) < n % 100
        · obtain ⟨at_, s1, e1, ok1, a0, a1, cs⟩ := waitM_step hn (by omega)
          have c1 := fun W (kk : IsM W m s) => waitm_any kk hn.ok N hN0 (by omega)
          rw [e1] at c1
          have W1 := fun W kk => Lib.hid (c1 W kk)
          clear c1 e1
          rcases cs with ⟨ea, s2, e2, n2⟩ | ⟨hlt, s2, s3, e2, ok2, e3, n3⟩
          · subst ea
            have c2 := fun W (kk : IsM W m s1) => takem_any kk ok1 at_ 1 (by omega) (by omega) (by omega) (by omega)
            rw [e2] at c2
            have T2 := fun W kk => Lib.hid (c2 W kk)
            have N2 := Lib.hid n2
            clear c2 e2 n2 hn ok1
            go_wp2_with (first
              | (go_at_call 15; (with_reducible refine Calls.mono (W1 _ KS.out).out ?_); rintro e w2 ⟨rfl, k2, o2⟩
                 have HB2 := Lib.hid (Below.only BEL.out o2 hwb))
              | (go_at_call 13; (with_reducible refine Calls.mono (T2 _ k2).out ?_); rintro e w3 ⟨rfl, k3, o3⟩
                 have HB3 := Lib.hid (Below.only HB2.out o3 hwb)))
            go_roundw
            case rel => exact ⟨k + 1, at_, s2, rfl, by go_num, by omega, N2.out, by omega, by omega, k3, HB3.out⟩
            case measure => simp [intOf]; omega
          · have c2 := fun W (kk : IsM W m s1) => takem_any kk ok1 (at_ - 1) 1 (by omega) (by omega) (by omega) (by omega)
            rw [e2] at c2
            have T2 := fun W kk => Lib.hid (c2 W kk)
            have c3 := fun W (kk : IsM W m s2) => takem_any kk ok2 at_ 1 (by omega) (by omega) (by omega) (by omega)
            rw [e3] at c3
            have T3 := fun W kk => Lib.hid (c3 W kk)
            have N3 := Lib.hid n3
            clear c2 c3 e2 e3 n3 hn ok1 ok2
            go_wp2_with (first
              | (go_at_call 15; (with_reducible refine Calls.mono (W1 _ KS.out).out ?_); rintro e w2 ⟨rfl, k2, o2⟩
                 have HB2 := Lib.hid (Below.only BEL.out o2 hwb))
              | (go_at_call 13; (with_reducible refine Calls.mono (T2 _ k2).out ?_); rintro e w3 ⟨rfl, k3, o3⟩
                 have HB3 := Lib.hid (Below.only HB2.out o3 hwb))
              | (go_at_call 13; (with_reducible refine Calls.mono (T3 _ k3).out ?_); rintro e w4 ⟨rfl, k4, o4⟩
                 have HB4 := Lib.hid (Below.only HB3.out o4 hwb)))
            go_roundw
            case rel => exact ⟨k + 1, at_, s3, rfl, by go_num, by omega, N3.out, by omega, by omega, k4, HB4.out⟩
            case measure => simp [intOf]; omega
        · go_wp2_with fail
          go_ret
          exact ⟨rfl, Below.next ((Below.refl _ _).alloc (Nat.le_refl _) _) BEL.out⟩
    · have h3 : 1048576 < p := by omega
      clear h1 h2
      go_enter Try.func7, Try.ntmps7
      go_wp2_with (first
        | (go_at_call 8; (with_reducible refine Calls.mono (awake_any _) ?_); rintro e w0 ⟨rfl, bel0⟩
           have HB := Lib.hid bel0; clear bel0; obtain ⟨q0, q1⟩ := BOX.out _ HB.out)
        | (go_at_call 10; (with_reducible refine Calls.mono (M1 _).out ?_); rintro e w0 ⟨rfl, bel0⟩
           have HB := Lib.hid (Below.next HB.out bel0); clear bel0; obtain ⟨q0, q1⟩ := BOX.out _ HB.out))
      go_ret
      exact ⟨rfl, Below.next ((Below.refl _ _).alloc (Nat.le_refl _) _) HB.out⟩
theorem walk (w : World) (cs : List Value) (ws : AllOk [some .u64, some .u64] cs) (n : Int) (w2 : (Lit.int .u8 n).wf = true) :
    Calls Try.prog 7 #[.agg ⟨cs⟩, .int .u8 n] w fun e w' => e = .returned (.bool true) ∧ Below w.heap.size w w' := by
  obtain ⟨b, p, rfl, b1, b2, b3, b4⟩ := shareOf ws
  obtain ⟨f0, f1⟩ := bounds_u8 w2
  exact walk2 w b p b1 b2 b3 b4 n f0 f1
end shareWaits
namespace shareWaits
theorem own : ownKnob Try.prog.godebug = none := by kernel_rfl
set_option maxRecDepth 100000 in
theorem lifted (os : Os) (started : os.Started) (H : Type) (enc : TypeId × Value → H) :
    ReturnsInHanded {} Try.checked os 7 .any (Rows.shareWaitsSpec.pre6 enc Try.prog Try.f7 Rows.shareWaitsRow.domain false) (Rows.shareWaitsSpec.post enc Try.prog Try.f7 false true false false) := by
  refine returnsInHanded_of_change_sized (C := Try.checked) own started (by kernel_rfl) Try.func7
    (ChangeSpec.witness6 (enc := enc) (C := Try.checked) false ⟨#[], #[.agg #[.int .u64 0, .int .u64 0], .int .u8 0], []⟩ 8 (by kernel_rfl) (by kernel_rfl) (by kernel_rfl) (by kernel_rfl)) ?_
  intro W base args ds gs before hval0 hW hcnd hsz0 _
  have hsz : (DataW.weightsEach Try.prog (Try.f7.params.toList ++ Rows.shareWaitsSpec.plain.varTypes Try.prog) (ds ++ gs)).all (· ≤ reachBytes) = true := hsz0
  have hval : ∀ (j : Nat) t v, Try.f7.params[j]? = some t → args[j]? = some v → Value.okWide Try.prog W .any base t v := hval0
  have hW' := hW
  obtain ⟨p, q, hA0, hV, rfl, hfz, hnd⟩ := hW
  have hA : DataW.TrodAll enc Try.prog W 0 (fun _ => true) true Try.f7.params.toList args.toList ds p := hA0
  rw [Try.params7] at hA hval hsz
  obtain ⟨v0, vs0, d0, ds0, p0, q0, hargs, rfl, rfl, h0, r0⟩ := trodAll_cons hA
  obtain ⟨v1, vs1, d1, ds1, p1, q1, rfl, rfl, rfl, h1, r1⟩ := trodAll_cons r0
  obtain ⟨rfl, rfl, rfl⟩ := trodAll_nil r1
  obtain rfl : args = #[v0, v1] := by cases args; simp_all
  obtain ⟨rfl, rfl⟩ := trodVars_none hV
  obtain ⟨c0, rfl, w0⟩ := arg_agg [some .u64, some .u64] (by first | exact .inl ⟨_, Try.underlying24⟩ | exact .inr ⟨_, _, Try.underlying24⟩) 6 (by kernel_rfl) (by kernel_rfl) (hval 0 24 v0 rfl rfl) h0
  obtain ⟨a1, rfl, w1⟩ := arg_one Try.underlying5 (hval 1 5 v1 rfl rfl) h1
  clear hA0 hval0 hsz0 hsz
  refine (walk W c0 w0 a1 w1).mono fun e W' ⟨he, bel⟩ => ?_
  subst he
  exact ⟨_, rfl, _, _, _, [], _, [], hW', trodAll_mk1 (shut_bool Try.underlying4 _), (trodAll_cons_mk (Below.trod laidOut (by kernel_rfl) (of_decide_eq_true (by kernel_rfl)) h0 bel (fun x hx => by simpa using hW'.lt x (by simp [hx]))) (trodAll_cons_mk (Below.trod laidOut (by kernel_rfl) (of_decide_eq_true (by kernel_rfl)) h1 bel (fun x hx => by simpa using hW'.lt x (by simp [hx]))) trodAll_mk0)), rfl, bel.frame _, fun h => by cases h⟩
theorem over : Rows.shareWaitsRow.holds Try.pinned (OpenSpec.ofChange Rows.shareWaitsSpec) :=
  OpenClaim.holds_of_wide 7 Try.f7 rfl rfl rfl rfl rfl rfl rfl ⟨rfl, rfl, rfl, rfl, rfl⟩ rfl rfl rfl rfl rfl (by kernel_rfl) Try.func7 (by kernel_rfl)
    (of_decide_eq_true (by kernel_rfl)) (by unfold Func.isWrapper; first | (rw [if_pos (by decide +kernel)]; kernel_rfl) | (rw [if_neg (by decide +kernel)]; exact ⟨rfl, rfl⟩))
    (fun os started H enc _ => lifted os started H enc)
end shareWaits
theorem shareWaits_holds : Rows.ShareWaitsSaid := shareWaits.over
#print axioms shareWaits_holds
end Go.Proofs.Ytjhocfebopclhaa
