/- ShareFresh: in each window as many units may be taken as the budget, and then none till the next one begins, whatever was taken ahead. No condition. -/
import Derived.Test.YtjhocfebopclhaaShareLaw
import Derived.Test.YtjhocfebopclhaaArg
import Derived.Test.YtjhocfebopclhaaRows
import Derived.ProofKit
import Derived.OpenShut
import Derived.ShutString
import Derived.ChangeOld
import Derived.Below
import Derived.SizedLaws
namespace Go.Proofs.Ytjhocfebopclhaa
open Go.ChangeShapes Go.WideShapes Go.ChangeAt Go.RowKit
open Go.ChangeMaps (open_string shut_string)
set_option linter.unusedVariables false
set_option linter.unusedSimpArgs false
namespace shareFresh
def W0 (w : World) (u p : Int) : World := w.alloc (.cells #[.int .u64 u, .int .u64 p] 24)
def Rel (w : World) (m : Nat) (b p f : Int) (kv : Value) (wr : World) : Prop :=
  ∃ (k : Nat) (s : Ms), kv = .int .i64 k ∧ k ≤ 20 ∧ NowM b p f (f + k * p) s ∧ (s.t < f + k * p ∨ s.k = 0) ∧ IsM wr m s ∧ Below (W0 w b p).heap.size (W0 w b p) wr
theorem skip {b p f : Int} {k : Nat} {s : Ms} (n : NowM b p f (f + k * p) s) (h : s.t < f + k * p ∨ s.k = 0) (hp : 0 < p) : NowM b p f (f + (k + 1 : Nat) * p) s ∧ (s.t < f + (k + 1 : Nat) * p ∨ s.k = 0) := by
  have a0 : ((k + 1 : Nat) : Int) * p = k * p + p := by rw [Int.natCast_add, Int.add_mul]; simp
  have ht := n.t
  exact ⟨⟨n.ok, n.hb, n.hp, n.hf, by omega⟩, by omega⟩
set_option maxRecDepth 100000 in
set_option maxHeartbeats 8000000 in
theorem walk2 (w : World) (b p : Int) (bb : 0 ≤ b) (bb' : b ≤ 18446744073709551615) (bp : 0 ≤ p) (bp' : p ≤ 18446744073709551615) (f : Int) (f0 : 0 ≤ f) (f1 : f ≤ 65535) (A : Option Addr) (n cap : Nat) (U : Nat → Bool) (hA : Hid (BoolsAt w A n U)) (hn9 : n ≤ 140737488351232) :
    Calls Try.prog 5 #[.agg #[.int .u64 b, .int .u64 p], .int .u16 f, .slice A n cap] w fun e w' => e = .returned (.bool true) ∧ Below w.heap.size w w' := by
  have M1 := fun W => Lib.hid (maym_any b p W bb bb' bp bp')
  have BOX := Lib.hid (boxm w b p)
  cases h1 : mayM b p with
  | false =>
    rw [h1] at M1
    clear h1
    go_enter Try.func5, Try.ntmps5
    go_wp2_with (first
        | (go_at_call 8; (with_reducible refine Calls.mono (awake_any _) ?_); rintro e w0 ⟨rfl, bel0⟩
           have HB := Lib.hid bel0; clear bel0; obtain ⟨q0, q1⟩ := BOX.out _ HB.out)
        | (go_at_call 10; (with_reducible refine Calls.mono (M1 _).out ?_); rintro e w0 ⟨rfl, bel0⟩
           have HB := Lib.hid (Below.next HB.out bel0); clear bel0; obtain ⟨q0, q1⟩ := BOX.out _ HB.out))
    go_ret
    exact ⟨rfl, Below.next ((Below.refl _ _).alloc (Nat.le_refl _) _) HB.out⟩
  | true =>
    rw [h1] at M1
    by_cases h2 : p ≤ 1048576
    · have C1 := fun W => Lib.hid (newM_any b p f W bb bb' bp bp' (by omega) (by omega) h1 (by omega))
      obtain ⟨m1, m2, m3, m4⟩ := mayM_iff.1 h1
      have B1 := Lib.hid h1
      clear h1
      go_enter Try.func5, Try.ntmps5
      go_wp2_with (first
        | (go_at_call 8; (with_reducible refine Calls.mono (awake_any _) ?_); rintro e w0 ⟨rfl, bel0⟩
           have HB := Lib.hid bel0; clear bel0; obtain ⟨q0, q1⟩ := BOX.out _ HB.out)
        | (go_at_call 10; (with_reducible refine Calls.mono (M1 _).out ?_); rintro e w0 ⟨rfl, bel0⟩
           have HB := Lib.hid (Below.next HB.out bel0); clear bel0; obtain ⟨q0, q1⟩ := BOX.out _ HB.out)
        | (go_at_call 9; (with_reducible refine Calls.mono (C1 _).out ?_); rintro e w1 ⟨m, rfl, hb, kb, bel0⟩
           have hwb := Nat.le_trans HB.out.size hb
           have HB := Lib.hid (Below.next HB.out bel0); clear bel0; obtain ⟨q0, q1⟩ := BOX.out _ HB.out))
      go_loopw [9] (fun kv wr => Hid (Rel w m b p f kv wr)) (fun kv _ => 20 - (intOf kv).toNat)
      case atStart => exact ⟨0, _, rfl, by omega, by simpa using NowM.new B1.out f0 (by omega), .inr rfl, kb, HB.out⟩
      case round =>
        obtain ⟨k, s, rfl, hk, hn, hst, hs, hbel⟩ := hrel
        have KS := Lib.hid hs
        have BEL := Lib.hid hbel
        obtain ⟨q0, q1⟩ := BOX.out _ hbel
        clear hs hbel kb
        by_cases hkn : k < 20
        · have hk3 : (k : Int) < 20 := by omega
          have g1 : (k : Int) * p ≤ 20 * 1048576 := Int.mul_le_mul (by omega) h2 (by omega) (by omega)
          have g2 : 0 ≤ (k : Int) * p := Int.mul_nonneg (by omega) (by omega)
          have g3 : IntKind.u64.wrap ((k : Int) * p) = k * p := IntWalk.u64_in _ (by omega)
          have SK := Lib.hid (skip hn hst (by omega))
          by_cases hz : n = 0
          · subst hz
            obtain ⟨s1, s2, s3, e1, ok1, e2, ok2, e3, n3, n3t⟩ := fresh_step hn hst (by omega) (by omega) h2 f1
            have c1 := fun W (kk : IsM W m s) => takem_any kk hn.ok (f + k * p) (b + 5) (by omega) (by omega) (by omega) (by omega)
            rw [e1] at c1
            have c2 := fun W (kk : IsM W m s1) => waitm_any kk ok1 (f + k * p) (by omega) (by omega)
            rw [e2] at c2
            have c3 := fun W (kk : IsM W m s2) => leftm_any kk ok2 (f + k * p + p - 1) (by omega) (by omega)
            rw [e3] at c3
            have T1 := fun W kk => Lib.hid (c1 W kk)
            have T2 := fun W kk => Lib.hid (c2 W kk)
            have T3 := fun W kk => Lib.hid (c3 W kk)
            have N3 := Lib.hid n3
            have N3t := n3t
            clear c1 c2 c3 e1 e2 e3 n3 n3t hn hst ok1 ok2
            go_wp2_with (first
              | (go_at_call 13; (with_reducible refine Calls.mono (T1 _ KS.out).out ?_); rintro e w2 ⟨rfl, k2, o2⟩
                 have HB2 := Lib.hid (Below.only BEL.out o2 hwb); obtain ⟨q0, q1⟩ := BOX.out _ HB2.out)
              | (go_at_call 15; (with_reducible refine Calls.mono (T2 _ k2).out ?_); rintro e w3 ⟨rfl, k3, o3⟩
                 have HB3 := Lib.hid (Below.only HB2.out o3 hwb); obtain ⟨q0, q1⟩ := BOX.out _ HB3.out)
              | (go_at_call 17; (with_reducible refine Calls.mono (T3 _ k3).out ?_); rintro e w4 ⟨rfl, k4, o4⟩
                 have HB4 := Lib.hid (Below.only HB3.out o4 hwb); obtain ⟨q0, q1⟩ := BOX.out _ HB4.out))
            go_roundw
            case rel => exact ⟨k + 1, s3, by go_num, by omega, by simpa using N3.out, .inl (by have := N3t; simpa using this), k4, HB4.out⟩
            case measure => simp [intOf]; omega
          · have hz2 : (0 : Int) < n := by omega
            have hmod : k % n < n := Nat.mod_lt _ (by omega)
            obtain ⟨ab, ao, rfl, hlt, hcw⟩ := hA.out.at_ hmod
            have hcell := ((Below.next ((Below.refl _ _).alloc (Nat.le_refl _) _) BEL.out).cell (p := ⟨ab, ao + k % n, none⟩) hlt).trans hcw
            cases hU : U (k % n) with
            | true =>
              rw [hU] at hcell
              clear hn hst
              go_wp2_with fail
              go_roundw
              case rel => exact ⟨k + 1, s, by go_num, by omega, SK.out.1, SK.out.2, KS.out, BEL.out⟩
              case measure => simp [intOf]; omega
            | false =>
              rw [hU] at hcell
              obtain ⟨s1, s2, s3, e1, ok1, e2, ok2, e3, n3, n3t⟩ := fresh_step hn hst (by omega) (by omega) h2 f1
              have c1 := fun W (kk : IsM W m s) => takem_any kk hn.ok (f + k * p) (b + 5) (by omega) (by omega) (by omega) (by omega)
              rw [e1] at c1
              have c2 := fun W (kk : IsM W m s1) => waitm_any kk ok1 (f + k * p) (by omega) (by omega)
              rw [e2] at c2
              have c3 := fun W (kk : IsM W m s2) => leftm_any kk ok2 (f + k * p + p - 1) (by omega) (by omega)
              rw [e3] at c3
              have T1 := fun W kk => Lib.hid (c1 W kk)
              have T2 := fun W kk => Lib.hid (c2 W kk)
              have T3 := fun W kk => Lib.hid (c3 W kk)
              have N3 := Lib.hid n3
              have N3t := n3t
              clear c1 c2 c3 e1 e2 e3 n3 n3t hn hst ok1 ok2
              go_wp2_with (first
                | (go_at_call 13; (with_reducible refine Calls.mono (T1 _ KS.out).out ?_); rintro e w2 ⟨rfl, k2, o2⟩
                   have HB2 := Lib.hid (Below.only BEL.out o2 hwb); obtain ⟨q0, q1⟩ := BOX.out _ HB2.out)
                | (go_at_call 15; (with_reducible refine Calls.mono (T2 _ k2).out ?_); rintro e w3 ⟨rfl, k3, o3⟩
                   have HB3 := Lib.hid (Below.only HB2.out o3 hwb); obtain ⟨q0, q1⟩ := BOX.out _ HB3.out)
                | (go_at_call 17; (with_reducible refine Calls.mono (T3 _ k3).out ?_); rintro e w4 ⟨rfl, k4, o4⟩
                   have HB4 := Lib.hid (Below.only HB3.out o4 hwb); obtain ⟨q0, q1⟩ := BOX.out _ HB4.out))
              go_roundw
              case rel => exact ⟨k + 1, s3, by go_num, by omega, by simpa using N3.out, .inl (by have := N3t; simpa using this), k4, HB4.out⟩
              case measure => simp [intOf]; omega
        · have hk3 : ¬ (k : Int) < 20 := by omega
          go_wp2_with fail
          go_ret
          exact ⟨rfl, Below.next ((Below.refl _ _).alloc (Nat.le_refl _) _) BEL.out⟩
    · have h3 : 1048576 < p := by omega
      clear h1 h2
      go_enter Try.func5, Try.ntmps5
      go_wp2_with (first
        | (go_at_call 8; (with_reducible refine Calls.mono (awake_any _) ?_); rintro e w0 ⟨rfl, bel0⟩
           have HB := Lib.hid bel0; clear bel0; obtain ⟨q0, q1⟩ := BOX.out _ HB.out)
        | (go_at_call 10; (with_reducible refine Calls.mono (M1 _).out ?_); rintro e w0 ⟨rfl, bel0⟩
           have HB := Lib.hid (Below.next HB.out bel0); clear bel0; obtain ⟨q0, q1⟩ := BOX.out _ HB.out))
      go_ret
      exact ⟨rfl, Below.next ((Below.refl _ _).alloc (Nat.le_refl _) _) HB.out⟩
theorem walk (w : World) (cs : List Value) (ws : AllOk [some .u64, some .u64] cs) (f : Int) (w1 : (Lit.int .u16 f).wf = true) (A : Option Addr) (n cap : Nat) (D : Nat → List Value) (w2 : Elems w [none] A n D) (hl : n * 1 ≤ 140737488351232) :
    Calls Try.prog 5 #[.agg ⟨cs⟩, .int .u16 f, .slice A n cap] w fun e w' => e = .returned (.bool true) ∧ Below w.heap.size w w' := by
  obtain ⟨b, p, rfl, b1, b2, b3, b4⟩ := shareOf ws
  obtain ⟨f0, f1⟩ := bounds_u16 w1
  obtain ⟨U, hA⟩ := bools_of w2
  exact walk2 w b p b1 b2 b3 b4 f f0 f1 A n cap U hA (by omega)
end shareFresh
namespace shareFresh
theorem own : ownKnob Try.prog.godebug = none := by kernel_rfl
set_option maxRecDepth 100000 in
theorem lifted (os : Os) (started : os.Started) (H : Type) (enc : TypeId × Value → H) :
    ReturnsInHanded {} Try.checked os 5 .any (Rows.shareFreshSpec.pre6 enc Try.prog Try.f5 Rows.shareFreshRow.domain false) (Rows.shareFreshSpec.post enc Try.prog Try.f5 false true false false) := by
  refine returnsInHanded_of_change_sized (C := Try.checked) own started (by kernel_rfl) Try.func5
    (ChangeSpec.witness6 (enc := enc) (C := Try.checked) false ⟨#[], #[.agg #[.int .u64 0, .int .u64 0], .int .u16 0, .slice none 0 0], []⟩ 8 (by kernel_rfl) (by kernel_rfl) (by kernel_rfl) (by kernel_rfl)) ?_
  intro W base args ds gs before hval0 hW hcnd hsz0 _
  have hsz : (DataW.weightsEach Try.prog (Try.f5.params.toList ++ Rows.shareFreshSpec.plain.varTypes Try.prog) (ds ++ gs)).all (· ≤ reachBytes) = true := hsz0
  have hval : ∀ (j : Nat) t v, Try.f5.params[j]? = some t → args[j]? = some v → Value.okWide Try.prog W .any base t v := hval0
  have hW' := hW
  obtain ⟨p, q, hA0, hV, rfl, hfz, hnd⟩ := hW
  have hA : DataW.TrodAll enc Try.prog W 0 (fun _ => true) true Try.f5.params.toList args.toList ds p := hA0
  rw [Try.params5] at hA hval hsz
  obtain ⟨v0, vs0, d0, ds0, p0, q0, hargs, rfl, rfl, h0, r0⟩ := trodAll_cons hA
  obtain ⟨v1, vs1, d1, ds1, p1, q1, rfl, rfl, rfl, h1, r1⟩ := trodAll_cons r0
  obtain ⟨v2, vs2, d2, ds2, p2, q2, rfl, rfl, rfl, h2, r2⟩ := trodAll_cons r1
  obtain ⟨rfl, rfl, rfl⟩ := trodAll_nil r2
  obtain rfl : args = #[v0, v1, v2] := by cases args; simp_all
  obtain ⟨rfl, rfl⟩ := trodVars_none hV
  obtain ⟨c0, rfl, w0⟩ := arg_agg [some .u64, some .u64] (by first | exact .inl ⟨_, Try.underlying24⟩ | exact .inr ⟨_, _, Try.underlying24⟩) 6 (by kernel_rfl) (by kernel_rfl) (hval 0 24 v0 rfl rfl) h0
  obtain ⟨a1, rfl, w1⟩ := arg_one Try.underlying41 (hval 1 41 v1 rfl rfl) h1
  obtain ⟨A2, n2, cap2, D2, rfl, w2, m2, z2⟩ := arg_slice [none] Try.underlying40 6 (by kernel_rfl) (by kernel_rfl) (hval 2 40 v2 rfl rfl) h2
  have l2 : n2 * Try.prog.bytesOf 4 ≤ reachBytes := by
    rcases z2 with ⟨_, e⟩ | ⟨es, sp, e, el⟩
    · subst e; simp
    · subst e; subst el; exact Nat.le_trans (Nat.mul_le_mul_right _ (Nat.le_add_right _ _)) (sized_slice hsz (j := 2) (t := 40) (e := 4) rfl rfl Try.underlying40)
  have b2 : Try.prog.bytesOf 4 = 1 := by kernel_rfl
  rw [b2] at l2
  simp only [reachBytes] at l2
  clear z2 b2
  clear hA0 hval0 hsz0 hsz
  refine (walk W c0 w0 a1 w1 A2 n2 cap2 D2 w2 l2).mono fun e W' ⟨he, bel⟩ => ?_
  subst he
  exact ⟨_, rfl, _, _, _, [], _, [], hW', trodAll_mk1 (shut_bool Try.underlying4 _), (trodAll_cons_mk (Below.trod laidOut (by kernel_rfl) (of_decide_eq_true (by kernel_rfl)) h0 bel (fun x hx => by simpa using hW'.lt x (by simp [hx]))) (trodAll_cons_mk (Below.trod laidOut (by kernel_rfl) (of_decide_eq_true (by kernel_rfl)) h1 bel (fun x hx => by simpa using hW'.lt x (by simp [hx]))) (trodAll_cons_mk (Below.trod laidOut (by kernel_rfl) (of_decide_eq_true (by kernel_rfl)) h2 bel (fun x hx => by simpa using hW'.lt x (by simp [hx]))) trodAll_mk0))), rfl, bel.frame _, fun h => by cases h⟩
theorem over : Rows.shareFreshRow.holds Try.pinned (OpenSpec.ofChange Rows.shareFreshSpec) :=
  OpenClaim.holds_of_wide 5 Try.f5 rfl rfl rfl rfl rfl rfl rfl ⟨rfl, rfl, rfl, rfl, rfl⟩ rfl rfl rfl rfl rfl (by kernel_rfl) Try.func5 (by kernel_rfl)
    (of_decide_eq_true (by kernel_rfl)) (by unfold Func.isWrapper; first | (rw [if_pos (by decide +kernel)]; kernel_rfl) | (rw [if_neg (by decide +kernel)]; exact ⟨rfl, rfl⟩))
    (fun os started H enc _ => lifted os started H enc)
end shareFresh
theorem shareFresh_holds : Rows.ShareFreshSaid := shareFresh.over
#print axioms shareFresh_holds
end Go.Proofs.Ytjhocfebopclhaa
