/- BucketWaits: who waits as long as is told has a token then, and not ahead of that. No condition. -/
import Derived.Test.YtlcnemkbkbihhaaBucketLaw
import Derived.Test.YtlcnemkbkbihhaaArg
import Derived.Test.YtlcnemkbkbihhaaRows
import Derived.ProofKit
import Derived.OpenShut
import Derived.ShutString
import Derived.ChangeOld
import Derived.Below
import Derived.SizedLaws
namespace Go.Proofs.Ytlcnemkbkbihhaa
open Go.ChangeShapes Go.WideShapes Go.ChangeAt Go.RowKit
open Go.ChangeMaps (open_string shut_string)
set_option linter.unusedVariables false
set_option linter.unusedSimpArgs false
namespace bucketWaits
def Rel (w : World) (b : Nat) (d q : Int) (nv iv : Value) (wr : World) : Prop :=
  ∃ (k : Nat) (N : Int) (s : Bk), nv = .int .u64 N ∧ iv = .int .i64 k ∧ k ≤ 60 ∧ Now d q N s ∧ 0 ≤ N ∧ N ≤ 3 + 30 * k ∧ IsK wr b s ∧ Below w.heap.size w wr
set_option maxRecDepth 100000 in
set_option maxHeartbeats 8000000 in
theorem walk2 (w : World) (depth : Int) (b0 : 0 ≤ depth) (b0' : depth ≤ 255) (every : Int) (b1 : 0 ≤ every) (b1' : every ≤ 255) (n : Int) (b2 : 0 ≤ n) (b2' : n ≤ 255) :
    Calls Try.prog 4 #[.int .u8 depth, .int .u8 every, .int .u8 n] w fun e w' => e = .returned (.bool true) ∧ Below w.heap.size w w' := by
  have m : mayK (1 + depth % 10) (1 + every % 30) = true := mayK_iff.2 (by omega)
  have C1 := fun W => Lib.hid (newK_fix (1 + depth % 10) (1 + every % 30) W m)
  go_enter Try.func4, Try.ntmps4
  go_wp2_with (first
    | (go_at_call 8; (with_reducible refine Calls.mono (awake_any _) ?_); rintro e w0 ⟨rfl, bel0⟩)
    | (go_at_call 9; (with_reducible refine Calls.mono (C1 _).out ?_); rintro e w1 ⟨b, rfl, hb, k1, bel1⟩))
  have hwb : w.heap.size ≤ b := Nat.le_trans bel0.size hb
  go_loopw [11, 12] (fun nv iv wr => Hid (Rel w b (1 + depth % 10) (1 + every % 30) nv iv wr)) (fun _ iv _ => 60 - (intOf iv).toNat)
  case atStart => exact ⟨0, 3, _, rfl, rfl, by omega, ⟨k0_ok m, rfl, rfl, by simp⟩, by omega, by omega, k1, Below.next bel0 bel1⟩
  case round =>
    obtain ⟨k, N, s, rfl, rfl, hk, hn, hN0, hN1, hs, hbel⟩ := hrel
    have KS := Lib.hid hs
    have BEL := Lib.hid hbel
    clear hs hbel
    by_cases hkn : (k : Int) < n % 60
    · obtain ⟨at_, s1, e1, a0, a1, cs, ok1⟩ := wait_step hn hN0 (by omega)
      have c1 := fun W (kk : IsK W b s) => waitk_any kk hn.ok N hN0 (by omega)
      rw [e1] at c1
      have W1 := fun W kk => Lib.hid (c1 W kk)
      clear c1 e1
      rcases cs with ⟨ea, s2, e2, n2⟩ | ⟨hlt, hmod, s2, s3, e2, ok2, e3, n3⟩
      · subst ea
        have c2 := fun W (kk : IsK W b s1) => takek_any kk ok1 at_ (by omega) (by omega)
        rw [e2] at c2
        have T2 := fun W kk => Lib.hid (c2 W kk)
        have N2 := Lib.hid n2
        clear c2 e2 n2 hn ok1
        go_wp2_with (first
          | (go_at_call 13; (with_reducible refine Calls.mono (W1 _ KS.out).out ?_); rintro e w2 ⟨rfl, k2, o2⟩
             have HB2 := Lib.hid (Below.only BEL.out o2 hwb))
          | (go_at_call 10; (with_reducible refine Calls.mono (T2 _ k2).out ?_); rintro e w3 ⟨rfl, k3, o3⟩
             have HB3 := Lib.hid (Below.only HB2.out o3 hwb)))
        go_roundw
        case rel => exact ⟨k + 1, at_, s2, rfl, by go_num, by omega, N2.out, by omega, by omega, k3, HB3.out⟩
        case measure => simp [intOf]; omega
      · have c2 := fun W (kk : IsK W b s1) => takek_any kk ok1 (at_ - 1) (by omega) (by omega)
        rw [e2] at c2
        have T2 := fun W kk => Lib.hid (c2 W kk)
        have c3 := fun W (kk : IsK W b s2) => takek_any kk ok2 at_ (by omega) (by omega)
        rw [e3] at c3
        have T3 := fun W kk => Lib.hid (c3 W kk)
        have N3 := Lib.hid n3
        clear c2 c3 e2 e3 n3 hn ok1 ok2
        go_wp2_with (first
          | (go_at_call 13; (with_reducible refine Calls.mono (W1 _ KS.out).out ?_); rintro e w2 ⟨rfl, k2, o2⟩
             have HB2 := Lib.hid (Below.only BEL.out o2 hwb))
          | (go_at_call 10; (with_reducible refine Calls.mono (T2 _ k2).out ?_); rintro e w3 ⟨rfl, k3, o3⟩
             have HB3 := Lib.hid (Below.only HB2.out o3 hwb))
          | (go_at_call 10; (with_reducible refine Calls.mono (T3 _ k3).out ?_); rintro e w4 ⟨rfl, k4, o4⟩
             have HB4 := Lib.hid (Below.only HB3.out o4 hwb)))
        go_roundw
        case rel => exact ⟨k + 1, at_, s3, rfl, by go_num, by omega, N3.out, by omega, by omega, k4, HB4.out⟩
        case measure => simp [intOf]; omega
    · go_wp2_with fail
      go_ret
      exact ⟨rfl, BEL.out⟩
theorem walk (w : World) (depth : Int) (w0 : (Lit.int .u8 depth).wf = true) (every : Int) (w1 : (Lit.int .u8 every).wf = true) (n : Int) (w2 : (Lit.int .u8 n).wf = true) :
    Calls Try.prog 4 #[.int .u8 depth, .int .u8 every, .int .u8 n] w fun e w' => e = .returned (.bool true) ∧ Below w.heap.size w w' := by
  obtain ⟨b0, b0'⟩ := bounds_u8 w0
  obtain ⟨b1, b1'⟩ := bounds_u8 w1
  obtain ⟨b2, b2'⟩ := bounds_u8 w2
  exact walk2 w depth b0 b0' every b1 b1' n b2 b2'
end bucketWaits
namespace bucketWaits
theorem own : ownKnob Try.prog.godebug = none := by kernel_rfl
set_option maxRecDepth 100000 in
theorem lifted (os : Os) (started : os.Started) (H : Type) (enc : TypeId × Value → H) :
    ReturnsInHanded {} Try.checked os 4 .any (Rows.bucketWaitsSpec.pre6 enc Try.prog Try.f4 Rows.bucketWaitsRow.domain false) (Rows.bucketWaitsSpec.post enc Try.prog Try.f4 false true false false) := by
  refine returnsInHanded_of_change_sized (C := Try.checked) own started (by kernel_rfl) Try.func4
    (ChangeSpec.witness6 (enc := enc) (C := Try.checked) false ⟨#[], #[.int .u8 0, .int .u8 0, .int .u8 0], []⟩ 8 (by kernel_rfl) (by kernel_rfl) (by kernel_rfl) (by kernel_rfl)) ?_
  intro W base args ds gs before hval0 hW hcnd hsz0 _
  have hsz : (DataW.weightsEach Try.prog (Try.f4.params.toList ++ Rows.bucketWaitsSpec.plain.varTypes Try.prog) (ds ++ gs)).all (· ≤ reachBytes) = true := hsz0
  have hval : ∀ (j : Nat) t v, Try.f4.params[j]? = some t → args[j]? = some v → Value.okWide Try.prog W .any base t v := hval0
  have hW' := hW
  obtain ⟨p, q, hA0, hV, rfl, hfz, hnd⟩ := hW
  have hA : DataW.TrodAll enc Try.prog W 0 (fun _ => true) true Try.f4.params.toList args.toList ds p := hA0
  rw [Try.params4] at hA hval hsz
  obtain ⟨v0, vs0, d0, ds0, p0, q0, hargs, rfl, rfl, h0, r0⟩ := trodAll_cons hA
  obtain ⟨v1, vs1, d1, ds1, p1, q1, rfl, rfl, rfl, h1, r1⟩ := trodAll_cons r0
  obtain ⟨v2, vs2, d2, ds2, p2, q2, rfl, rfl, rfl, h2, r2⟩ := trodAll_cons r1
  obtain ⟨rfl, rfl, rfl⟩ := trodAll_nil r2
  obtain rfl : args = #[v0, v1, v2] := by cases args; simp_all
  obtain ⟨rfl, rfl⟩ := trodVars_none hV
  obtain ⟨a0, rfl, w0⟩ := arg_one Try.underlying5 (hval 0 5 v0 rfl rfl) h0
  obtain ⟨a1, rfl, w1⟩ := arg_one Try.underlying5 (hval 1 5 v1 rfl rfl) h1
  obtain ⟨a2, rfl, w2⟩ := arg_one Try.underlying5 (hval 2 5 v2 rfl rfl) h2
  clear hA0 hval0 hsz0 hsz
  refine (walk W a0 w0 a1 w1 a2 w2).mono fun e W' ⟨he, bel⟩ => ?_
  subst he
  exact ⟨_, rfl, _, _, _, [], _, [], hW', trodAll_mk1 (shut_bool Try.underlying4 _), (trodAll_cons_mk (Below.trod laidOut (by kernel_rfl) (of_decide_eq_true (by kernel_rfl)) h0 bel (fun x hx => by simpa using hW'.lt x (by simp [hx]))) (trodAll_cons_mk (Below.trod laidOut (by kernel_rfl) (of_decide_eq_true (by kernel_rfl)) h1 bel (fun x hx => by simpa using hW'.lt x (by simp [hx]))) (trodAll_cons_mk (Below.trod laidOut (by kernel_rfl) (of_decide_eq_true (by kernel_rfl)) h2 bel (fun x hx => by simpa using hW'.lt x (by simp [hx]))) trodAll_mk0))), rfl, bel.frame _, fun h => by cases h⟩
theorem over : Rows.bucketWaitsRow.holds Try.pinned (OpenSpec.ofChange Rows.bucketWaitsSpec) :=
  OpenClaim.holds_of_wide 4 Try.f4 rfl rfl rfl rfl rfl rfl rfl ⟨rfl, rfl, rfl, rfl, rfl⟩ rfl rfl rfl rfl rfl (by kernel_rfl) Try.func4 (by kernel_rfl)
    (of_decide_eq_true (by kernel_rfl)) (by unfold Func.isWrapper; first | (rw [if_pos (by decide +kernel)]; kernel_rfl) | (rw [if_neg (by decide +kernel)]; exact ⟨rfl, rfl⟩))
    (fun os started H enc _ => lifted os started H enc)
end bucketWaits
theorem bucketWaits_holds : Rows.BucketWaitsSaid := bucketWaits.over
#print axioms bucketWaits_holds
end Go.Proofs.Ytlcnemkbkbihhaa
