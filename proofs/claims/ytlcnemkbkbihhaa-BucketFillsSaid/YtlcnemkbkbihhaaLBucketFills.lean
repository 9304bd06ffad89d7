/- BucketFills: left alone a bucket has one token more each time, up to its depth, and no more. No condition. -/
import Derived.Test.YtlcnemkbkbihhaaBucketLaw
import Derived.Test.YtlcnemkbkbihhaaArg
import Derived.Test.YtlcnemkbkbihhaaRows
import Derived.ProofKit
import Derived.OpenShut
import Derived.ShutString
import Derived.ChangeOld
import Derived.Below
import Derived.SizedLaws
namespace Go.Proofs.Ytlcnemkbkbihhaa
open Go.ChangeShapes Go.WideShapes Go.ChangeAt Go.RowKit
open Go.ChangeMaps (open_string shut_string)
set_option linter.unusedVariables false
set_option linter.unusedSimpArgs false
namespace bucketFills
def Rel (w : World) (b : Nat) (d q : Int) (t : Nat) (iv : Value) (wr : World) : Prop :=
  ∃ (k : Nat), iv = .int .i64 k ∧ k ≤ t ∧ IsK wr b ⟨d, q, d - k, 0, 0⟩ ∧ Below w.heap.size w wr
def Rel2 (w : World) (b : Nat) (d q t : Int) (iv : Value) (wr : World) : Prop :=
  ∃ (k : Nat) (s : Bk), iv = .int .i64 k ∧ k ≤ 100 ∧ Fill d q t k s ∧ IsK wr b s ∧ Below w.heap.size w wr
set_option maxRecDepth 100000 in
set_option maxHeartbeats 8000000 in
theorem walk2 (w : World) (depth : Int) (b0 : 0 ≤ depth) (b0' : depth ≤ 65535) (every : Int) (b1 : 0 ≤ every) (b1' : every ≤ 65535) (n : Int) (b2 : 0 ≤ n) (b2' : n ≤ 65535) :
    Calls Try.prog 5 #[.int .u16 depth, .int .u16 every, .int .u16 n] w fun e w' => e = .returned (.bool true) ∧ Below w.heap.size w w' := by
  obtain ⟨d, hd⟩ : ∃ d, 1 + depth % 1000 = d := ⟨_, rfl⟩
  obtain ⟨q, hq⟩ : ∃ q, 1 + every = q := ⟨_, rfl⟩
  have m : mayK d q = true := mayK_iff.2 (by omega)
  have C1 := fun W => Lib.hid (newK_fix d q W m)
  obtain ⟨t, ht⟩ : ∃ t : Nat, n % (d + 1) = (t : Int) := ⟨(n % (d + 1)).toNat, by have := Int.emod_nonneg n (show d + 1 ≠ 0 by omega); omega⟩
  have htd : (t : Int) ≤ d := by have := Int.emod_lt_of_pos n (show 0 < d + 1 by omega); omega
  have d0 : 1 ≤ d := by omega
  have d1 : d ≤ 1000 := by omega
  go_enter Try.func5, Try.ntmps5
  go_wp2_with (first
    | (go_at_call 8; (with_reducible refine Calls.mono (awake_any _) ?_); rintro e w0 ⟨rfl, bel0⟩)
    | (go_at_call 9; (with_reducible refine Calls.mono (C1 _).out ?_); rintro e w1 ⟨b, rfl, hb, k1, bel1⟩))
  have hwb : w.heap.size ≤ b := Nat.le_trans bel0.size hb
  rw [ht]
  have q0 : 1 ≤ q := by omega
  have q1 : q ≤ 65536 := by omega
  go_loopw [12] (fun iv wr => Hid (Rel w b d q t iv wr)) (fun iv _ => t - (intOf iv).toNat)
  case atStart => exact ⟨0, rfl, by omega, by simpa using k1, Below.next bel0 bel1⟩
  case round =>
    obtain ⟨k, rfl, hk, hs, hbel⟩ := hrel
    have KS := Lib.hid hs
    have BEL := Lib.hid hbel
    clear hs hbel
    have okk : Bk.ok ⟨d, q, d - k, 0, 0⟩ := ⟨d0, d1, q0, by simp only; omega, by simp only; omega, by simp only; omega, by simp, by simp, by simp⟩
    by_cases hkt : k < t
    · have c1 := fun W (kk : IsK W b ⟨d, q, d - k, 0, 0⟩) => takek_any kk okk 0 (by omega) (by omega)
      rw [fill_take d q k (by omega) (by omega) (by omega)] at c1
      have T1 := fun W kk => Lib.hid (c1 W kk)
      clear c1 okk
      go_wp2_with (go_at_call 10; (with_reducible refine Calls.mono (T1 _ KS.out).out ?_); rintro e w2 ⟨rfl, k2, o2⟩
                   have HB2 := Lib.hid (Below.only BEL.out o2 hwb))
      go_roundw
      case rel => exact ⟨k + 1, by go_num, by omega, by simpa using k2, HB2.out⟩
      case measure => simp [intOf]; omega
    · have hf : Fill d q t (0 : Nat) ⟨d, q, d - k, 0, 0⟩ := ⟨okk, rfl, rfl, by simp, by simp only; omega, by simp only; omega⟩
      have HF := Lib.hid hf
      clear hf okk
      go_wp2_with fail
      go_loopw [15] (fun iv wr => Hid (Rel2 w b d q t iv wr)) (fun iv _ => 100 - (intOf iv).toNat)
      case atStart => exact ⟨0, _, rfl, by omega, HF.out, KS.out, BEL.out⟩
      case round =>
        clear HF KS BEL
        obtain ⟨i, s, rfl, hi, hf, hs, hbel⟩ := hrel
        have KS := Lib.hid hs
        have BEL := Lib.hid hbel
        clear hs hbel
        by_cases hi2 : i < 100
        · obtain ⟨s1, s2, e1, ok1, e2, ok2, f2⟩ := fill_step hf (by omega) (by omega) (by omega) q1
          have b1 : (i : Int) * q ≤ 100 * 65536 := Int.mul_le_mul (by omega) q1 (by omega) (by omega)
          have b2 : 0 ≤ (i : Int) * q := Int.mul_nonneg (by omega) (by omega)
          have c1 := fun W (kk : IsK W b s) => hask_any kk hf.ok (i * q) b2 (by omega)
          rw [e1] at c1
          have c2 := fun W (kk : IsK W b s1) => hask_any kk ok1 (i * q + q - 1) (by omega) (by omega)
          rw [e2] at c2
          have F2 := Lib.hid f2
          have g1 : IntKind.u64.wrap ((i : Int) * q) = i * q := IntWalk.u64_in _ (by omega)
          clear e1 e2 f2 hf ok1 ok2
          by_cases hle : d ≤ d - t + i
          · have hm : min d (d - t + (i : Int)) = d := by omega
            simp only [hm] at c1 c2
            have T1 := fun W kk => Lib.hid (c1 W kk)
            have T2 := fun W kk => Lib.hid (c2 W kk)
            clear c1 c2
            go_wp2_with (first
              | (go_at_call 11; (with_reducible refine Calls.mono (T1 _ KS.out).out ?_); rintro e w2 ⟨rfl, k2, o2⟩
                 have HB2 := Lib.hid (Below.only BEL.out o2 hwb))
              | (go_at_call 11; (with_reducible refine Calls.mono (T2 _ k2).out ?_); rintro e w3 ⟨rfl, k3, o3⟩
                 have HB3 := Lib.hid (Below.only HB2.out o3 hwb)))
            go_roundw
            case rel => exact ⟨i + 1, s2, by go_num, by omega, F2.out, k3, HB3.out⟩
            case measure => simp [intOf]; omega
          · have hm : min d (d - t + (i : Int)) = d - t + i := by omega
            simp only [hm] at c1 c2
            have T1 := fun W kk => Lib.hid (c1 W kk)
            have T2 := fun W kk => Lib.hid (c2 W kk)
            clear c1 c2
            go_wp2_with (first
              | (go_at_call 11; (with_reducible refine Calls.mono (T1 _ KS.out).out ?_); rintro e w2 ⟨rfl, k2, o2⟩
                 have HB2 := Lib.hid (Below.only BEL.out o2 hwb))
              | (go_at_call 11; (with_reducible refine Calls.mono (T2 _ k2).out ?_); rintro e w3 ⟨rfl, k3, o3⟩
                 have HB3 := Lib.hid (Below.only HB2.out o3 hwb)))
            go_roundw
            case rel => exact ⟨i + 1, s2, by go_num, by omega, F2.out, k3, HB3.out⟩
            case measure => simp [intOf]; omega
        · go_wp2_with fail
          go_ret
          exact ⟨rfl, BEL.out⟩
theorem walk (w : World) (depth : Int) (w0 : (Lit.int .u16 depth).wf = true) (every : Int) (w1 : (Lit.int .u16 every).wf = true) (n : Int) (w2 : (Lit.int .u16 n).wf = true) :
    Calls Try.prog 5 #[.int .u16 depth, .int .u16 every, .int .u16 n] w fun e w' => e = .returned (.bool true) ∧ Below w.heap.size w w' := by
  obtain ⟨b0, b0'⟩ := bounds_u16 w0
  obtain ⟨b1, b1'⟩ := bounds_u16 w1
  obtain ⟨b2, b2'⟩ := bounds_u16 w2
  exact walk2 w depth b0 b0' every b1 b1' n b2 b2'
end bucketFills
namespace bucketFills
theorem own : ownKnob Try.prog.godebug = none := by kernel_rfl
set_option maxRecDepth 100000 in
theorem lifted (os : Os) (started : os.Started) (H : Type) (enc : TypeId × Value → H) :
    ReturnsInHanded {} Try.checked os 5 .any (Rows.bucketFillsSpec.pre6 enc Try.prog Try.f5 Rows.bucketFillsRow.domain false) (Rows.bucketFillsSpec.post enc Try.prog Try.f5 false true false false) := by
  refine returnsInHanded_of_change_sized (C := Try.checked) own started (by kernel_rfl) Try.func5
    (ChangeSpec.witness6 (enc := enc) (C := Try.checked) false ⟨#[], #[.int .u16 0, .int .u16 0, .int .u16 0], []⟩ 8 (by kernel_rfl) (by kernel_rfl) (by kernel_rfl) (by kernel_rfl)) ?_
  intro W base args ds gs before hval0 hW hcnd hsz0 _
  have hsz : (DataW.weightsEach Try.prog (Try.f5.params.toList ++ Rows.bucketFillsSpec.plain.varTypes Try.prog) (ds ++ gs)).all (· ≤ reachBytes) = true := hsz0
  have hval : ∀ (j : Nat) t v, Try.f5.params[j]? = some t → args[j]? = some v → Value.okWide Try.prog W .any base t v := hval0
  have hW' := hW
  obtain ⟨p, q, hA0, hV, rfl, hfz, hnd⟩ := hW
  have hA : DataW.TrodAll enc Try.prog W 0 (fun _ => true) true Try.f5.params.toList args.toList ds p := hA0
  rw [Try.params5] at hA hval hsz
  obtain ⟨v0, vs0, d0, ds0, p0, q0, hargs, rfl, rfl, h0, r0⟩ := trodAll_cons hA
  obtain ⟨v1, vs1, d1, ds1, p1, q1, rfl, rfl, rfl, h1, r1⟩ := trodAll_cons r0
  obtain ⟨v2, vs2, d2, ds2, p2, q2, rfl, rfl, rfl, h2, r2⟩ := trodAll_cons r1
  obtain ⟨rfl, rfl, rfl⟩ := trodAll_nil r2
  obtain rfl : args = #[v0, v1, v2] := by cases args; simp_all
  obtain ⟨rfl, rfl⟩ := trodVars_none hV
  obtain ⟨a0, rfl, w0⟩ := arg_one Try.underlying39 (hval 0 39 v0 rfl rfl) h0
  obtain ⟨a1, rfl, w1⟩ := arg_one Try.underlying39 (hval 1 39 v1 rfl rfl) h1
  obtain ⟨a2, rfl, w2⟩ := arg_one Try.underlying39 (hval 2 39 v2 rfl rfl) h2
  clear hA0 hval0 hsz0 hsz
  refine (walk W a0 w0 a1 w1 a2 w2).mono fun e W' ⟨he, bel⟩ => ?_
  subst he
  exact ⟨_, rfl, _, _, _, [], _, [], hW', trodAll_mk1 (shut_bool Try.underlying4 _), (trodAll_cons_mk (Below.trod laidOut (by kernel_rfl) (of_decide_eq_true (by kernel_rfl)) h0 bel (fun x hx => by simpa using hW'.lt x (by simp [hx]))) (trodAll_cons_mk (Below.trod laidOut (by kernel_rfl) (of_decide_eq_true (by kernel_rfl)) h1 bel (fun x hx => by simpa using hW'.lt x (by simp [hx]))) (trodAll_cons_mk (Below.trod laidOut (by kernel_rfl) (of_decide_eq_true (by kernel_rfl)) h2 bel (fun x hx => by simpa using hW'.lt x (by simp [hx]))) trodAll_mk0))), rfl, bel.frame _, fun h => by cases h⟩
theorem over : Rows.bucketFillsRow.holds Try.pinned (OpenSpec.ofChange Rows.bucketFillsSpec) :=
  OpenClaim.holds_of_wide 5 Try.f5 rfl rfl rfl rfl rfl rfl rfl ⟨rfl, rfl, rfl, rfl, rfl⟩ rfl rfl rfl rfl rfl (by kernel_rfl) Try.func5 (by kernel_rfl)
    (of_decide_eq_true (by kernel_rfl)) (by unfold Func.isWrapper; first | (rw [if_pos (by decide +kernel)]; kernel_rfl) | (rw [if_neg (by decide +kernel)]; exact ⟨rfl, rfl⟩))
    (fun os started H enc _ => lifted os started H enc)
end bucketFills
theorem bucketFills_holds : Rows.BucketFillsSaid := bucketFills.over
#print axioms bucketFills_holds
end Go.Proofs.Ytlcnemkbkbihhaa
