/- BucketMosts: of a longer span no less may be taken; of a span without ticks the depth, and one more. No condition. -/
import Derived.Test.YtlcnemkbkbihhaaBucketLaw
import Derived.Test.YtlcnemkbkbihhaaArg
import Derived.Test.YtlcnemkbkbihhaaRows
import Derived.ProofKit
import Derived.OpenShut
import Derived.ShutString
import Derived.ChangeOld
import Derived.Below
import Derived.SizedLaws
namespace Go.Proofs.Ytlcnemkbkbihhaa
open Go.ChangeShapes Go.WideShapes Go.ChangeAt Go.RowKit
open Go.ChangeMaps (open_string shut_string)
set_option linter.unusedVariables false
set_option linter.unusedSimpArgs false
namespace bucketMosts
theorem two_of {k l : Option IntKind} {cs : List Value} (h : AllOk [k, l] cs) : ∃ a b, cs = [a, b] ∧ CellOk k a ∧ CellOk l b := by
  match cs, h with
  | [a, b], ⟨ha, hb, _⟩ => exact ⟨a, b, rfl, ha, hb⟩
theorem yes {d q span : Int} (m : mayK d q = true) (h : span ≤ 1099511627776) : mostK d q span = d + span / q + 1 := by unfold mostK; rw [if_neg (by rw [m]; simp; omega)]
theorem far {d q span : Int} (h : 1099511627776 < span) : mostK d q span = 0 := by unfold mostK; rw [if_pos (.inr h)]
theorem no {d q span : Int} (m : mayK d q = false) : mostK d q span = 0 := by unfold mostK; rw [if_pos (.inl m)]
theorem box1 (w : World) (a b : Int) (W : World) (h : Below (w.alloc (.cells #[.int .u32 a, .int .u32 b] 42)).heap.size (w.alloc (.cells #[.int .u32 a, .int .u32 b] 42)) W) :
    W.cell? ⟨w.heap.size, 0, none⟩ = some (.int .u32 a) ∧ W.cell? ⟨w.heap.size, 1, none⟩ = some (.int .u32 b) := by
  have k := (Blk.new w 42 [.int .u32 a, .int .u32 b]).below h (by simp)
  exact ⟨k.cell 0, k.cell 1⟩
set_option maxRecDepth 100000 in
set_option maxHeartbeats 8000000 in
theorem walk2 (w : World) (d q a b : Int) (bd : -9223372036854775808 ≤ d) (bd' : d ≤ 9223372036854775807) (bq : 0 ≤ q) (bq' : q ≤ 18446744073709551615) (a0 : 0 ≤ a) (a1 : a ≤ 4294967295) (b0 : 0 ≤ b) (b1 : b ≤ 4294967295) :
    Calls Try.prog 6 #[.int .i64 d, .int .u64 q, .agg #[.int .u32 a, .int .u32 b]] w fun e w' => e = .returned (.bool true) ∧ Below w.heap.size w w' := by
  have BOX := Lib.hid (box1 w a b)
  have c1 := fun W => mostK_any d q a W bd bd' bq bq' (by omega) (by omega)
  have c2 := fun W => mostK_any d q (a + b) W bd bd' bq bq' (by omega) (by omega)
  cases m : mayK d q with
  | false =>
    rw [no m] at c1 c2
    have M1 := fun W => Lib.hid (c1 W)
    have M2 := fun W => Lib.hid (c2 W)
    have N := fun W => Lib.hid (newK_no d q W bd bd' bq bq' m)
    clear c1 c2 m
    go_enter Try.func6, Try.ntmps6
    go_wp2_with (first
      | (go_at_call 8; (with_reducible refine Calls.mono (awake_any _) ?_); rintro e w0 ⟨rfl, bel0⟩
         have HB := Lib.hid bel0; clear bel0; obtain ⟨q0, q1⟩ := BOX.out _ HB.out)
      | (go_at_call 12; (with_reducible refine Calls.mono (M1 _).out ?_); rintro e w1 ⟨rfl, rfl⟩)
      | (go_at_call 12; (with_reducible refine Calls.mono (M2 _).out ?_); rintro e w2 ⟨rfl, rfl⟩)
      | (go_at_call 9; (with_reducible refine Calls.mono (N _).out ?_); rintro e w3 ⟨rfl, rfl⟩))
    go_show
    go_ret
    exact ⟨rfl, Below.next ((Below.refl _ _).alloc (Nat.le_refl _) _) HB.out⟩
  | true =>
    have c3 := fun W => mostK_any d q 0 W bd bd' bq bq' (by omega) (by omega)
    have c4 := fun W => mostK_any d q 2199023255552 W bd bd' bq bq' (by omega) (by omega)
    rw [yes m (by omega)] at c1 c2 c3
    rw [far (by omega)] at c4
    have M1 := fun W => Lib.hid (c1 W)
    have M2 := fun W => Lib.hid (c2 W)
    have M3 := fun W => Lib.hid (c3 W)
    have M4 := fun W => Lib.hid (c4 W)
    have N := fun W => Lib.hid (newK_any d q W bd bd' bq bq' m)
    obtain ⟨m1, m2, m3, m4⟩ := mayK_iff.1 m
    obtain ⟨d1, d2⟩ := div_add a b q a0 b0 (by omega)
    obtain ⟨e1, e2, -⟩ := mul_div_le a q a0 (by omega)
    obtain ⟨f1, f2, -⟩ := mul_div_le b q b0 (by omega)
    clear c1 c2 c3 c4 m
    generalize (a + b) / q = z at *
    generalize a / q = x at *
    generalize hy : b / q = y at *
    have z1 : decide (d + x + 1 ≤ d + z + 1) = true := decide_eq_true (by omega)
    have z2 : decide (d + z + 1 - (d + x + 1) ≤ y + 1) = true := decide_eq_true (by omega)
    go_enter Try.func6, Try.ntmps6
    go_wp2_with (first
      | (go_at_call 8; (with_reducible refine Calls.mono (awake_any _) ?_); rintro e w0 ⟨rfl, bel0⟩
         have HB := Lib.hid bel0; clear bel0; obtain ⟨q0, q1⟩ := BOX.out _ HB.out)
      | (go_at_call 12; (with_reducible refine Calls.mono (M1 _).out ?_); rintro e w1 ⟨rfl, rfl⟩)
      | (go_at_call 12; (with_reducible refine Calls.mono (M2 _).out ?_); rintro e w2 ⟨rfl, rfl⟩)
      | (go_at_call 12; (with_reducible refine Calls.mono (M3 _).out ?_); rintro e w2 ⟨rfl, rfl⟩)
      | (go_at_call 12; (with_reducible refine Calls.mono (M4 _).out ?_); rintro e w2 ⟨rfl, rfl⟩)
      | (go_at_call 9; (with_reducible refine Calls.mono (N _).out ?_); rintro e w3 ⟨o, rfl, hb, k1, bel1⟩
         have HB := Lib.hid (Below.next HB.out bel1); clear bel1 k1))
    go_show
    go_ret
    exact ⟨rfl, Below.next ((Below.refl _ _).alloc (Nat.le_refl _) _) HB.out⟩
theorem walk (w : World) (d : Int) (w0 : (Lit.int .i64 d).wf = true) (q : Int) (w1 : (Lit.int .u64 q).wf = true) (cs : List Value) (ws : AllOk [some .u32, some .u32] cs) :
    Calls Try.prog 6 #[.int .i64 d, .int .u64 q, .agg ⟨cs⟩] w fun e w' => e = .returned (.bool true) ∧ Below w.heap.size w w' := by
  obtain ⟨_, _, rfl, ⟨a, rfl, wa⟩, ⟨b, rfl, wb⟩⟩ := two_of ws
  exact walk2 w d q a b (bounds_i64 w0).1 (bounds_i64 w0).2 (bounds_u64 w1).1 (bounds_u64 w1).2 (bounds_u32 wa).1 (bounds_u32 wa).2 (bounds_u32 wb).1 (bounds_u32 wb).2
end bucketMosts
namespace bucketMosts
theorem own : ownKnob Try.prog.godebug = none := by kernel_rfl
set_option maxRecDepth 100000 in
theorem lifted (os : Os) (started : os.Started) (H : Type) (enc : TypeId × Value → H) :
    ReturnsInHanded {} Try.checked os 6 .any (Rows.bucketMostsSpec.pre6 enc Try.prog Try.f6 Rows.bucketMostsRow.domain false) (Rows.bucketMostsSpec.post enc Try.prog Try.f6 false true false false) := by
  refine returnsInHanded_of_change_sized (C := Try.checked) own started (by kernel_rfl) Try.func6
    (ChangeSpec.witness6 (enc := enc) (C := Try.checked) false ⟨#[], #[.int .i64 0, .int .u64 0, .agg #[.int .u32 0, .int .u32 0]], []⟩ 8 (by kernel_rfl) (by kernel_rfl) (by kernel_rfl) (by kernel_rfl)) ?_
  intro W base args ds gs before hval0 hW hcnd hsz0 _
  have hsz : (DataW.weightsEach Try.prog (Try.f6.params.toList ++ Rows.bucketMostsSpec.plain.varTypes Try.prog) (ds ++ gs)).all (· ≤ reachBytes) = true := hsz0
  have hval : ∀ (j : Nat) t v, Try.f6.params[j]? = some t → args[j]? = some v → Value.okWide Try.prog W .any base t v := hval0
  have hW' := hW
  obtain ⟨p, q, hA0, hV, rfl, hfz, hnd⟩ := hW
  have hA : DataW.TrodAll enc Try.prog W 0 (fun _ => true) true Try.f6.params.toList args.toList ds p := hA0
  rw [Try.params6] at hA hval hsz
  obtain ⟨v0, vs0, d0, ds0, p0, q0, hargs, rfl, rfl, h0, r0⟩ := trodAll_cons hA
  obtain ⟨v1, vs1, d1, ds1, p1, q1, rfl, rfl, rfl, h1, r1⟩ := trodAll_cons r0
  obtain ⟨v2, vs2, d2, ds2, p2, q2, rfl, rfl, rfl, h2, r2⟩ := trodAll_cons r1
  obtain ⟨rfl, rfl, rfl⟩ := trodAll_nil r2
  obtain rfl : args = #[v0, v1, v2] := by cases args; simp_all
  obtain ⟨rfl, rfl⟩ := trodVars_none hV
  obtain ⟨a0, rfl, w0⟩ := arg_one Try.underlying3 (hval 0 3 v0 rfl rfl) h0
  obtain ⟨a1, rfl, w1⟩ := arg_one Try.underlying28 (hval 1 28 v1 rfl rfl) h1
  obtain ⟨c2, rfl, w2⟩ := arg_agg [some .u32, some .u32] (by first | exact .inl ⟨_, Try.underlying42⟩ | exact .inr ⟨_, _, Try.underlying42⟩) 6 (by kernel_rfl) (by kernel_rfl) (hval 2 42 v2 rfl rfl) h2
  clear hA0 hval0 hsz0 hsz
  refine (walk W a0 w0 a1 w1 c2 w2).mono fun e W' ⟨he, bel⟩ => ?_
  subst he
  exact ⟨_, rfl, _, _, _, [], _, [], hW', trodAll_mk1 (shut_bool Try.underlying4 _), (trodAll_cons_mk (Below.trod laidOut (by kernel_rfl) (of_decide_eq_true (by kernel_rfl)) h0 bel (fun x hx => by simpa using hW'.lt x (by simp [hx]))) (trodAll_cons_mk (Below.trod laidOut (by kernel_rfl) (of_decide_eq_true (by kernel_rfl)) h1 bel (fun x hx => by simpa using hW'.lt x (by simp [hx]))) (trodAll_cons_mk (Below.trod laidOut (by kernel_rfl) (of_decide_eq_true (by kernel_rfl)) h2 bel (fun x hx => by simpa using hW'.lt x (by simp [hx]))) trodAll_mk0))), rfl, bel.frame _, fun h => by cases h⟩
theorem over : Rows.bucketMostsRow.holds Try.pinned (OpenSpec.ofChange Rows.bucketMostsSpec) :=
  OpenClaim.holds_of_wide 6 Try.f6 rfl rfl rfl rfl rfl rfl rfl ⟨rfl, rfl, rfl, rfl, rfl⟩ rfl rfl rfl rfl rfl (by kernel_rfl) Try.func6 (by kernel_rfl)
    (of_decide_eq_true (by kernel_rfl)) (by unfold Func.isWrapper; first | (rw [if_pos (by decide +kernel)]; kernel_rfl) | (rw [if_neg (by decide +kernel)]; exact ⟨rfl, rfl⟩))
    (fun os started H enc _ => lifted os started H enc)
end bucketMosts
theorem bucketMosts_holds : Rows.BucketMostsSaid := bucketMosts.over
#print axioms bucketMosts_holds
end Go.Proofs.Ytlcnemkbkbihhaa
