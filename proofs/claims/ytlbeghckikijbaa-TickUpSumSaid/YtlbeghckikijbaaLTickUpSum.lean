/- TickUpSum: a quotient rounded up of a sum is no more than those of its parts together, nor less than either. No condition (numbers of 32 bits, as the law has them). -/
import Derived.Test.YtlbeghckikijbaaTickAwake
import Derived.Test.YtlbeghckikijbaaRows
import Derived.ProofKit
import Derived.OpenShut
import Derived.ShutString
import Derived.ChangeOld
import Derived.Below
import Derived.SizedLaws
namespace Go.Proofs.Ytlbeghckikijbaa
open Go.ChangeShapes Go.WideShapes Go.ChangeAt Go.RowKit
open Go.ChangeMaps (open_string shut_string)
set_option linter.unusedVariables false
namespace tickUpSum
/-- n is q rounded up: the least that is enough. -/
theorem up_char (n q : Int) (hn : 0 ≤ n) (hq : 0 < q) : 0 ≤ upF n q ∧ upF n q ≤ n ∧ n ≤ upF n q * q ∧ upF n q * q < n + q := by
  obtain ⟨b1, b2, b3, b4, b5⟩ := mul_div_le n q hn hq
  have hm : n % q = n - n / q * q := by have := Int.emod_add_mul_ediv n q; rw [Int.mul_comm] at this; omega
  unfold upF
  rw [if_neg (by omega)]
  split
  · exact ⟨b1, b2, by omega, by omega⟩
  · have e : (n / q + 1) * q = n / q * q + q := by rw [Int.add_mul, Int.one_mul]
    have h3 : q ≠ 1 := by rintro rfl; simp at *
    have h4 : n / q * 2 ≤ n / q * q := Int.mul_le_mul_of_nonneg_left (by omega) b1
    exact ⟨by omega, by omega, by omega, by omega⟩
theorem lt_of_mul {x y q : Int} (hq : 0 < q) (h : x * q < y * q) : x < y := Int.lt_of_mul_lt_mul_right h (by omega)
theorem law (a b q : Int) (ha : 0 ≤ a) (hb : 0 ≤ b) (hq : 0 < q) :
    upF (a + b) q ≤ upF a q + upF b q ∧ upF a q ≤ upF (a + b) q ∧ upF b q ≤ upF (a + b) q ∧ upF a q + upF b q ≤ upF (a + b) q + 1 ∧ (upF a q = 0 ↔ a = 0) := by
  obtain ⟨x1, x2, x3, x4⟩ := up_char a q ha hq
  obtain ⟨y1, y2, y3, y4⟩ := up_char b q hb hq
  obtain ⟨z1, z2, z3, z4⟩ := up_char (a + b) q (by omega) hq
  generalize upF a q = x at *
  generalize upF b q = y at *
  generalize upF (a + b) q = z at *
  have e1 : (x + y + 1) * q = x * q + y * q + q := by rw [Int.add_mul, Int.add_mul, Int.one_mul]
  have e2 : (z + 1) * q = z * q + q := by rw [Int.add_mul, Int.one_mul]
  have e3 : (z + 2) * q = z * q + 2 * q := by rw [Int.add_mul]
  have e4 : (x + y) * q = x * q + y * q := by rw [Int.add_mul]
  have i1 := lt_of_mul (x := z) (y := x + y + 1) hq (by omega)
  have i2 := lt_of_mul (x := x) (y := z + 1) hq (by omega)
  have i3 := lt_of_mul (x := y) (y := z + 1) hq (by omega)
  have i4 := lt_of_mul (x := x + y) (y := z + 2) hq (by omega)
  refine ⟨by omega, by omega, by omega, by omega, fun h => ?_, fun h => by omega⟩
  subst h
  simp at x3
  omega
set_option maxHeartbeats 2000000 in
theorem walk (a b q : Int) (w : World) (w0 : (Lit.int .u32 a).wf = true) (w1 : (Lit.int .u32 b).wf = true) (w2 : (Lit.int .u32 q).wf = true) :
    Calls Try.prog 6 #[.int .u32 a, .int .u32 b, .int .u32 q] w fun e w' => e = .returned (.bool true) ∧ Below w.heap.size w w' := by
  obtain ⟨b0, b0'⟩ := bounds_u32 w0
  obtain ⟨b1, b1'⟩ := bounds_u32 w1
  obtain ⟨b2, b2'⟩ := bounds_u32 w2
  clear w0 w1 w2
  have c1 := up_any a q w b0 (by omega) b2 (by omega)
  have c2 := up_any b q w b1 (by omega) b2 (by omega)
  have c3 := up_any (a + b) q w (by omega) (by omega) b2 (by omega)
  by_cases hq : q = 0
  · subst hq
    have e : ∀ n, upF n 0 = 0 := fun n => rfl
    rw [e] at c1 c2 c3
    have C1 := Lib.hid c1
    have C2 := Lib.hid c2
    have C3 := Lib.hid c3
    clear c1 c2 c3 e
    go_enter Try.func6, Try.ntmps6
    go_wp2_with (first
      | (go_at_call 11; refine (awake_any _).mono ?_; rintro e w' ⟨rfl, rfl⟩)
      | (go_at_call 16; (with_reducible refine Calls.mono C1.out ?_); rintro e w' ⟨rfl, rfl⟩)
      | (go_at_call 16; (with_reducible refine Calls.mono C2.out ?_); rintro e w' ⟨rfl, rfl⟩)
      | (go_at_call 16; (with_reducible refine Calls.mono C3.out ?_); rintro e w' ⟨rfl, rfl⟩))
    go_ret
    exact ⟨rfl, Below.refl _ _⟩
  · have L := law a b q b0 b1 (by omega)
    obtain ⟨x1, x2, -, -⟩ := up_char a q b0 (by omega)
    obtain ⟨y1, y2, -, -⟩ := up_char b q b1 (by omega)
    obtain ⟨z1, z2, -, -⟩ := up_char (a + b) q (by omega) (by omega)
    generalize upF a q = x at *
    generalize upF b q = y at *
    generalize upF (a + b) q = z at *
    obtain ⟨l1, l2, l3, l4, l5⟩ := L
    have hq' : (q == 0) = false := by simpa using hq
    have l6 : ((x == 0) == (a == 0)) = true := by
      by_cases h : x = 0
      · simp [h, l5.1 h]
      · have : a ≠ 0 := fun k => h (l5.2 k)
        rw [beq_eq_false_iff_ne.2 h, beq_eq_false_iff_ne.2 this]; rfl
    have m1 : max x y ≤ z := by omega
    have m2 : 0 ≤ max x y := by omega
    have C1 := Lib.hid c1
    have C2 := Lib.hid c2
    have C3 := Lib.hid c3
    clear c1 c2 c3 l5 hq
    go_enter Try.func6, Try.ntmps6
    go_wp2_with (first
      | (go_at_call 11; refine (awake_any _).mono ?_; rintro e w' ⟨rfl, rfl⟩)
      | (go_at_call 16; (with_reducible refine Calls.mono C1.out ?_); rintro e w' ⟨rfl, rfl⟩)
      | (go_at_call 16; (with_reducible refine Calls.mono C2.out ?_); rintro e w' ⟨rfl, rfl⟩)
      | (go_at_call 16; (with_reducible refine Calls.mono C3.out ?_); rintro e w' ⟨rfl, rfl⟩))
    all_goals
      go_ret
      exact ⟨rfl, Below.refl _ _⟩
end tickUpSum
namespace tickUpSum
theorem own : ownKnob Try.prog.godebug = none := by kernel_rfl
set_option maxRecDepth 100000 in
theorem lifted (os : Os) (started : os.Started) (H : Type) (enc : TypeId × Value → H) :
    ReturnsInHanded {} Try.checked os 6 .any (Rows.tickUpSumSpec.pre6 enc Try.prog Try.f6 Rows.tickUpSumRow.domain false) (Rows.tickUpSumSpec.post enc Try.prog Try.f6 false true false false) := by
  refine returnsInHanded_of_change_sized (C := Try.checked) own started (by kernel_rfl) Try.func6
    (ChangeSpec.witness6 (enc := enc) (C := Try.checked) false ⟨#[], #[.int .u32 0, .int .u32 0, .int .u32 0], []⟩ 8 (by kernel_rfl) (by kernel_rfl) (by kernel_rfl) (by kernel_rfl)) ?_
  intro W base args ds gs before hval0 hW hcnd hsz0 _
  have hsz : (DataW.weightsEach Try.prog (Try.f6.params.toList ++ Rows.tickUpSumSpec.plain.varTypes Try.prog) (ds ++ gs)).all (· ≤ reachBytes) = true := hsz0
  have hval : ∀ (j : Nat) t v, Try.f6.params[j]? = some t → args[j]? = some v → Value.okWide Try.prog W .any base t v := hval0
  have hW' := hW
  obtain ⟨p, q, hA0, hV, rfl, hfz, hnd⟩ := hW
  have hA : DataW.TrodAll enc Try.prog W 0 (fun _ => true) true Try.f6.params.toList args.toList ds p := hA0
  rw [Try.params6] at hA hval hsz
  obtain ⟨v0, vs0, d0, ds0, p0, q0, hargs, rfl, rfl, h0, r0⟩ := trodAll_cons hA
  obtain ⟨v1, vs1, d1, ds1, p1, q1, rfl, rfl, rfl, h1, r1⟩ := trodAll_cons r0
  obtain ⟨v2, vs2, d2, ds2, p2, q2, rfl, rfl, rfl, h2, r2⟩ := trodAll_cons r1
  obtain ⟨rfl, rfl, rfl⟩ := trodAll_nil r2
  obtain rfl : args = #[v0, v1, v2] := by cases args; simp_all
  obtain ⟨rfl, rfl⟩ := trodVars_none hV
  obtain ⟨a0, rfl, rfl, rfl, w0⟩ := open_int Try.underlying32 (hval 0 32 v0 rfl rfl) h0
  obtain ⟨a1, rfl, rfl, rfl, w1⟩ := open_int Try.underlying32 (hval 1 32 v1 rfl rfl) h1
  obtain ⟨a2, rfl, rfl, rfl, w2⟩ := open_int Try.underlying32 (hval 2 32 v2 rfl rfl) h2
  clear hA0 hval0 hsz0 hsz
  refine (walk a0 a1 a2 W w0 w1 w2).mono fun e W' ⟨he, bel⟩ => ?_
  subst he
  exact ⟨_, rfl, _, _, _, [], _, [], hW', trodAll_mk1 (shut_bool Try.underlying4 _), (trodAll_cons_mk (shut_int Try.underlying32 w0) (trodAll_cons_mk (shut_int Try.underlying32 w1) (trodAll_cons_mk (shut_int Try.underlying32 w2) trodAll_mk0))), rfl, bel.frame _, fun h => by cases h⟩
theorem over : Rows.tickUpSumRow.holds Try.pinned (OpenSpec.ofChange Rows.tickUpSumSpec) :=
  OpenClaim.holds_of_wide 6 Try.f6 rfl rfl rfl rfl rfl rfl rfl ⟨rfl, rfl, rfl, rfl, rfl⟩ rfl rfl rfl rfl rfl (by kernel_rfl) Try.func6 (by kernel_rfl)
    (of_decide_eq_true (by kernel_rfl)) (by unfold Func.isWrapper; first | (rw [if_pos (by decide +kernel)]; kernel_rfl) | (rw [if_neg (by decide +kernel)]; exact ⟨rfl, rfl⟩))
    (fun os started H enc _ => lifted os started H enc)
end tickUpSum
theorem tickUpSum_holds : Rows.TickUpSumSaid := tickUpSum.over
#print axioms tickUpSum_holds
end Go.Proofs.Ytlbeghckikijbaa
