/- SporGrows: of a longer span no less may be used, of a period the budget, of any span no more than its ticks. No condition. -/
import Derived.Test.YthfnaeppolgpaaaSporAwake
import Derived.Test.YthfnaeppolgpaaaStill
import Derived.Test.YthfnaeppolgpaaaArg
import Derived.Test.YthfnaeppolgpaaaRows
import Derived.ProofKit
import Derived.OpenShut
import Derived.ShutString
import Derived.ChangeOld
import Derived.Below
import Derived.SizedLaws
namespace Go.Proofs.Ythfnaeppolgpaaa
open Go.ChangeShapes Go.WideShapes Go.ChangeAt Go.RowKit
open Go.ChangeMaps (open_string shut_string)
set_option linter.unusedVariables false
set_option linter.unusedSimpArgs false
namespace sporGrows
theorem two_of {k l : Option IntKind} {cs : List Value} (h : AllOk [k, l] cs) : ∃ a b, cs = [a, b] ∧ CellOk k a ∧ CellOk l b := by
  match cs, h with
  | [a, b], ⟨ha, hb, _⟩ => exact ⟨a, b, rfl, ha, hb⟩
theorem server_of0 {cs : List Value} (h : AllOk [some .i64, some .u64] cs) : ∃ u p, cs = [.int .i64 u, .int .u64 p] ∧ (Lit.int .i64 u).wf = true ∧ (Lit.int .u64 p).wf = true := by
  obtain ⟨a, b, e, ⟨u, hu, wu⟩, ⟨p, hp, wp⟩⟩ := two_of h
  exact ⟨u, p, by rw [e, hu, hp], wu, wp⟩
theorem server_of {cs : List Value} (h : AllOk [some .i64, some .u64] cs) : ∃ u p, cs = [.int .i64 u, .int .u64 p] ∧ -9223372036854775808 ≤ u ∧ u ≤ 9223372036854775807 ∧ 0 ≤ p ∧ p ≤ 18446744073709551615 := by
  obtain ⟨u, p, e, hu, hp⟩ := server_of0 h
  exact ⟨u, p, e, (bounds_i64 hu).1, (bounds_i64 hu).2, (bounds_u64 hp).1, (bounds_u64 hp).2⟩
theorem up_ge (n q : Int) (hn : 0 ≤ n) (hq : 0 < q) : n ≤ upF n q * q ∧ upF n q * q < n + q := by
  obtain ⟨b1, b2, b3, b4, b5⟩ := mul_div_le n q hn hq
  have hm : n % q = n - n / q * q := by have := Int.emod_add_mul_ediv n q; rw [Int.mul_comm] at this; omega
  have hm0 := Int.emod_nonneg n (show q ≠ 0 by omega)
  unfold upF
  rw [if_neg (by omega)]
  by_cases h : n % q = 0
  · rw [if_pos h]; exact ⟨by omega, by omega⟩
  · rw [if_neg h]
    have e : (n / q + 1) * q = n / q * q + q := by rw [Int.add_mul, Int.one_mul]
    exact ⟨by omega, by omega⟩
theorem up_mono (a b q : Int) (ha : 0 ≤ a) (hab : a ≤ b) (hq : 0 < q) : upF a q ≤ upF b q := by
  obtain ⟨a1, a2⟩ := up_ge a q ha hq
  obtain ⟨b1, b2⟩ := up_ge b q (by omega) hq
  have e : (upF b q + 1) * q = upF b q * q + q := by rw [Int.add_mul, Int.one_mul]
  have := Int.lt_of_mul_lt_mul_right (show upF a q * q < (upF b q + 1) * q by omega) (by omega)
  omega
theorem most_mono (u p a b : Int) (ha : 0 ≤ a) (hab : a ≤ b) (hb : b ≤ 1099511627776) : mostS u p a ≤ mostS u p b := by
  unfold mostS
  cases h : mayS u p with
  | false => simp
  | true =>
    obtain ⟨m1, m2, m3, m4⟩ := mayS_iff.1 h
    rw [if_neg (by simp; omega), if_neg (by simp; omega)]
    have := Int.mul_le_mul_of_nonneg_right (up_mono a b p ha hab (by omega)) (show 0 ≤ u by omega)
    omega
theorem most_period (u p : Int) (h : mayS u p = true) : mostS u p p = u := by
  obtain ⟨m1, m2, m3, m4⟩ := mayS_iff.1 h
  unfold mostS
  rw [if_neg (by rw [h]; simp; omega)]
  have : upF p p = 1 := by unfold upF; rw [if_neg (by omega), Int.emod_self, if_pos rfl, Int.ediv_self (by omega)]
  rw [this]; omega
theorem most_bd (u p a : Int) (ha : 0 ≤ a) : 0 ≤ mostS u p a ∧ mostS u p a ≤ a := by
  unfold mostS
  split
  · omega
  · rename_i h
    have hm : mayS u p = true := by
      cases q : mayS u p with
      | true => rfl
      | false => exact absurd (.inl q) h
    obtain ⟨m1, m2, m3, m4⟩ := mayS_iff.1 hm
    obtain ⟨u1, u2⟩ := upF_le a p ha (by omega)
    have := Int.mul_nonneg u1 (show 0 ≤ u by omega)
    omega
set_option maxRecDepth 100000 in
set_option maxHeartbeats 4000000 in
theorem walk (w : World) (cs : List Value) (ws : AllOk [some .i64, some .u64] cs) (a : Int) (w0 : (Lit.int .u32 a).wf = true) (b : Int) (w1 : (Lit.int .u32 b).wf = true) :
    Calls Try.prog 5 #[.agg ⟨cs⟩, .int .u32 a, .int .u32 b] w fun e w' => e = .returned (.bool true) ∧ Below w.heap.size w w' := by
  obtain ⟨u, p, rfl, bu, bu', bp, bp'⟩ := server_of ws
  obtain ⟨b0, b0'⟩ := bounds_u32 w0
  obtain ⟨b1, b1'⟩ := bounds_u32 w1
  clear ws w0 w1
  have M1 := fun W => Lib.hid (mostS_any u p a W bu bu' bp bp' b0 (by omega))
  have M2 := fun W => Lib.hid (mostS_any u p b W bu bu' bp bp' b1 (by omega))
  have M3 := fun W => Lib.hid (mostS_any u p (a + b) W bu bu' bp bp' (by omega) (by omega))
  have M4 := fun W => Lib.hid (mostS_any u p p W bu bu' bp bp' bp bp')
  have c5 := fun W => mays_any u p W bu bu' bp bp'
  have f1 := most_mono u p a (a + b) b0 (by omega) (by omega)
  have f2 := most_mono u p b (a + b) b1 (by omega) (by omega)
  obtain ⟨f3, f4⟩ := most_bd u p a b0
  obtain ⟨f5, f6⟩ := most_bd u p b b1
  have hz0 : mayS u p = false → ∀ x, mostS u p x = 0 := fun h x => by unfold mostS; rw [if_pos (.inl h)]
  have hz1 := most_period u p
  cases h : mayS u p with
  | false =>
    have z := hz0 h
    rw [h] at c5
    simp only [z] at M1 M2 M3 M4
    have C5 := fun W => Lib.hid (c5 W)
    clear c5 f1 f2 f3 f4 f5 f6 hz0 hz1 h z
    go_enter Try.func5, Try.ntmps5
    have hlt : w.heap.size < (w.alloc (.cells #[.int .i64 u, .int .u64 p] 24)).heap.size := by simp
    have hc0 : (w.alloc (.cells #[.int .i64 u, .int .u64 p] 24)).cell? ⟨w.heap.size, 0, none⟩ = some (.int .i64 u) := (Blk.new w 24 [.int .i64 u, .int .u64 p]).cell 0
    have hc1 : (w.alloc (.cells #[.int .i64 u, .int .u64 p] 24)).cell? ⟨w.heap.size, 1, none⟩ = some (.int .u64 p) := (Blk.new w 24 [.int .i64 u, .int .u64 p]).cell 1
    have hbel : Below w.heap.size w (w.alloc (.cells #[.int .i64 u, .int .u64 p] 24)) := (Below.refl _ _).alloc (Nat.le_refl _) _
    have HB := Lib.hid hbel
    clear hbel
    go_wp2_with (first
      | (go_at_call 7; (with_reducible refine Calls.mono (awake_any _) ?_); rintro e w0 ⟨rfl, bel0⟩
         have hc0 := (bel0.cell (p := ⟨w.heap.size, 0, none⟩) hlt).trans hc0
         have hc1 := (bel0.cell (p := ⟨w.heap.size, 1, none⟩) hlt).trans hc1
         have hlt := Nat.lt_of_lt_of_le hlt bel0.size
         have HB := Lib.hid (Below.next HB.out bel0)
         clear bel0)
      | (go_at_call 11; (with_reducible refine Calls.mono (M1 _).out ?_); rintro e w0 ⟨rfl, bel0⟩
         have hc0 := (bel0.cell (p := ⟨w.heap.size, 0, none⟩) hlt).trans hc0
         have hc1 := (bel0.cell (p := ⟨w.heap.size, 1, none⟩) hlt).trans hc1
         have hlt := Nat.lt_of_lt_of_le hlt bel0.size
         have HB := Lib.hid (Below.next HB.out bel0)
         clear bel0)
      | (go_at_call 11; (with_reducible refine Calls.mono (M2 _).out ?_); rintro e w0 ⟨rfl, bel0⟩
         have hc0 := (bel0.cell (p := ⟨w.heap.size, 0, none⟩) hlt).trans hc0
         have hc1 := (bel0.cell (p := ⟨w.heap.size, 1, none⟩) hlt).trans hc1
         have hlt := Nat.lt_of_lt_of_le hlt bel0.size
         have HB := Lib.hid (Below.next HB.out bel0)
         clear bel0)
      | (go_at_call 11; (with_reducible refine Calls.mono (M3 _).out ?_); rintro e w0 ⟨rfl, bel0⟩
         have hc0 := (bel0.cell (p := ⟨w.heap.size, 0, none⟩) hlt).trans hc0
         have hc1 := (bel0.cell (p := ⟨w.heap.size, 1, none⟩) hlt).trans hc1
         have hlt := Nat.lt_of_lt_of_le hlt bel0.size
         have HB := Lib.hid (Below.next HB.out bel0)
         clear bel0)
      | (go_at_call 11; (with_reducible refine Calls.mono (M4 _).out ?_); rintro e w0 ⟨rfl, bel0⟩
         have hc0 := (bel0.cell (p := ⟨w.heap.size, 0, none⟩) hlt).trans hc0
         have hc1 := (bel0.cell (p := ⟨w.heap.size, 1, none⟩) hlt).trans hc1
         have hlt := Nat.lt_of_lt_of_le hlt bel0.size
         have HB := Lib.hid (Below.next HB.out bel0)
         clear bel0)
      | (go_at_call 12; (with_reducible refine Calls.mono (C5 _).out ?_); rintro e w0 ⟨rfl, bel0⟩
         have hc0 := (bel0.cell (p := ⟨w.heap.size, 0, none⟩) hlt).trans hc0
         have hc1 := (bel0.cell (p := ⟨w.heap.size, 1, none⟩) hlt).trans hc1
         have hlt := Nat.lt_of_lt_of_le hlt bel0.size
         have HB := Lib.hid (Below.next HB.out bel0)
         clear bel0))
    go_ret
    exact ⟨rfl, HB.out⟩
  | true =>
    have z := hz1 h
    rw [h] at c5
    rw [z] at M4
    have hum := (mayS_iff.1 h)
    obtain ⟨u1, u2, -, -⟩ := hum
    generalize mostS u p a = x at *
    generalize mostS u p b = y at *
    generalize mostS u p (a + b) = zz at *
    have C5 := fun W => Lib.hid (c5 W)
    clear c5 hz0 hz1 h z
    have d1 : decide (x ≤ a) = true := decide_eq_true f4
    have d2 : decide (y ≤ zz) = true := decide_eq_true f2
    have d3 : decide (x ≤ zz) = true := decide_eq_true f1
    rcases (show x < y ∨ ¬ x < y by omega) with hxy | hxy
    all_goals
      go_enter Try.func5, Try.ntmps5
      have hlt : w.heap.size < (w.alloc (.cells #[.int .i64 u, .int .u64 p] 24)).heap.size := by simp
      have hc0 : (w.alloc (.cells #[.int .i64 u, .int .u64 p] 24)).cell? ⟨w.heap.size, 0, none⟩ = some (.int .i64 u) := (Blk.new w 24 [.int .i64 u, .int .u64 p]).cell 0
      have hc1 : (w.alloc (.cells #[.int .i64 u, .int .u64 p] 24)).cell? ⟨w.heap.size, 1, none⟩ = some (.int .u64 p) := (Blk.new w 24 [.int .i64 u, .int .u64 p]).cell 1
      have hbel : Below w.heap.size w (w.alloc (.cells #[.int .i64 u, .int .u64 p] 24)) := (Below.refl _ _).alloc (Nat.le_refl _) _
      have HB := Lib.hid hbel
      clear hbel
      go_wp2_with (first
        | (go_at_call 7; (with_reducible refine Calls.mono (awake_any _) ?_); rintro e w0 ⟨rfl, bel0⟩
           have hc0 := (bel0.cell (p := ⟨w.heap.size, 0, none⟩) hlt).trans hc0
           have hc1 := (bel0.cell (p := ⟨w.heap.size, 1, none⟩) hlt).trans hc1
           have hlt := Nat.lt_of_lt_of_le hlt bel0.size
           have HB := Lib.hid (Below.next HB.out bel0)
           clear bel0)
        | (go_at_call 11; (with_reducible refine Calls.mono (M1 _).out ?_); rintro e w0 ⟨rfl, bel0⟩
           have hc0 := (bel0.cell (p := ⟨w.heap.size, 0, none⟩) hlt).trans hc0
           have hc1 := (bel0.cell (p := ⟨w.heap.size, 1, none⟩) hlt).trans hc1
           have hlt := Nat.lt_of_lt_of_le hlt bel0.size
           have HB := Lib.hid (Below.next HB.out bel0)
           clear bel0)
        | (go_at_call 11; (with_reducible refine Calls.mono (M2 _).out ?_); rintro e w0 ⟨rfl, bel0⟩
           have hc0 := (bel0.cell (p := ⟨w.heap.size, 0, none⟩) hlt).trans hc0
           have hc1 := (bel0.cell (p := ⟨w.heap.size, 1, none⟩) hlt).trans hc1
           have hlt := Nat.lt_of_lt_of_le hlt bel0.size
           have HB := Lib.hid (Below.next HB.out bel0)
           clear bel0)
        | (go_at_call 11; (with_reducible refine Calls.mono (M3 _).out ?_); rintro e w0 ⟨rfl, bel0⟩
           have hc0 := (bel0.cell (p := ⟨w.heap.size, 0, none⟩) hlt).trans hc0
           have hc1 := (bel0.cell (p := ⟨w.heap.size, 1, none⟩) hlt).trans hc1
           have hlt := Nat.lt_of_lt_of_le hlt bel0.size
           have HB := Lib.hid (Below.next HB.out bel0)
           clear bel0)
        | (go_at_call 11; (with_reducible refine Calls.mono (M4 _).out ?_); rintro e w0 ⟨rfl, bel0⟩
           have hc0 := (bel0.cell (p := ⟨w.heap.size, 0, none⟩) hlt).trans hc0
           have hc1 := (bel0.cell (p := ⟨w.heap.size, 1, none⟩) hlt).trans hc1
           have hlt := Nat.lt_of_lt_of_le hlt bel0.size
           have HB := Lib.hid (Below.next HB.out bel0)
           clear bel0)
        | (go_at_call 12; (with_reducible refine Calls.mono (C5 _).out ?_); rintro e w0 ⟨rfl, bel0⟩
           have hc0 := (bel0.cell (p := ⟨w.heap.size, 0, none⟩) hlt).trans hc0
           have hc1 := (bel0.cell (p := ⟨w.heap.size, 1, none⟩) hlt).trans hc1
           have hlt := Nat.lt_of_lt_of_le hlt bel0.size
           have HB := Lib.hid (Below.next HB.out bel0)
           clear bel0))
      have g0 := SubW.cell hc0 hlt
      have g1 := SubW.cell hc1 hlt
      refine wp_region_sub (by kernel_rfl) (by kernel_rfl) ?_
      repeat (go_big_quiet_step ((go_at_call 11; exact sub_call _ (M4 _).out)))
      refine wpQuiet_nil ?_
      intro _ hw'
      obtain ⟨X, rfl⟩ := hw'
      have HX := Lib.hid (Below.next HB.out X.2)
      go_wp2_with fail
      go_ret
      exact ⟨rfl, HX.out⟩
end sporGrows
namespace sporGrows
theorem own : ownKnob Try.prog.godebug = none := by kernel_rfl
set_option maxRecDepth 100000 in
theorem lifted (os : Os) (started : os.Started) (H : Type) (enc : TypeId × Value → H) :
    ReturnsInHanded {} Try.checked os 5 .any (Rows.sporGrowsSpec.pre6 enc Try.prog Try.f5 Rows.sporGrowsRow.domain false) (Rows.sporGrowsSpec.post enc Try.prog Try.f5 false true false false) := by
  refine returnsInHanded_of_change_sized (C := Try.checked) own started (by kernel_rfl) Try.func5
    (ChangeSpec.witness6 (enc := enc) (C := Try.checked) false ⟨#[], #[.agg #[.int .i64 0, .int .u64 0], .int .u32 0, .int .u32 0], []⟩ 8 (by kernel_rfl) (by kernel_rfl) (by kernel_rfl) (by kernel_rfl)) ?_
  intro W base args ds gs before hval0 hW hcnd hsz0 _
  have hsz : (DataW.weightsEach Try.prog (Try.f5.params.toList ++ Rows.sporGrowsSpec.plain.varTypes Try.prog) (ds ++ gs)).all (· ≤ reachBytes) = true := hsz0
  have hval : ∀ (j : Nat) t v, Try.f5.params[j]? = some t → args[j]? = some v → Value.okWide Try.prog W .any base t v := hval0
  have hW' := hW
  obtain ⟨p, q, hA0, hV, rfl, hfz, hnd⟩ := hW
  have hA : DataW.TrodAll enc Try.prog W 0 (fun _ => true) true Try.f5.params.toList args.toList ds p := hA0
  rw [Try.params5] at hA hval hsz
  obtain ⟨v0, vs0, d0, ds0, p0, q0, hargs, rfl, rfl, h0, r0⟩ := trodAll_cons hA
  obtain ⟨v1, vs1, d1, ds1, p1, q1, rfl, rfl, rfl, h1, r1⟩ := trodAll_cons r0
  obtain ⟨v2, vs2, d2, ds2, p2, q2, rfl, rfl, rfl, h2, r2⟩ := trodAll_cons r1
  obtain ⟨rfl, rfl, rfl⟩ := trodAll_nil r2
  obtain rfl : args = #[v0, v1, v2] := by cases args; simp_all
  obtain ⟨rfl, rfl⟩ := trodVars_none hV
  obtain ⟨c0, rfl, w0⟩ := arg_agg [some .i64, some .u64] (by first | exact .inl ⟨_, Try.underlying24⟩ | exact .inr ⟨_, _, Try.underlying24⟩) 6 (by kernel_rfl) (by kernel_rfl) (hval 0 24 v0 rfl rfl) h0
  obtain ⟨a1, rfl, w1⟩ := arg_one Try.underlying43 (hval 1 43 v1 rfl rfl) h1
  obtain ⟨a2, rfl, w2⟩ := arg_one Try.underlying43 (hval 2 43 v2 rfl rfl) h2
  clear hA0 hval0 hsz0 hsz
  refine (walk W c0 w0 a1 w1 a2 w2).mono fun e W' ⟨he, bel⟩ => ?_
  subst he
  exact ⟨_, rfl, _, _, _, [], _, [], hW', trodAll_mk1 (shut_bool Try.underlying4 _), (trodAll_cons_mk (Below.trod laidOut (by kernel_rfl) (of_decide_eq_true (by kernel_rfl)) h0 bel (fun x hx => by simpa using hW'.lt x (by simp [hx]))) (trodAll_cons_mk (Below.trod laidOut (by kernel_rfl) (of_decide_eq_true (by kernel_rfl)) h1 bel (fun x hx => by simpa using hW'.lt x (by simp [hx]))) (trodAll_cons_mk (Below.trod laidOut (by kernel_rfl) (of_decide_eq_true (by kernel_rfl)) h2 bel (fun x hx => by simpa using hW'.lt x (by simp [hx]))) trodAll_mk0))), rfl, bel.frame _, fun h => by cases h⟩
theorem over : Rows.sporGrowsRow.holds Try.pinned (OpenSpec.ofChange Rows.sporGrowsSpec) :=
  OpenClaim.holds_of_wide 5 Try.f5 rfl rfl rfl rfl rfl rfl rfl ⟨rfl, rfl, rfl, rfl, rfl⟩ rfl rfl rfl rfl rfl (by kernel_rfl) Try.func5 (by kernel_rfl)
    (of_decide_eq_true (by kernel_rfl)) (by unfold Func.isWrapper; first | (rw [if_pos (by decide +kernel)]; kernel_rfl) | (rw [if_neg (by decide +kernel)]; exact ⟨rfl, rfl⟩))
    (fun os started H enc _ => lifted os started H enc)
end sporGrows
theorem sporGrows_holds : Rows.SporGrowsSaid := sporGrows.over
#print axioms sporGrows_holds
end Go.Proofs.Ythfnaeppolgpaaa
