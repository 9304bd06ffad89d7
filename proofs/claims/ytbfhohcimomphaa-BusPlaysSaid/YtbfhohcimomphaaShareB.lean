/- More contracts of layer 5 (share): whether a share may be; a new meter; the most in a span; the reference's likewise. -/
import Derived.Test.YtbfhohcimomphaaShare
import Derived.Test.YtbfhohcimomphaaTickRef
namespace Go.Proofs.Ytbfhohcimomphaa
open Go.RowKit
set_option linter.unusedVariables false
set_option linter.unusedSimpArgs false
theorem boxm (w : World) (b p : Int) (W : World) (h : Below (w.alloc (.cells #[.int .u64 b, .int .u64 p] 39)).heap.size (w.alloc (.cells #[.int .u64 b, .int .u64 p] 39)) W) :
    W.cell? ⟨w.heap.size, 0, none⟩ = some (.int .u64 b) ∧ W.cell? ⟨w.heap.size, 1, none⟩ = some (.int .u64 p) := by
  have k := (Blk.new w 39 [.int .u64 b, .int .u64 p]).below h (by simp)
  exact ⟨k.cell 0, k.cell 1⟩
theorem maym_any (b p : Int) (w : World) (bb : 0 ≤ b) (bb' : b ≤ 18446744073709551615) (bp : 0 ≤ p) (bp' : p ≤ 18446744073709551615) :
    Calls Try.prog 30 #[.agg #[.int .u64 b, .int .u64 p]] w fun e w' => e = .returned (.bool (mayM b p)) ∧ Below w.heap.size w w' := by
  by_cases z1 : 1 ≤ p
  · by_cases z2 : p ≤ 1099511627776
    · by_cases z3 : 1 ≤ b
      · by_cases z4 : b ≤ p
        · have e : mayM b p = true := decide_eq_true (by omega)
          rw [e]; clear e
          go_enter Try.func30, Try.ntmps30
          go_wp2
          go_ret
          exact ⟨retb (by simp), (Below.refl _ _).alloc (Nat.le_refl _) _⟩
        · have e : mayM b p = false := decide_eq_false (by omega)
          have y : decide (b ≤ p) = false := decide_eq_false (by omega)
          rw [e]; clear e
          go_enter Try.func30, Try.ntmps30
          go_wp2
          go_ret
          exact ⟨retb (by simp), (Below.refl _ _).alloc (Nat.le_refl _) _⟩
      · have e : mayM b p = false := decide_eq_false (by omega)
        have y : decide (1 ≤ b) = false := decide_eq_false (by omega)
        rw [e]; clear e
        go_enter Try.func30, Try.ntmps30
        go_wp2
        go_ret
        exact ⟨retb (by simp), (Below.refl _ _).alloc (Nat.le_refl _) _⟩
    · have e : mayM b p = false := decide_eq_false (by omega)
      have y : decide (p ≤ 1099511627776) = false := decide_eq_false (by omega)
      rw [e]; clear e
      go_enter Try.func30, Try.ntmps30
      go_wp2
      go_ret
      exact ⟨retb (by simp), (Below.refl _ _).alloc (Nat.le_refl _) _⟩
  · have e : mayM b p = false := decide_eq_false (by omega)
    have y : decide (1 ≤ p) = false := decide_eq_false (by omega)
    rw [e]; clear e
    go_enter Try.func30, Try.ntmps30
    go_wp2
    go_ret
    exact ⟨retb (by simp), (Below.refl _ _).alloc (Nat.le_refl _) _⟩
theorem rmaym_any (b p : Int) (w : World) (bb : 0 ≤ b) (bb' : b ≤ 18446744073709551615) (bp : 0 ≤ p) (bp' : p ≤ 18446744073709551615) :
    Calls Try.prog 28 #[.agg #[.int .u64 b, .int .u64 p]] w fun e w' => e = .returned (.bool (mayM b p)) ∧ Below w.heap.size w w' := by
  by_cases z1 : 0 < b
  · by_cases z2 : b ≤ p
    · by_cases z3 : p ≤ 1099511627776
      · have e : mayM b p = true := decide_eq_true (by omega)
        rw [e]; clear e
        go_enter Try.func28, Try.ntmps28
        go_wp2
        go_ret
        exact ⟨retb (by simp), (Below.refl _ _).alloc (Nat.le_refl _) _⟩
      · have e : mayM b p = false := decide_eq_false (by omega)
        have y : decide (p ≤ 1099511627776) = false := decide_eq_false (by omega)
        rw [e]; clear e
        go_enter Try.func28, Try.ntmps28
        go_wp2
        go_ret
        exact ⟨retb (by simp), (Below.refl _ _).alloc (Nat.le_refl _) _⟩
    · have e : mayM b p = false := decide_eq_false (by omega)
      have y : decide (b ≤ p) = false := decide_eq_false (by omega)
      rw [e]; clear e
      go_enter Try.func28, Try.ntmps28
      go_wp2
      go_ret
      exact ⟨retb (by simp), (Below.refl _ _).alloc (Nat.le_refl _) _⟩
  · have e : mayM b p = false := decide_eq_false (by omega)
    have y : decide (0 < b) = false := decide_eq_false (by omega)
    rw [e]; clear e
    go_enter Try.func28, Try.ntmps28
    go_wp2
    go_ret
    exact ⟨retb (by simp), (Below.refl _ _).alloc (Nat.le_refl _) _⟩
theorem newM_any (b p f : Int) (w : World) (bb : 0 ≤ b) (bb' : b ≤ 18446744073709551615) (bp : 0 ≤ p) (bp' : p ≤ 18446744073709551615) (bf : 0 ≤ f) (bf' : f ≤ 18446744073709551615) (h : mayM b p = true) (hf : f < 4611686018427387904) :
    Calls Try.prog 22 #[.agg #[.int .u64 b, .int .u64 p], .int .u64 f] w fun e w' => ∃ m, e = .returned (.tuple #[.pointer (some ⟨m, 0, none⟩), .int .i64 0]) ∧ w.heap.size ≤ m ∧ IsM w' m ⟨b, p, f, f, 0, 0⟩ ∧ Below w.heap.size w w' := by
  have c := fun W => maym_any b p W bb bb' bp bp'
  rw [h] at c
  have C := fun W => Lib.hid (c W)
  have T := fun W => Lib.hid (may_any f W)
  rw [decide_eq_true hf] at T
  have BOX := Lib.hid (boxm w b p)
  clear c
  go_enter Try.func22, Try.ntmps22
  go_wp2_with (first
    | (go_at_call 30; (with_reducible refine Calls.mono (C _).out ?_); rintro e w1 ⟨rfl, bel1⟩
       have HB := Lib.hid bel1; clear bel1; obtain ⟨q0, q1⟩ := BOX.out _ HB.out)
    | (go_at_call 21; (with_reducible refine Calls.mono (T _).out ?_); rintro e w2 ⟨rfl, rfl⟩))
  go_ret2
  have hs := HB.out.size
  simp only [World.size_alloc] at hs
  exact ⟨w1.heap.size, rfl, by omega, Blk.new w1 _ _, (Below.next ((Below.refl _ _).alloc (Nat.le_refl _) _) HB.out).alloc (by omega) _⟩
theorem newM_no (b p f : Int) (w : World) (bb : 0 ≤ b) (bb' : b ≤ 18446744073709551615) (bp : 0 ≤ p) (bp' : p ≤ 18446744073709551615) (bf : 0 ≤ f) (bf' : f ≤ 18446744073709551615) (h : mayM b p = false) :
    Calls Try.prog 22 #[.agg #[.int .u64 b, .int .u64 p], .int .u64 f] w fun e w' => e = .returned (.tuple #[.pointer none, .int .i64 1]) ∧ Below w.heap.size w w' := by
  have c := fun W => maym_any b p W bb bb' bp bp'
  rw [h] at c
  have C := fun W => Lib.hid (c W)
  clear c
  go_enter Try.func22, Try.ntmps22
  go_wp2_with (go_at_call 30; (with_reducible refine Calls.mono (C _).out ?_); rintro e w1 ⟨rfl, bel1⟩; have HB := Lib.hid bel1; clear bel1)
  go_ret2
  exact ⟨rfl, Below.next ((Below.refl _ _).alloc (Nat.le_refl _) _) HB.out⟩
theorem newM_far (b p f : Int) (w : World) (bb : 0 ≤ b) (bb' : b ≤ 18446744073709551615) (bp : 0 ≤ p) (bp' : p ≤ 18446744073709551615) (bf : 0 ≤ f) (bf' : f ≤ 18446744073709551615) (h : mayM b p = true) (hf : 4611686018427387904 ≤ f) :
    Calls Try.prog 22 #[.agg #[.int .u64 b, .int .u64 p], .int .u64 f] w fun e w' => e = .returned (.tuple #[.pointer none, .int .i64 2]) ∧ Below w.heap.size w w' := by
  have c := fun W => maym_any b p W bb bb' bp bp'
  rw [h] at c
  have C := fun W => Lib.hid (c W)
  have T := fun W => Lib.hid (may_any f W)
  rw [decide_eq_false (by omega)] at T
  clear c
  go_enter Try.func22, Try.ntmps22
  go_wp2_with (first
    | (go_at_call 30; (with_reducible refine Calls.mono (C _).out ?_); rintro e w1 ⟨rfl, bel1⟩
       have HB := Lib.hid bel1; clear bel1)
    | (go_at_call 21; (with_reducible refine Calls.mono (T _).out ?_); rintro e w2 ⟨rfl, rfl⟩))
  go_ret2
  exact ⟨rfl, Below.next ((Below.refl _ _).alloc (Nat.le_refl _) _) HB.out⟩
theorem upF_le (n q : Int) (hn : 0 ≤ n) (hq : 0 < q) : 0 ≤ upF n q ∧ upF n q ≤ n := by
  obtain ⟨b1, b2, b3, b4, b5⟩ := mul_div_le n q hn hq
  unfold upF
  rw [if_neg (by omega)]
  split
  · exact ⟨b1, b2⟩
  · rename_i h
    have h3 : q ≠ 1 := by rintro rfl; exact h (Int.emod_one n)
    have h4 : n / q * 2 ≤ n / q * q := Int.mul_le_mul_of_nonneg_left (by omega) b1
    have hm := Int.emod_add_mul_ediv n q
    have hm0 := Int.emod_nonneg n (show q ≠ 0 by omega)
    have h6 : n / q * q = q * (n / q) := Int.mul_comm _ _
    exact ⟨by omega, by omega⟩
set_option maxHeartbeats 2000000 in
theorem rmostM_any (b p span : Int) (w : World) (bb : 0 ≤ b) (bb' : b ≤ 18446744073709551615) (bp : 0 ≤ p) (bp' : p ≤ 18446744073709551615) (bs : 0 ≤ span) (bs' : span ≤ 18446744073709551615) :
    Calls Try.prog 13 #[.agg #[.int .u64 b, .int .u64 p], .int .u64 span] w fun e w' => e = .returned (.int .u64 (mostM b p span)) ∧ Below w.heap.size w w' := by
  have c := fun W => rmaym_any b p W bb bb' bp bp'
  have BOX := Lib.hid (boxm w b p)
  cases h : mayM b p with
  | false =>
    rw [h] at c
    have e : mostM b p span = 0 := by unfold mostM; rw [if_pos (.inl h)]
    rw [e]
    have C := fun W => Lib.hid (c W)
    clear c e h
    go_enter Try.func13, Try.ntmps13
    go_wp2_with (go_at_call 28; (with_reducible refine Calls.mono (C _).out ?_); rintro e w1 ⟨rfl, bel1⟩; have hB := Lib.hid bel1; clear bel1)
    go_ret
    exact ⟨rfl, Below.next ((Below.refl _ _).alloc (Nat.le_refl _) _) hB.out⟩
  | true =>
    rw [h] at c
    obtain ⟨m1, m2, m3, m4⟩ := mayM_iff.1 h
    have C := fun W => Lib.hid (c W)
    by_cases hs : 1099511627776 < span
    · have e : mostM b p span = 0 := by unfold mostM; rw [if_pos (.inr hs)]
      rw [e]
      clear c e h
      go_enter Try.func13, Try.ntmps13
      go_wp2_with (go_at_call 28; (with_reducible refine Calls.mono (C _).out ?_); rintro e w1 ⟨rfl, bel1⟩; have hB := Lib.hid bel1; clear bel1)
      go_ret
      exact ⟨rfl, Below.next ((Below.refl _ _).alloc (Nat.le_refl _) _) hB.out⟩
    · have e : mostM b p span = min span ((upF span p + 1) * b) := by unfold mostM; rw [if_neg]; rw [h]; simp; omega
      rw [e]
      obtain ⟨u1, u2⟩ := upF_le span p bs (by omega)
      obtain ⟨v1, v2, v3, v4, v5⟩ := mul_div_le 1099511627776 b (by omega) (by omega)
      have U := fun W => Lib.hid (rup_any span p W bs bs' bp bp')
      generalize upF span p = q at *
      clear c e h
      by_cases hw : 1099511627776 / b + 2 < q + 1
      · have g1 : (1099511627776 / b + 2) * b ≤ (q + 1) * b := Int.mul_le_mul_of_nonneg_right (by omega) (by omega)
        have g2 : (1099511627776 / b + 2) * b = 1099511627776 / b * b + 2 * b := Int.add_mul _ _ _
        rw [show min span ((q + 1) * b) = span by omega]
        clear g1 g2
        generalize hD : 1099511627776 / b = D at *
        go_enter Try.func13, Try.ntmps13
        go_wp2_with (first
          | (go_at_call 28; (with_reducible refine Calls.mono (C _).out ?_); rintro e w1 ⟨rfl, bel1⟩; have hB := Lib.hid bel1; clear bel1; obtain ⟨q0, q1⟩ := BOX.out _ hB.out)
          | (go_at_call 29; (with_reducible refine Calls.mono (U _).out ?_); rintro e w2 ⟨rfl, rfl⟩))
        go_ret
        exact ⟨ret1 (by omega), Below.next ((Below.refl _ _).alloc (Nat.le_refl _) _) hB.out⟩
      · have g1 : (q + 1) * b ≤ (1099511627776 / b + 2) * b := Int.mul_le_mul_of_nonneg_right (by omega) (by omega)
        have g2 : (1099511627776 / b + 2) * b = 1099511627776 / b * b + 2 * b := Int.add_mul _ _ _
        have g3 : 0 ≤ (q + 1) * b := Int.mul_nonneg (by omega) (by omega)
        have g4 : IntKind.u64.wrap ((q + 1) * b) = (q + 1) * b := IntWalk.u64_in _ (by omega)
        have g5 : (q + 1) * b ≤ 18446744073709551615 := by omega
        clear g1 g2
        generalize hD : 1099511627776 / b = D at *
        go_enter Try.func13, Try.ntmps13
        go_wp2_with (first
          | (go_at_call 28; (with_reducible refine Calls.mono (C _).out ?_); rintro e w1 ⟨rfl, bel1⟩; have hB := Lib.hid bel1; clear bel1; obtain ⟨q0, q1⟩ := BOX.out _ hB.out)
          | (go_at_call 29; (with_reducible refine Calls.mono (U _).out ?_); rintro e w2 ⟨rfl, rfl⟩))
        all_goals
          go_ret
          exact ⟨ret1 (by omega), Below.next ((Below.refl _ _).alloc (Nat.le_refl _) _) hB.out⟩
end Go.Proofs.Ytbfhohcimomphaa
