/- The reference of layer 12 (bucket): the same plain functions as the program's. -/
import Derived.Test.YtbdhmjlbogjkoaaIrqE
import Derived.Test.YtbdhmjlbogjkoaaIrqLaw
namespace Go.Proofs.Ytbdhmjlbogjkoaa
open Go.RowKit
set_option linter.unusedVariables false
set_option linter.unusedSimpArgs false
/-- The document's bucket: its round is told by its time. -/
def IsKR (w : World) (b : Nat) (s : Bk) : Prop := Blk w b 98 [.int .i64 s.d, .int .u64 s.q, .int .i64 s.k, .int .u64 s.t]
section
variable {w w' : World} {b : Nat} {s : Bk}
theorem rnew12_any (d q : Int) (w : World) : Calls Try.prog 38 #[.int .i64 d, .int .u64 q] w fun e w' => e = .returned (.pointer (some ⟨w.heap.size, 0, none⟩)) ∧ IsKR w' w.heap.size ⟨d, q, d, 0, 0⟩ ∧ Below w.heap.size w w' := by
  go_enter Try.func38, Try.ntmps38
  go_wp2
  go_ret
  exact ⟨rfl, Blk.new w _ _, (Below.refl _ _).alloc (Nat.le_refl _) _⟩
theorem came_wrap {s : Bk} (ok : s.ok) {T : Int} (h : s.t ≤ T) (h1 : T < 4611686018427387904) : 0 ≤ T / s.q - s.t / s.q ∧ T / s.q - s.t / s.q ≤ T ∧ 0 ≤ T / s.q ∧ T / s.q ≤ T ∧ 0 ≤ s.t / s.q ∧ s.t / s.q ≤ T := by
  have r := ok.round h
  rw [ok.r] at r
  omega
def RelH (w : World) (b : Nat) (s : Bk) (C : Int) (iv : Value) (wr : World) : Prop :=
  ∃ j : Nat, iv = .int .u64 j ∧ (j : Int) ≤ C ∧ s.k + j ≤ s.d ∧ IsKR wr b { s with k := s.k + j } ∧ Only (· = b) w wr
set_option maxHeartbeats 2000000 in
theorem rhas12_any (k : IsKR w b s) (ok : s.ok) (T : Int) (h0 : 0 ≤ T) (h1 : T ≤ 18446744073709551615) :
    Calls Try.prog 56 #[.pointer (some ⟨b, 0, none⟩), .int .u64 T] w fun e w' => e = .returned (.tuple #[.int .i64 (hasK T s).1.1, .int .i64 (hasK T s).1.2]) ∧ IsKR w' b (hasK T s).2 ∧ Only (· = b) w w' := by
  have K := Lib.hid k
  have c1 : w.cell? ⟨b, 1, none⟩ = some (.int .u64 s.q) := k.cell 1
  have c3 : w.cell? ⟨b, 3, none⟩ = some (.int .u64 s.t) := k.cell 3
  have hq := ok.q0
  have hq1 := ok.q1
  have hlt := Blk.lt k
  clear k
  by_cases z1 : 4611686018427387904 ≤ T
  · have e : hasK T s = ((0, 2), s) := by unfold hasK onK; rw [if_pos z1]; rfl
    rw [e]
    clear e
    go_enter Try.func56, Try.ntmps56
    go_wp2_with fail
    go_ret2
    exact ⟨rfl, K.out, Only.refl _ _⟩
  · by_cases z2 : T < s.t
    · have e : hasK T s = ((0, 1), s) := by unfold hasK onK; rw [if_neg z1, if_pos z2]; rfl
      rw [e]
      clear e
      go_enter Try.func56, Try.ntmps56
      go_wp2_with fail
      go_ret2
      exact ⟨rfl, K.out, Only.refl _ _⟩
    · have e : hasK T s = ((s.k + min (T / s.q - s.r) (s.d - s.k), 0), { s with k := s.k + min (T / s.q - s.r) (s.d - s.k), r := T / s.q, t := T }) := by unfold hasK onK; rw [if_neg z1, if_neg z2]; rfl
      have E := e
      obtain ⟨b1, b2, b3, b4, b5, b6⟩ := came_wrap ok (T := T) (by omega) (by omega)
      have hr := ok.r
      have k0 := ok.k0
      have k1 := ok.k1
      have d1 := ok.d1
      have t0 := ok.t0
      rw [hr] at E
      have E := Lib.hid E
      clear e hr ok
      generalize hR : T / s.q = R at *
      generalize hS : s.t / s.q = S at *
      obtain ⟨C, hC⟩ : ∃ C, R - S = C := ⟨_, rfl⟩
      have gC : IntKind.u64.wrap (R - S) = C := by rw [← hC]; exact IntWalk.u64_in _ (by omega)
      have HC := Lib.hid hC
      have bC : 0 ≤ C ∧ C ≤ T := by omega
      clear hC
      go_enter Try.func56, Try.ntmps56
      go_wp2_with fail
      go_quiet (fail)
      go_wp2_with fail
      go_loopw [7] (fun iv wr => Hid (RelH w b s C iv wr)) (fun iv _ => (C - intOf iv).toNat)
      case atStart => exact ⟨0, rfl, by simpa using bC.1, by simpa using k1, by
        show Blk _ _ _ [_, _, .int .i64 (s.k + ((0 : Nat) : Int)), _]
        rw [show s.k + ((0 : Nat) : Int) = s.k by simp]
        exact K.out, Only.drewN (Only.refl _ _) _⟩
      case round =>
        obtain ⟨j, rfl, hj, hd, hk, ho⟩ := hrel
        have KJ := Lib.hid hk
        have HO := Lib.hid ho
        have x0 : wr.cell? ⟨b, 0, none⟩ = some (.int .i64 s.d) := hk.cell 0
        have x2 : wr.cell? ⟨b, 2, none⟩ = some (.int .i64 (s.k + j)) := hk.cell 2
        have y2 : wr.frozen? ⟨b, 2, none⟩ = false := hk.free 2
        have y3 : wr.frozen? ⟨b, 3, none⟩ = false := hk.free 3
        have x3 : wr.cell? ⟨b, 3, none⟩ = some (.int .u64 s.t) := hk.cell 3
        have hl := Blk.lt hk
        clear hk ho gC
        by_cases u1 : (j : Int) < C
        · have t1 : decide ((j : Int) < C) = true := decide_eq_true u1
          by_cases u2 : s.k + j < s.d
          · have t2 : decide (s.k + j < s.d) = true := decide_eq_true u2
            have g1 : IntKind.i64.wrap (s.k + j + 1) = s.k + j + 1 := IntWalk.i64_in _ (by omega)
            have g2 : IntKind.u64.wrap ((j : Int) + 1) = j + 1 := IntWalk.u64_in _ (by omega)
            go_wp2_with fail
            go_quiet (fail)
            go_wp2_with fail
            go_roundw
            case rel =>
              refine ⟨j + 1, by go_num, by omega, by omega, ?_, Only.setCell (HO.out.drewN _) (p := ⟨b, 2, none⟩) (fun _ => rfl) _⟩
              have := (Blk.drewN KJ.out nq).put 2 (.int .i64 (s.k + j + 1))
              rw [show s.k + j + 1 = s.k + ((j + 1 : Nat) : Int) by omega] at this ⊢
              exact this
            case measure => simp [intOf]; omega
          · have t2 : decide (s.k + j < s.d) = false := decide_eq_false u2
            go_wp2_with fail
            go_quiet (fail)
            go_wp2_with fail
            go_ret2
            rw [E.out]
            have he : s.k + min (R - S) (s.d - s.k) = s.k + j := by have := HC.out; omega
            rw [he]
            exact ⟨rfl, (Blk.drewN KJ.out nq).put 3 (.int .u64 T), Only.setCell (HO.out.drewN _) (p := ⟨b, 3, none⟩) (fun _ => rfl) _⟩
        · have t1 : decide ((j : Int) < C) = false := decide_eq_false u1
          go_wp2_with fail
          go_quiet (fail)
          go_wp2_with fail
          go_ret2
          rw [E.out]
          have he : s.k + min (R - S) (s.d - s.k) = s.k + j := by have := HC.out; omega
          rw [he]
          exact ⟨rfl, (Blk.drewN KJ.out nq).put 3 (.int .u64 T), Only.setCell (HO.out.drewN _) (p := ⟨b, 3, none⟩) (fun _ => rfl) _⟩
set_option maxHeartbeats 2000000 in
theorem rtake12_any (k : IsKR w b s) (ok : s.ok) (T : Int) (h0 : 0 ≤ T) (h1 : T ≤ 18446744073709551615) :
    Calls Try.prog 51 #[.pointer (some ⟨b, 0, none⟩), .int .u64 T] w fun e w' => e = .returned (.tuple #[.bool (takeK T s).1.1, .int .i64 (takeK T s).1.2]) ∧ IsKR w' b (takeK T s).2 ∧ Only (· = b) w w' := by
  have c := rhas12_any k ok T h0 h1
  have o := hasK_ok ok T h0
  have r := hasK_rng ok T h0
  unfold takeK
  generalize (hasK T s).1.1 = n at *
  generalize (hasK T s).1.2 = e at *
  generalize (hasK T s).2 = s1 at *
  have C := Lib.hid c
  have o0 := o.k0
  have o1 := o.k1
  have o2 := o.d1
  clear c k ok o
  by_cases z : n = 0
  · subst z
    rw [if_pos rfl]
    clear r
    by_cases ez : e = 0
    · subst ez
      go_enter Try.func51, Try.ntmps51
      go_wp2_with (go_at_call 56; (with_reducible refine Calls.mono C.out ?_); rintro e w1 ⟨rfl, k1, o1⟩)
      go_ret2
      exact ⟨rfl, k1, o1⟩
    · have ez2 : (e == 0) = false := beq_eq_false_iff_ne.2 ez
      go_enter Try.func51, Try.ntmps51
      go_wp2_with (go_at_call 56; (with_reducible refine Calls.mono C.out ?_); rintro e w1 ⟨rfl, k1, o1⟩)
      go_ret2
      exact ⟨rfl, k1, o1⟩
  · rw [if_neg z]
    have zz : (n == 0) = false := beq_eq_false_iff_ne.2 z
    obtain ⟨r1, r2, r3, r4⟩ := r
    have r5 := r4 z
    have e0 : e = 0 := Classical.byContradiction fun h => z (r3 h)
    subst e0
    clear r4 r3
    go_enter Try.func51, Try.ntmps51
    go_wp2_with (go_at_call 56; (with_reducible refine Calls.mono C.out ?_); rintro e w1 ⟨rfl, k1, o1⟩
                 have K1 := Lib.hid k1
                 have k2 : w1.cell? ⟨b, 2, none⟩ = some (.int .i64 s1.k) := k1.cell 2
                 have l2 : w1.frozen? ⟨b, 2, none⟩ = false := k1.free 2
                 clear k1)
    go_ret2
    refine ⟨rfl, ?_, Only.setCell o1 (p := ⟨b, 2, none⟩) (fun _ => rfl) _⟩
    rw [r5]
    exact K1.out.put 2 (.int .i64 (n - 1))
end
end Go.Proofs.Ytbdhmjlbogjkoaa
