/- The contracts of layer 12 (bucket): a bucket is a block of five cells; each of its functions by plain functions on its numbers. -/
import Derived.Test.YtbdhmjlbogjkoaaTick
import Derived.Test.YtbdhmjlbogjkoaaMem
import Derived.Deep.QuietTactic
import Derived.BigQuiet
import Derived.StillTailTactics
import Derived.Deep.RegionLaw
import Derived.BigRegion
namespace Go.Proofs.Ytbdhmjlbogjkoaa
open Go.RowKit
set_option linter.unusedVariables false
set_option linter.unusedSimpArgs false

/-- A bucket: depth, rate, tokens, up to which round they came, the time. -/
structure Bk where
  d : Int
  q : Int
  k : Int
  r : Int
  t : Int
structure Bk.ok (s : Bk) : Prop where
  d0 : 1 ≤ s.d
  d1 : s.d ≤ 1000
  q0 : 1 ≤ s.q
  q1 : s.q ≤ 1099511627776
  k0 : 0 ≤ s.k
  k1 : s.k ≤ s.d
  t0 : 0 ≤ s.t
  t1 : s.t < 4611686018427387904
  r : s.r = s.t / s.q
def IsK (w : World) (b : Nat) (s : Bk) : Prop := Blk w b 93 [.int .i64 s.d, .int .u64 s.q, .int .i64 s.k, .int .u64 s.r, .int .u64 s.t]
def mayK (d q : Int) : Bool := decide (1 ≤ d ∧ d ≤ 1000 ∧ 1 ≤ q ∧ q ≤ 1099511627776)
def onK (T : Int) (s : Bk) : Int × Bk :=
  if 4611686018427387904 ≤ T then (2, s) else if T < s.t then (1, s) else (0, { s with k := s.k + min (T / s.q - s.r) (s.d - s.k), r := T / s.q, t := T })
def hasK (T : Int) (s : Bk) : (Int × Int) × Bk :=
  if (onK T s).1 ≠ 0 then ((0, (onK T s).1), (onK T s).2) else (((onK T s).2.k, 0), (onK T s).2)
def takeK (T : Int) (s : Bk) : (Bool × Int) × Bk :=
  if (hasK T s).1.1 = 0 then ((false, (hasK T s).1.2), (hasK T s).2) else ((true, 0), { (hasK T s).2 with k := (hasK T s).2.k - 1 })
def waitK (T : Int) (s : Bk) : (Int × Int) × Bk :=
  if (hasK T s).1.2 ≠ 0 then ((0, (hasK T s).1.2), (hasK T s).2) else if 0 < (hasK T s).1.1 then ((T, 0), (hasK T s).2) else (nextF T 0 s.q, (hasK T s).2)
def mostK (d q span : Int) : Int := if mayK d q = false ∨ 1099511627776 < span then 0 else d + span / q + 1

theorem mayK_iff {d q : Int} : mayK d q = true ↔ 1 ≤ d ∧ d ≤ 1000 ∧ 1 ≤ q ∧ q ≤ 1099511627776 := by unfold mayK; simp
theorem k0_ok {d q : Int} (h : mayK d q = true) : Bk.ok ⟨d, q, d, 0, 0⟩ := by
  obtain ⟨h1, h2, h3, h4⟩ := mayK_iff.1 h
  exact ⟨h1, h2, h3, h4, by simp; omega, by simp, by simp, by simp, by simp⟩
/-- What 'on' reckons with is in bounds. -/
theorem Bk.ok.round {s : Bk} (ok : s.ok) {T : Int} (h : s.t ≤ T) : 0 ≤ s.r ∧ s.r ≤ T / s.q ∧ T / s.q ≤ T := by
  have h0 := ok.t0
  have hq := ok.q0
  have h1 := mul_div_le s.t s.q h0 (by omega)
  have h2 := mul_div_le T s.q (by omega) (by omega)
  have h3 : s.t / s.q ≤ T / s.q := Int.ediv_le_ediv (by omega) h
  rw [ok.r]
  omega
theorem onK_ok {s : Bk} (ok : s.ok) (T : Int) (h0 : 0 ≤ T) : (onK T s).2.ok := by
  unfold onK
  split
  · exact ok
  · split
    · exact ok
    · have h := ok.round (T := T) (by omega)
      have h1 := ok.k0
      have h2 := ok.k1
      exact ⟨ok.d0, ok.d1, ok.q0, ok.q1, by simp only; omega, by simp only; omega, h0, by simp only; omega, rfl⟩
theorem hasK_ok {s : Bk} (ok : s.ok) (T : Int) (h0 : 0 ≤ T) : (hasK T s).2.ok := by
  unfold hasK; split <;> exact onK_ok ok T h0
theorem hasK_rng {s : Bk} (ok : s.ok) (T : Int) (h0 : 0 ≤ T) : 0 ≤ (hasK T s).1.1 ∧ (hasK T s).1.1 ≤ 1000 ∧ ((hasK T s).1.2 ≠ 0 → (hasK T s).1.1 = 0) ∧ ((hasK T s).1.1 ≠ 0 → (hasK T s).2.k = (hasK T s).1.1) := by
  have o := onK_ok ok T h0
  have h1 := o.k0
  have h2 := o.k1
  have h3 := o.d1
  unfold hasK
  split
  · exact ⟨by simp, by simp, fun _ => rfl, fun h => absurd rfl h⟩
  · exact ⟨h1, by simp only; omega, fun h => absurd rfl h, fun _ => rfl⟩
theorem takeK_ok {s : Bk} (ok : s.ok) (T : Int) (h0 : 0 ≤ T) : (takeK T s).2.ok := by
  have o := hasK_ok ok T h0
  have r := hasK_rng ok T h0
  unfold takeK
  split
  · exact o
  · rename_i h
    have h1 := r.2.2.2 h
    exact ⟨o.d0, o.d1, o.q0, o.q1, by simp only; omega, by have := o.k1; simp only; omega, o.t0, o.t1, o.r⟩
theorem waitK_ok {s : Bk} (ok : s.ok) (T : Int) (h0 : 0 ≤ T) : (waitK T s).2.ok := by
  unfold waitK; split
  · exact hasK_ok ok T h0
  · split <;> exact hasK_ok ok T h0
theorem div_add (x y q : Int) (hx : 0 ≤ x) (hy : 0 ≤ y) (hq : 0 < q) : x / q + y / q ≤ (x + y) / q ∧ (x + y) / q ≤ x / q + y / q + 1 := by
  have h1 := mul_div_le x q hx hq
  have h2 := mul_div_le y q hy hq
  have e : (x / q + y / q) * q = x / q * q + y / q * q := Int.add_mul ..
  have e2 : (x / q + y / q + 2) * q = x / q * q + y / q * q + 2 * q := by rw [Int.add_mul, e]
  refine ⟨Int.le_ediv_of_mul_le hq (by omega), ?_⟩
  have := Int.ediv_lt_of_lt_mul hq (show x + y < (x / q + y / q + 2) * q by omega)
  omega
theorem onK_q (T : Int) (s : Bk) : (onK T s).2.q = s.q ∧ (onK T s).2.d = s.d := by unfold onK; split <;> (try split) <;> exact ⟨rfl, rfl⟩
theorem hasK_q (T : Int) (s : Bk) : (hasK T s).2.q = s.q ∧ (hasK T s).2.d = s.d := by unfold hasK; split <;> exact onK_q T s

theorem mayk_any (d q : Int) (w : World) (bd : -9223372036854775808 ≤ d) (bd' : d ≤ 9223372036854775807) (bq : 0 ≤ q) (bq' : q ≤ 18446744073709551615) :
    Calls Try.prog 43 #[.int .i64 d, .int .u64 q] w fun e w' => e = .returned (.bool (mayK d q)) ∧ w = w' := by
  by_cases z1 : 1 ≤ d
  · by_cases z2 : d ≤ 1000
    · by_cases z3 : 1 ≤ q
      · by_cases z4 : q ≤ 1099511627776
        · have e : mayK d q = true := decide_eq_true ⟨z1, z2, z3, z4⟩
          rw [e]; clear e
          go_enter Try.func43, Try.ntmps43
          go_wp2
          go_ret
          exact ⟨rfl, rfl⟩
        · have e : mayK d q = false := decide_eq_false (by omega)
          rw [e]; clear e
          go_enter Try.func43, Try.ntmps43
          go_wp2
          go_ret
          exact ⟨rfl, rfl⟩
      · have e : mayK d q = false := decide_eq_false (by omega)
        have y : decide (1 ≤ q) = false := decide_eq_false z3
        rw [e]; clear e
        go_enter Try.func43, Try.ntmps43
        go_wp2
        go_ret
        exact ⟨rfl, rfl⟩
    · have e : mayK d q = false := decide_eq_false (by omega)
      have y : decide (d ≤ 1000) = false := decide_eq_false z2
      rw [e]; clear e
      go_enter Try.func43, Try.ntmps43
      go_wp2
      go_ret
      exact ⟨rfl, rfl⟩
  · have e : mayK d q = false := decide_eq_false (by omega)
    have y : decide (1 ≤ d) = false := decide_eq_false z1
    rw [e]; clear e
    go_enter Try.func43, Try.ntmps43
    go_wp2
    go_ret
    exact ⟨rfl, rfl⟩
theorem newK_any (d q : Int) (w : World) (bd : -9223372036854775808 ≤ d) (bd' : d ≤ 9223372036854775807) (bq : 0 ≤ q) (bq' : q ≤ 18446744073709551615) (h : mayK d q = true) :
    Calls Try.prog 30 #[.int .i64 d, .int .u64 q] w fun e w' => ∃ b, e = .returned (.tuple #[.pointer (some ⟨b, 0, none⟩), .int .i64 0]) ∧ w.heap.size ≤ b ∧ IsK w' b ⟨d, q, d, 0, 0⟩ ∧ Below w.heap.size w w' := by
  have c := fun W => mayk_any d q W bd bd' bq bq'
  rw [h] at c
  have C := fun W => Lib.hid (c W)
  clear c
  go_enter Try.func30, Try.ntmps30
  go_wp2_with (go_at_call 43; (with_reducible refine Calls.mono (C _).out ?_); rintro e w1 ⟨rfl, rfl⟩)
  go_ret2
  exact ⟨w.heap.size, rfl, Nat.le_refl _, Blk.new w _ _, (Below.refl _ _).alloc (Nat.le_refl _) _⟩
theorem newK_no (d q : Int) (w : World) (bd : -9223372036854775808 ≤ d) (bd' : d ≤ 9223372036854775807) (bq : 0 ≤ q) (bq' : q ≤ 18446744073709551615) (h : mayK d q = false) :
    Calls Try.prog 30 #[.int .i64 d, .int .u64 q] w fun e w' => e = .returned (.tuple #[.pointer none, .int .i64 1]) ∧ w = w' := by
  have c := fun W => mayk_any d q W bd bd' bq bq'
  rw [h] at c
  have C := fun W => Lib.hid (c W)
  clear c
  go_enter Try.func30, Try.ntmps30
  go_wp2_with (go_at_call 43; (with_reducible refine Calls.mono (C _).out ?_); rintro e w1 ⟨rfl, rfl⟩)
  go_ret2
  exact ⟨rfl, rfl⟩
section
variable {w : World} {b : Nat} {s : Bk}
set_option maxHeartbeats 1000000 in
theorem on_any (k : IsK w b s) (ok : s.ok) (T : Int) (h0 : 0 ≤ T) (h1 : T ≤ 18446744073709551615) :
    Calls Try.prog 58 #[.pointer (some ⟨b, 0, none⟩), .int .u64 T] w fun e w' => e = .returned (.int .i64 (onK T s).1) ∧ IsK w' b (onK T s).2 ∧ Only (· = b) w w' := by
  have K := Lib.hid k
  have k0 : w.cell? ⟨b, 0, none⟩ = some (.int .i64 s.d) := k.cell 0
  have k1 : w.cell? ⟨b, 1, none⟩ = some (.int .u64 s.q) := k.cell 1
  have k2 : w.cell? ⟨b, 2, none⟩ = some (.int .i64 s.k) := k.cell 2
  have k3 : w.cell? ⟨b, 3, none⟩ = some (.int .u64 s.r) := k.cell 3
  have k4 : w.cell? ⟨b, 4, none⟩ = some (.int .u64 s.t) := k.cell 4
  have l2 : w.frozen? ⟨b, 2, none⟩ = false := k.free 2
  have l3 : w.frozen? ⟨b, 3, none⟩ = false := k.free 3
  have l4 : w.frozen? ⟨b, 4, none⟩ = false := k.free 4
  by_cases z1 : 4611686018427387904 ≤ T
  · have e : onK T s = (2, s) := by unfold onK; rw [if_pos z1]
    rw [e]
    have z3 : decide (T < 4611686018427387904) = false := decide_eq_false (by omega)
    clear e k ok
    go_enter Try.func58, Try.ntmps58
    go_wp2_with (go_at_call 44; refine (may_any _ _).mono ?_; rintro e w' ⟨rfl, rfl⟩)
    go_ret
    exact ⟨rfl, K.out, Only.refl _ _⟩
  · have z3 : decide (T < 4611686018427387904) = true := decide_eq_true (by omega)
    have z4 : T < 4611686018427387904 := by omega
    by_cases z2 : T < s.t
    · have e : onK T s = (1, s) := by unfold onK; rw [if_neg z1, if_pos z2]
      rw [e]
      clear e k ok
      go_enter Try.func58, Try.ntmps58
      go_wp2_with (go_at_call 44; refine (may_any _ _).mono ?_; rintro e w' ⟨rfl, rfl⟩)
      go_ret
      exact ⟨rfl, K.out, Only.refl _ _⟩
    · have e : onK T s = (0, { s with k := s.k + min (T / s.q - s.r) (s.d - s.k), r := T / s.q, t := T }) := by unfold onK; rw [if_neg z1, if_neg z2]
      rw [e]
      obtain ⟨r1, r2, r3⟩ := ok.round (T := T) (by omega)
      obtain ⟨d0, d1, q0, q1, kk0, kk1, t0, t1, -⟩ := ok
      clear e k
      have g1 : IntKind.u64.wrap (T / s.q - s.r) = T / s.q - s.r := IntWalk.u64_in _ (by omega)
      generalize hR : T / s.q = R at *
      go_enter Try.func58, Try.ntmps58
      go_wp2_with (go_at_call 44; refine (may_any _ _).mono ?_; rintro e w' ⟨rfl, rfl⟩)
      go_region
      go_wp2_with fail
      · go_ret
        refine ⟨rfl, ?_, Only.drew (Only.setCell (Only.setCell (Only.setCell (Only.refl (· = b) w) (p := ⟨b, 2, none⟩) (fun _ => rfl) _) (p := ⟨b, 4, none⟩) (fun _ => rfl) _) (p := ⟨b, 3, none⟩) (fun _ => rfl) _)⟩
        rw [show min (R - s.r) (s.d - s.k) = s.d - s.k by omega]
        exact (((Blk.put K.out 2 _).put 4 _).put 3 _).drew
      · go_ret
        refine ⟨rfl, ?_, Only.drew (Only.setCell (Only.setCell (Only.setCell (Only.refl (· = b) w) (p := ⟨b, 2, none⟩) (fun _ => rfl) _) (p := ⟨b, 4, none⟩) (fun _ => rfl) _) (p := ⟨b, 3, none⟩) (fun _ => rfl) _)⟩
        rw [show min (R - s.r) (s.d - s.k) = R - s.r by omega]
        exact (((Blk.put K.out 2 _).put 4 _).put 3 _).drew
set_option maxHeartbeats 1000000 in
theorem hask_any (k : IsK w b s) (ok : s.ok) (T : Int) (h0 : 0 ≤ T) (h1 : T ≤ 18446744073709551615) :
    Calls Try.prog 54 #[.pointer (some ⟨b, 0, none⟩), .int .u64 T] w fun e w' => e = .returned (.tuple #[.int .i64 (hasK T s).1.1, .int .i64 (hasK T s).1.2]) ∧ IsK w' b (hasK T s).2 ∧ Only (· = b) w w' := by
  have c := on_any k ok T h0 h1
  unfold hasK
  generalize (onK T s).1 = e at *
  generalize (onK T s).2 = s1 at *
  have C := Lib.hid c
  clear c k ok
  by_cases z : e = 0
  · subst z
    rw [if_neg (by simp)]
    go_enter Try.func54, Try.ntmps54
    go_wp2_with (go_at_call 58; (with_reducible refine Calls.mono C.out ?_); rintro e w1 ⟨rfl, k1, o1⟩
                 have K1 := Lib.hid k1
                 have k2 : w1.cell? ⟨b, 2, none⟩ = some (.int .i64 s1.k) := k1.cell 2
                 clear k1)
    go_ret2
    exact ⟨rfl, K1.out, o1⟩
  · rw [if_pos z]
    have zz : (e == 0) = false := beq_eq_false_iff_ne.2 z
    have zn : (e != 0) = true := bne_iff_ne.2 z
    go_enter Try.func54, Try.ntmps54
    go_wp2_with (go_at_call 58; (with_reducible refine Calls.mono C.out ?_); rintro e w1 ⟨rfl, k1, o1⟩)
    go_ret2
    exact ⟨rfl, k1, o1⟩
set_option maxHeartbeats 1000000 in
theorem takek_any (k : IsK w b s) (ok : s.ok) (T : Int) (h0 : 0 ≤ T) (h1 : T ≤ 18446744073709551615) :
    Calls Try.prog 49 #[.pointer (some ⟨b, 0, none⟩), .int .u64 T] w fun e w' => e = .returned (.tuple #[.bool (takeK T s).1.1, .int .i64 (takeK T s).1.2]) ∧ IsK w' b (takeK T s).2 ∧ Only (· = b) w w' := by
  have c := hask_any k ok T h0 h1
  have o := hasK_ok ok T h0
  have r := hasK_rng ok T h0
  unfold takeK
  generalize (hasK T s).1.1 = n at *
  generalize (hasK T s).1.2 = e at *
  generalize (hasK T s).2 = s1 at *
  have C := Lib.hid c
  have o0 := o.k0
  have o1 := o.k1
  have o2 := o.d1
  clear c k ok o
  by_cases z : n = 0
  · subst z
    rw [if_pos rfl]
    clear r
    go_enter Try.func49, Try.ntmps49
    go_wp2_with (go_at_call 54; (with_reducible refine Calls.mono C.out ?_); rintro e w1 ⟨rfl, k1, o1⟩)
    go_ret2
    exact ⟨rfl, k1, o1⟩
  · rw [if_neg z]
    have zz : (n == 0) = false := beq_eq_false_iff_ne.2 z
    obtain ⟨r1, r2, -, r4⟩ := r
    have r5 := r4 z
    clear r4
    go_enter Try.func49, Try.ntmps49
    go_wp2_with (go_at_call 54; (with_reducible refine Calls.mono C.out ?_); rintro e w1 ⟨rfl, k1, o1⟩
                 have K1 := Lib.hid k1
                 have k2 : w1.cell? ⟨b, 2, none⟩ = some (.int .i64 s1.k) := k1.cell 2
                 have l2 : w1.frozen? ⟨b, 2, none⟩ = false := k1.free 2
                 clear k1)
    go_ret2
    refine ⟨rfl, ?_, Only.setCell o1 (p := ⟨b, 2, none⟩) (fun _ => rfl) _⟩
    rw [r5]
    exact K1.out.put 2 (.int .i64 (n - 1))
end
end Go.Proofs.Ytbdhmjlbogjkoaa
