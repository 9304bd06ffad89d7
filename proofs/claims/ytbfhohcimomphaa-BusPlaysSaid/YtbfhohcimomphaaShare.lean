/- The contracts of layer 5 (share): a meter is a block of six cells; each of its functions by plain functions on its numbers. -/
import Derived.Test.YtbfhohcimomphaaTick
import Derived.Test.YtbfhohcimomphaaMem
import Derived.Deep.QuietTactic
import Derived.BigQuiet
import Derived.StillTailTactics
import Derived.Deep.RegionLaw
import Derived.BigRegion
import Derived.Deep.RegionWith
namespace Go.Proofs.Ytbfhohcimomphaa
open Go.RowKit
set_option linter.unusedVariables false
set_option linter.unusedSimpArgs false

/-- A meter: budget, period, from when on, the time, the window, what was taken in it. -/
structure Ms where
  b : Int
  p : Int
  f : Int
  t : Int
  x : Int
  k : Int
structure Ms.ok (s : Ms) : Prop where
  b0 : 1 ≤ s.b
  b1 : s.b ≤ s.p
  p1 : s.p ≤ 1099511627776
  f0 : 0 ≤ s.f
  t0 : s.f ≤ s.t
  t1 : s.t < 4611686018427387904
  x : s.x = (s.t - s.f) / s.p
  k0 : 0 ≤ s.k
  k1 : s.k ≤ s.b
def IsM (w : World) (m : Nat) (s : Ms) : Prop := Blk w m 87 [.int .u64 s.b, .int .u64 s.p, .int .u64 s.f, .int .u64 s.t, .int .u64 s.x, .int .u64 s.k]
def mayM (b p : Int) : Bool := decide (1 ≤ p ∧ p ≤ 1099511627776 ∧ 1 ≤ b ∧ b ≤ p)
def onM (T : Int) (s : Ms) : Int × Ms :=
  if 4611686018427387904 ≤ T then (2, s) else if T < s.t then (1, s) else (0, { s with t := T, x := (T - s.f) / s.p, k := if (T - s.f) / s.p = s.x then s.k else 0 })
def leftM (T : Int) (s : Ms) : (Int × Int) × Ms := if (onM T s).1 ≠ 0 then ((0, (onM T s).1), s) else (((onM T s).2.b - (onM T s).2.k, 0), (onM T s).2)
def takeM (T n : Int) (s : Ms) : (Int × Int) × Ms :=
  if (onM T s).1 ≠ 0 then ((0, (onM T s).1), s) else ((min n ((onM T s).2.b - (onM T s).2.k), 0), { (onM T s).2 with k := (onM T s).2.k + min n ((onM T s).2.b - (onM T s).2.k) })
def waitM (T : Int) (s : Ms) : (Int × Int) × Ms :=
  if (onM T s).1 ≠ 0 then ((0, (onM T s).1), s) else if 0 < (onM T s).2.b - (onM T s).2.k then ((T, 0), (onM T s).2) else (nextF T s.f s.p, (onM T s).2)
def mostM (b p span : Int) : Int := if mayM b p = false ∨ 1099511627776 < span then 0 else min span ((upF span p + 1) * b)

theorem mayM_iff {b p : Int} : mayM b p = true ↔ 1 ≤ p ∧ p ≤ 1099511627776 ∧ 1 ≤ b ∧ b ≤ p := by unfold mayM; simp
theorem m0_ok {b p f : Int} (h : mayM b p = true) (h0 : 0 ≤ f) (h1 : f < 4611686018427387904) : Ms.ok ⟨b, p, f, f, 0, 0⟩ := by
  obtain ⟨m1, m2, m3, m4⟩ := mayM_iff.1 h
  exact ⟨m3, m4, m2, h0, Int.le_refl _, h1, by simp, by simp, by simp only; omega⟩
theorem onM_ok {s : Ms} (ok : s.ok) (T : Int) : (onM T s).2.ok := by
  unfold onM
  split
  · exact ok
  · split
    · exact ok
    · obtain ⟨b0, b1, p1, f0, t0, t1, x, k0, k1⟩ := ok
      exact ⟨b0, b1, p1, f0, by simp only; omega, by simp only; omega, rfl, by simp only; split <;> omega, by simp only; split <;> omega⟩
theorem onM_s {s : Ms} {T : Int} (h : (onM T s).1 ≠ 0) : (onM T s).2 = s := by
  unfold onM at h ⊢; split
  · rfl
  · rename_i h1; rw [if_neg h1] at h; split
    · rfl
    · rename_i h2; rw [if_neg h2] at h; exact absurd rfl h
theorem leftM_ok {s : Ms} (ok : s.ok) (T : Int) : (leftM T s).2.ok := by unfold leftM; split; exact ok; exact onM_ok ok T
theorem waitM_ok {s : Ms} (ok : s.ok) (T : Int) : (waitM T s).2.ok := by
  unfold waitM; split
  · exact ok
  · split <;> exact onM_ok ok T
theorem takeM_ok {s : Ms} (ok : s.ok) (T n : Int) (hn : 0 ≤ n) : (takeM T n s).2.ok := by
  unfold takeM; split
  · exact ok
  · obtain ⟨b0, b1, p1, f0, t0, t1, x, k0, k1⟩ := onM_ok ok T
    exact ⟨b0, b1, p1, f0, t0, t1, x, by simp only; omega, by simp only; omega⟩

theorem win_ok {s : Ms} (ok : s.ok) {T : Int} (h1 : T < 4611686018427387904) (h2 : s.t ≤ T) : winF T s.f s.p = ((T - s.f) / s.p, s.f + (T - s.f) / s.p * s.p, 0) := by
  obtain ⟨b0, b1, p1, f0, t0, t1, x, k0, k1⟩ := ok
  exact winF_ok (by omega) (by omega)
theorem quiet_add {P : Program} {f : FuncId} {args : Array Value} {w : World} {a n : Nat} {v : Value}
    (h : Calls P f args (w.drewN (a + n)) fun e w' => e = .returned v ∧ w.drewN (a + n) = w') :
    Calls P f args (w.drewN (a + n)) fun e w'' => e = .returned v ∧ ∃ m, w'' = w.drewN (a + m) := h.mono fun _ _ ⟨he, hm⟩ => ⟨he, n, hm.symm⟩
section
variable {w : World} {m : Nat} {s : Ms}
set_option maxHeartbeats 1000000 in
theorem on_err (k : IsM w m s) (ok : s.ok) (T : Int) (h0 : 0 ≤ T) (h1 : T ≤ 18446744073709551615) (h : (onM T s).1 ≠ 0) (fn : Fn) (first cap : Array Value) :
    Calls Try.prog 36 #[.pointer (some ⟨m, 0, none⟩), .int .u64 T, .func fn first cap] w fun e w' => e = .returned (.tuple #[.int .u64 0, .int .i64 (onM T s).1]) ∧ IsM w' m s ∧ Only (· = m) w w' := by
  have W := fun W => Lib.hid (win_any T s.f s.p W h0 h1 ok.f0 (by have := ok.t0; have := ok.t1; omega) (by have := ok.b0; have := ok.b1; omega) (by have := ok.p1; omega))
  have k0 : w.cell? ⟨m, 0, none⟩ = some (.int .u64 s.b) := k.cell 0
  have k1 : w.cell? ⟨m, 1, none⟩ = some (.int .u64 s.p) := k.cell 1
  have k2 : w.cell? ⟨m, 2, none⟩ = some (.int .u64 s.f) := k.cell 2
  have k3 : w.cell? ⟨m, 3, none⟩ = some (.int .u64 s.t) := k.cell 3
  have K := Lib.hid k
  by_cases z1 : 4611686018427387904 ≤ T
  · have e : onM T s = (2, s) := by unfold onM; rw [if_pos z1]
    rw [e]
    rw [winF_far (.inl z1)] at W
    clear e k ok h
    go_enter Try.func36, Try.ntmps36
    go_wp2_with fail
    go_quiet ((go_at_call 41; exact Calls.quiet_of_same ((W _).out.mono fun _ _ h => ⟨h.1, h.2.symm⟩)))
    go_wp2_with fail
    go_ret2
    exact ⟨rfl, Blk.drewN K.out _, (Only.refl _ _).drewN _⟩
  · by_cases z2 : T < s.t
    · have e : onM T s = (1, s) := by unfold onM; rw [if_neg z1, if_pos z2]
      rw [e]
      obtain ⟨x, hx⟩ : ∃ x, winF T s.f s.p = x := ⟨_, rfl⟩
      rw [hx] at W
      by_cases z4 : T < s.f
      · rw [winF_arg (by have := ok.t0; have := ok.t1; omega) (.inr (.inr z4))] at hx
        subst hx
        clear e k ok h
        go_enter Try.func36, Try.ntmps36
        go_wp2_with fail
        go_quiet ((go_at_call 41; exact Calls.quiet_of_same ((W _).out.mono fun _ _ h => ⟨h.1, h.2.symm⟩)))
        go_wp2_with fail
        go_ret2
        exact ⟨rfl, Blk.drewN K.out _, (Only.refl _ _).drewN _⟩
      · rw [winF_ok (by have := ok.t0; have := ok.t1; omega) (by have := ok.b0; have := ok.b1; have := ok.p1; omega)] at hx
        subst hx
        clear e k ok h
        go_enter Try.func36, Try.ntmps36
        go_wp2_with fail
        go_quiet ((go_at_call 41; exact Calls.quiet_of_same ((W _).out.mono fun _ _ h => ⟨h.1, h.2.symm⟩)))
        go_wp2_with fail
        go_ret2
        exact ⟨rfl, Blk.drewN K.out _, (Only.refl _ _).drewN _⟩
    · exact absurd (by unfold onM; rw [if_neg z1, if_neg z2]) h
set_option maxHeartbeats 1000000 in
theorem on_okLeft (k : IsM w m s) (ok : s.ok) (T : Int) (h0 : 0 ≤ T) (h1 : T ≤ 18446744073709551615) (z1 : T < 4611686018427387904) (z2 : s.t ≤ T) (cap : Array Value) {Q : Ending → World → Prop}
    (H : ∀ W, IsM W m (onM T s).2 → Only (· = m) w W → Calls Try.prog 40 cap W fun e w' => ∃ x c, e = .returned (.tuple #[.int .u64 x, .int .i64 c]) ∧ Q e w') :
    Calls Try.prog 36 #[.pointer (some ⟨m, 0, none⟩), .int .u64 T, .func (.func 40) #[] cap] w Q := by
  have W := fun W => Lib.hid (win_any T s.f s.p W h0 h1 ok.f0 (by have := ok.t0; have := ok.t1; omega) (by have := ok.b0; have := ok.b1; omega) (by have := ok.p1; omega))
  have k0 : w.cell? ⟨m, 0, none⟩ = some (.int .u64 s.b) := k.cell 0
  have k1 : w.cell? ⟨m, 1, none⟩ = some (.int .u64 s.p) := k.cell 1
  have k2 : w.cell? ⟨m, 2, none⟩ = some (.int .u64 s.f) := k.cell 2
  have k3 : w.cell? ⟨m, 3, none⟩ = some (.int .u64 s.t) := k.cell 3
  have k4 : w.cell? ⟨m, 4, none⟩ = some (.int .u64 s.x) := k.cell 4
  have k5 : w.cell? ⟨m, 5, none⟩ = some (.int .u64 s.k) := k.cell 5
  have l3 : w.frozen? ⟨m, 3, none⟩ = false := k.free 3
  have l4 : w.frozen? ⟨m, 4, none⟩ = false := k.free 4
  have l5 : w.frozen? ⟨m, 5, none⟩ = false := k.free 5
  have K := Lib.hid k
  rw [win_ok ok z1 z2] at W
  have e : onM T s = (0, { s with t := T, x := (T - s.f) / s.p, k := if (T - s.f) / s.p = s.x then s.k else 0 }) := by unfold onM; rw [if_neg (by omega), if_neg (by omega)]
  rw [e] at H
  simp only at H
  have HH := Lib.hid H
  clear H e
  by_cases z3 : (T - s.f) / s.p = s.x
  · have zz : ((T - s.f) / s.p == s.x) = true := beq_iff_eq.2 z3
    clear k ok
    generalize (T - s.f) / s.p = X at *
    go_enter Try.func36, Try.ntmps36
    go_wp2_with fail
    go_quiet ((go_at_call 41; exact Calls.quiet_of_same ((W _).out.mono fun _ _ h => ⟨h.1, h.2.symm⟩)))
    have HX : ∀ nq, Hid (IsM ((w.drewN nq).setCell ⟨m, 3, none⟩ (.int .u64 T)) m ⟨s.b, s.p, s.f, T, X, if X = s.x then s.k else 0⟩) := fun nq => by
      rw [if_pos z3, z3]
      exact (Blk.drewN K.out nq).put 3 (.int .u64 T)
    have HO : ∀ nq, Only (· = m) w ((w.drewN nq).setCell ⟨m, 3, none⟩ (.int .u64 T)) := fun nq => Only.setCell ((Only.refl (· = m) w).drewN _) (p := ⟨m, 3, none⟩) (fun _ => rfl) _
    go_wp2_with (go_at_call 40; (with_reducible refine Calls.mono (HH.out _ (HX _).out (HO _)) ?_); rintro e w' ⟨x, c, rfl, hq⟩)
    exact hq
  · have zz : ((T - s.f) / s.p == s.x) = false := beq_eq_false_iff_ne.2 z3
    have zn : ((T - s.f) / s.p != s.x) = true := bne_iff_ne.2 z3
    clear k ok
    generalize (T - s.f) / s.p = X at *
    go_enter Try.func36, Try.ntmps36
    go_wp2_with fail
    go_quiet ((go_at_call 41; exact Calls.quiet_of_same ((W _).out.mono fun _ _ h => ⟨h.1, h.2.symm⟩)))
    have HX : ∀ nq, Hid (IsM ((((w.drewN nq).setCell ⟨m, 3, none⟩ (.int .u64 T)).setCell ⟨m, 4, none⟩ (.int .u64 X)).setCell ⟨m, 5, none⟩ (.int .u64 0)) m ⟨s.b, s.p, s.f, T, X, if X = s.x then s.k else 0⟩) := fun nq => by
      rw [if_neg z3]
      exact (((Blk.drewN K.out nq).put 3 (.int .u64 T)).put 4 (.int .u64 X)).put 5 (.int .u64 0)
    have HO : ∀ nq, Only (· = m) w ((((w.drewN nq).setCell ⟨m, 3, none⟩ (.int .u64 T)).setCell ⟨m, 4, none⟩ (.int .u64 X)).setCell ⟨m, 5, none⟩ (.int .u64 0)) := fun nq => Only.setCell (Only.setCell (Only.setCell ((Only.refl (· = m) w).drewN _) (p := ⟨m, 3, none⟩) (fun _ => rfl) _) (p := ⟨m, 4, none⟩) (fun _ => rfl) _) (p := ⟨m, 5, none⟩) (fun _ => rfl) _
    go_wp2_with (go_at_call 40; (with_reducible refine Calls.mono (HH.out _ (HX _).out (HO _)) ?_); rintro e w' ⟨x, c, rfl, hq⟩)
    exact hq
set_option maxHeartbeats 1000000 in
theorem on_okTake (k : IsM w m s) (ok : s.ok) (T : Int) (h0 : 0 ≤ T) (h1 : T ≤ 18446744073709551615) (z1 : T < 4611686018427387904) (z2 : s.t ≤ T) (cap : Array Value) {Q : Ending → World → Prop}
    (H : ∀ W, IsM W m (onM T s).2 → Only (· = m) w W → Calls Try.prog 37 cap W fun e w' => ∃ x c, e = .returned (.tuple #[.int .u64 x, .int .i64 c]) ∧ Q e w') :
    Calls Try.prog 36 #[.pointer (some ⟨m, 0, none⟩), .int .u64 T, .func (.func 37) #[] cap] w Q := by
  have W := fun W => Lib.hid (win_any T s.f s.p W h0 h1 ok.f0 (by have := ok.t0; have := ok.t1; omega) (by have := ok.b0; have := ok.b1; omega) (by have := ok.p1; omega))
  have k0 : w.cell? ⟨m, 0, none⟩ = some (.int .u64 s.b) := k.cell 0
  have k1 : w.cell? ⟨m, 1, none⟩ = some (.int .u64 s.p) := k.cell 1
  have k2 : w.cell? ⟨m, 2, none⟩ = some (.int .u64 s.f) := k.cell 2
  have k3 : w.cell? ⟨m, 3, none⟩ = some (.int .u64 s.t) := k.cell 3
  have k4 : w.cell? ⟨m, 4, none⟩ = some (.int .u64 s.x) := k.cell 4
  have k5 : w.cell? ⟨m, 5, none⟩ = some (.int .u64 s.k) := k.cell 5
  have l3 : w.frozen? ⟨m, 3, none⟩ = false := k.free 3
  have l4 : w.frozen? ⟨m, 4, none⟩ = false := k.free 4
  have l5 : w.frozen? ⟨m, 5, none⟩ = false := k.free 5
  have K := Lib.hid k
  rw [win_ok ok z1 z2] at W
  have e : onM T s = (0, { s with t := T, x := (T - s.f) / s.p, k := if (T - s.f) / s.p = s.x then s.k else 0 }) := by unfold onM; rw [if_neg (by omega), if_neg (by omega)]
  rw [e] at H
  simp only at H
  have HH := Lib.hid H
  clear H e
  by_cases z3 : (T - s.f) / s.p = s.x
  · have zz : ((T - s.f) / s.p == s.x) = true := beq_iff_eq.2 z3
    clear k ok
    generalize (T - s.f) / s.p = X at *
    go_enter Try.func36, Try.ntmps36
    go_wp2_with fail
    go_quiet ((go_at_call 41; exact Calls.quiet_of_same ((W _).out.mono fun _ _ h => ⟨h.1, h.2.symm⟩)))
    have HX : ∀ nq, Hid (IsM ((w.drewN nq).setCell ⟨m, 3, none⟩ (.int .u64 T)) m ⟨s.b, s.p, s.f, T, X, if X = s.x then s.k else 0⟩) := fun nq => by
      rw [if_pos z3, z3]
      exact (Blk.drewN K.out nq).put 3 (.int .u64 T)
    have HO : ∀ nq, Only (· = m) w ((w.drewN nq).setCell ⟨m, 3, none⟩ (.int .u64 T)) := fun nq => Only.setCell ((Only.refl (· = m) w).drewN _) (p := ⟨m, 3, none⟩) (fun _ => rfl) _
    go_wp2_with (go_at_call 37; (with_reducible refine Calls.mono (HH.out _ (HX _).out (HO _)) ?_); rintro e w' ⟨x, c, rfl, hq⟩)
    exact hq
  · have zz : ((T - s.f) / s.p == s.x) = false := beq_eq_false_iff_ne.2 z3
    have zn : ((T - s.f) / s.p != s.x) = true := bne_iff_ne.2 z3
    clear k ok
    generalize (T - s.f) / s.p = X at *
    go_enter Try.func36, Try.ntmps36
    go_wp2_with fail
    go_quiet ((go_at_call 41; exact Calls.quiet_of_same ((W _).out.mono fun _ _ h => ⟨h.1, h.2.symm⟩)))
    have HX : ∀ nq, Hid (IsM ((((w.drewN nq).setCell ⟨m, 3, none⟩ (.int .u64 T)).setCell ⟨m, 4, none⟩ (.int .u64 X)).setCell ⟨m, 5, none⟩ (.int .u64 0)) m ⟨s.b, s.p, s.f, T, X, if X = s.x then s.k else 0⟩) := fun nq => by
      rw [if_neg z3]
      exact (((Blk.drewN K.out nq).put 3 (.int .u64 T)).put 4 (.int .u64 X)).put 5 (.int .u64 0)
    have HO : ∀ nq, Only (· = m) w ((((w.drewN nq).setCell ⟨m, 3, none⟩ (.int .u64 T)).setCell ⟨m, 4, none⟩ (.int .u64 X)).setCell ⟨m, 5, none⟩ (.int .u64 0)) := fun nq => Only.setCell (Only.setCell (Only.setCell ((Only.refl (· = m) w).drewN _) (p := ⟨m, 3, none⟩) (fun _ => rfl) _) (p := ⟨m, 4, none⟩) (fun _ => rfl) _) (p := ⟨m, 5, none⟩) (fun _ => rfl) _
    go_wp2_with (go_at_call 37; (with_reducible refine Calls.mono (HH.out _ (HX _).out (HO _)) ?_); rintro e w' ⟨x, c, rfl, hq⟩)
    exact hq
theorem mleft_any (k : IsM w m s) (ok : s.ok) : Calls Try.prog 38 #[.pointer (some ⟨m, 0, none⟩)] w fun e w' => e = .returned (.int .u64 (s.b - s.k)) ∧ ∃ n, w' = w.drewN n := by
  have k0 : w.cell? ⟨m, 0, none⟩ = some (.int .u64 s.b) := k.cell 0
  have k5 : w.cell? ⟨m, 5, none⟩ = some (.int .u64 s.k) := k.cell 5
  obtain ⟨b0, b1, p1, f0, t0, t1, x, kk0, kk1⟩ := ok
  clear k
  go_enter Try.func38, Try.ntmps38
  go_wp2_with fail
  go_quiet (fail)
  go_wp2_with fail
  go_ret
  exact ⟨rfl, _, rfl⟩
theorem left1_any (k : IsM w m s) (ok : s.ok) (x : Nat) (hx : w.cell? ⟨x, 0, none⟩ = some (.pointer (some ⟨m, 0, none⟩))) :
    Calls Try.prog 40 #[.pointer (some ⟨x, 0, none⟩)] w fun e w' => e = .returned (.tuple #[.int .u64 (s.b - s.k), .int .i64 0]) ∧ IsM w' m s ∧ Only (· = m) w w' := by
  have L := fun W k => Lib.hid (mleft_any (w := W) (m := m) (s := s) k ok)
  have K := Lib.hid k
  clear k ok
  go_enter Try.func40, Try.ntmps40
  go_wp2_with (go_at_call 38; (with_reducible refine Calls.mono (L _ K.out).out ?_); rintro e w' ⟨rfl, n, rfl⟩)
  go_ret2
  exact ⟨rfl, Blk.drewN K.out _, (Only.refl _ _).drewN _⟩
set_option maxHeartbeats 1000000 in
theorem leftm_any (k : IsM w m s) (ok : s.ok) (T : Int) (h0 : 0 ≤ T) (h1 : T ≤ 18446744073709551615) :
    Calls Try.prog 35 #[.pointer (some ⟨m, 0, none⟩), .int .u64 T] w fun e w' => e = .returned (.tuple #[.int .u64 (leftM T s).1.1, .int .i64 (leftM T s).1.2]) ∧ IsM w' m (leftM T s).2 ∧ Only (· = m) w w' := by
  have hmf : ∀ (fn : Fn) (first cap : Array Value) (w : World), (Instr.makeFunc fn first cap).run Try.prog w = .ok (.func fn first cap) w := fun _ _ _ _ => rfl
  have hlt := Blk.lt k
  have k1 : IsM (w.alloc (.cells #[.pointer (some ⟨m, 0, none⟩)] 67)) m s := Blk.alloc k _
  have x1 : Blk (w.alloc (.cells #[.pointer (some ⟨m, 0, none⟩)] 67)) w.heap.size 67 [.pointer (some ⟨m, 0, none⟩)] := Blk.new w _ _
  have o1 : Only (· = m) w (w.alloc (.cells #[.pointer (some ⟨m, 0, none⟩)] 67)) := (Only.refl _ _).alloc _
  by_cases z : (onM T s).1 = 0
  · have z1 : ¬ 4611686018427387904 ≤ T := fun h => by unfold onM at z; rw [if_pos h] at z; simp at z
    have z2 : ¬ T < s.t := fun h => by unfold onM at z; rw [if_neg z1, if_pos h] at z; simp at z
    have e : leftM T s = (((onM T s).2.b - (onM T s).2.k, 0), (onM T s).2) := by unfold leftM; rw [if_neg (by simpa using z)]
    rw [e]
    have okn := onM_ok ok T
    have ONL := fun cap Q H => Lib.hid (on_okLeft k1 ok T h0 h1 (by omega) (by omega) cap (Q := Q) H)
    have HH := fun (W : World) (kk : IsM W m (onM T s).2) (oo : Only (· = m) (w.alloc (.cells #[.pointer (some ⟨m, 0, none⟩)] 67)) W) => left1_any kk okn w.heap.size ((Blk.only x1 oo (show ¬ w.heap.size = m by omega)).cell 0)
    have D := ONL #[.pointer (some ⟨w.heap.size, 0, none⟩)] (fun e w' => e = .returned (.tuple #[.int .u64 ((onM T s).2.b - (onM T s).2.k), .int .i64 0]) ∧ IsM w' m (onM T s).2 ∧ Only (· = m) w w')
      (fun W kk oo => (HH W kk oo).mono fun e w' h => ⟨_, _, h.1, h.1, h.2.1, (o1.trans oo (fun _ _ h => h)).trans h.2.2 (fun _ _ h => h)⟩)
    clear ONL HH e okn z z1 z2 k1 x1 o1 k ok
    go_enter Try.func35, Try.ntmps35
    go_wp2_with (go_at_call 36; (with_reducible refine Calls.mono D.out ?_); rintro e w' ⟨rfl, hk, ho⟩)
    go_ret2
    exact ⟨rfl, hk, ho⟩
  · have e : leftM T s = ((0, (onM T s).1), s) := by unfold leftM; rw [if_pos z]
    rw [e]
    have D := Lib.hid (on_err k1 ok T h0 h1 z (.func 40) #[] #[.pointer (some ⟨w.heap.size, 0, none⟩)])
    have O1 := Lib.hid o1
    clear e z k1 x1 o1 k ok
    go_enter Try.func35, Try.ntmps35
    go_wp2_with (go_at_call 36; (with_reducible refine Calls.mono D.out ?_); rintro e w' ⟨rfl, hk, ho⟩)
    go_ret2
    exact ⟨rfl, hk, O1.out.trans ho (fun _ _ h => h)⟩
set_option maxHeartbeats 1000000 in
theorem take1_any (k : IsM w m s) (ok : s.ok) (x y : Nat) (N : Int) (h0 : 0 ≤ N) (h1 : N ≤ 18446744073709551615) (hx : w.cell? ⟨x, 0, none⟩ = some (.pointer (some ⟨m, 0, none⟩))) (hy : Blk w y 30 [.int .u64 N]) (hxy : x ≠ y) (hym : y ≠ m) :
    Calls Try.prog 37 #[.pointer (some ⟨y, 0, none⟩), .pointer (some ⟨x, 0, none⟩)] w fun e w' => e = .returned (.tuple #[.int .u64 (min N (s.b - s.k)), .int .i64 0]) ∧ IsM w' m { s with k := s.k + min N (s.b - s.k) } ∧ Only (fun i => i = m ∨ i = y) w w' := by
  have L1 := Lib.hid (mleft_any (w := w.drew) (m := m) (s := s) (Blk.drew k) ok)
  have k5 : w.cell? ⟨m, 5, none⟩ = some (.int .u64 s.k) := k.cell 5
  have l5 : w.frozen? ⟨m, 5, none⟩ = false := k.free 5
  have y0 : w.cell? ⟨y, 0, none⟩ = some (.int .u64 N) := hy.cell 0
  have y1 : w.frozen? ⟨y, 0, none⟩ = false := hy.free 0
  have K := Lib.hid k
  obtain ⟨b0, b1, p1, f0, t0, t1, -, kk0, kk1⟩ := ok
  clear k hy
  by_cases z : N ≤ s.b - s.k
  · rw [show min N (s.b - s.k) = N by omega]
    have W1 := fun n => Lib.hid (show IsM ((w.drewN n).setCell ⟨y, 0, none⟩ (.int .u64 N)) m s from Blk.far (Blk.drewN K.out n) (p := ⟨y, 0, none⟩) (fun e => hym e.symm) _)
    have x2 : ∀ n, ((w.drewN n).setCell ⟨y, 0, none⟩ (.int .u64 N)).cell? ⟨x, 0, none⟩ = some (.pointer (some ⟨m, 0, none⟩)) := fun n => (World.cell?_of_block (w := w) (a := ⟨x, 0, none⟩) (Below.heap_setCell (w.drewN n) ⟨y, 0, none⟩ _ x hxy)).trans hx
    have y2 : ∀ n, ((w.drewN n).setCell ⟨y, 0, none⟩ (.int .u64 N)).cell? ⟨y, 0, none⟩ = some (.int .u64 (N)) := fun n => World.cell?_setCell_same' _ _ _ (by rw [show (w.drewN n).cell? ⟨y, 0, none⟩ = _ from y0]; rfl)
    have m2 : ∀ n, ((w.drewN n).setCell ⟨y, 0, none⟩ (.int .u64 N)).cell? ⟨m, 5, none⟩ = some (.int .u64 s.k) := fun n => (World.cell?_of_block (w := w) (a := ⟨m, 5, none⟩) (Below.heap_setCell (w.drewN n) ⟨y, 0, none⟩ _ m (fun e => hym e.symm))).trans k5
    have g1 : IntKind.u64.wrap (s.k + (N)) = s.k + (N) := IntWalk.u64_in _ (by omega)
    go_enter Try.func37, Try.ntmps37
    go_wp2_with fail
    go_region_with (go_at_call 38; (with_reducible refine Calls.mono L1.out ?_); rintro e w' ⟨rfl, n, rfl⟩)
    all_goals
      go_wp2_with fail
      go_region
      all_goals
        go_wp2_with fail
        go_ret2
        refine ⟨rfl, ?_, ?_⟩
        · exact (Blk.put (Blk.drewN (W1 _).out _) 5 _)
        · exact Only.setCell (Only.drewN (Only.setCell ((Only.refl (fun i => i = m ∨ i = y) w).drewN _) (p := ⟨y, 0, none⟩) (fun _ => .inr rfl) _) _) (p := ⟨m, 5, none⟩) (fun _ => .inl rfl) _
  · rw [show min N (s.b - s.k) = s.b - s.k by omega]
    have W1 := fun n => Lib.hid (show IsM ((w.drewN n).setCell ⟨y, 0, none⟩ (.int .u64 (s.b - s.k))) m s from Blk.far (Blk.drewN K.out n) (p := ⟨y, 0, none⟩) (fun e => hym e.symm) _)
    have x2 : ∀ n, ((w.drewN n).setCell ⟨y, 0, none⟩ (.int .u64 (s.b - s.k))).cell? ⟨x, 0, none⟩ = some (.pointer (some ⟨m, 0, none⟩)) := fun n => (World.cell?_of_block (w := w) (a := ⟨x, 0, none⟩) (Below.heap_setCell (w.drewN n) ⟨y, 0, none⟩ _ x hxy)).trans hx
    have y2 : ∀ n, ((w.drewN n).setCell ⟨y, 0, none⟩ (.int .u64 (s.b - s.k))).cell? ⟨y, 0, none⟩ = some (.int .u64 (s.b - s.k)) := fun n => World.cell?_setCell_same' _ _ _ (by rw [show (w.drewN n).cell? ⟨y, 0, none⟩ = _ from y0]; rfl)
    have m2 : ∀ n, ((w.drewN n).setCell ⟨y, 0, none⟩ (.int .u64 (s.b - s.k))).cell? ⟨m, 5, none⟩ = some (.int .u64 s.k) := fun n => (World.cell?_of_block (w := w) (a := ⟨m, 5, none⟩) (Below.heap_setCell (w.drewN n) ⟨y, 0, none⟩ _ m (fun e => hym e.symm))).trans k5
    have g1 : IntKind.u64.wrap (s.k + (s.b - s.k)) = s.k + (s.b - s.k) := IntWalk.u64_in _ (by omega)
    go_enter Try.func37, Try.ntmps37
    go_wp2_with fail
    go_region_with (go_at_call 38; (with_reducible refine Calls.mono L1.out ?_); rintro e w' ⟨rfl, n, rfl⟩)
    all_goals
      go_wp2_with fail
      go_region
      all_goals
        go_wp2_with fail
        go_ret2
        refine ⟨rfl, ?_, ?_⟩
        · exact (Blk.put (Blk.drewN (W1 _).out _) 5 _)
        · exact Only.setCell (Only.drewN (Only.setCell ((Only.refl (fun i => i = m ∨ i = y) w).drewN _) (p := ⟨y, 0, none⟩) (fun _ => .inr rfl) _) _) (p := ⟨m, 5, none⟩) (fun _ => .inl rfl) _
set_option maxHeartbeats 1000000 in
theorem takem_any (k : IsM w m s) (ok : s.ok) (T N : Int) (h0 : 0 ≤ T) (h1 : T ≤ 18446744073709551615) (n0 : 0 ≤ N) (n1 : N ≤ 18446744073709551615) :
    Calls Try.prog 27 #[.pointer (some ⟨m, 0, none⟩), .int .u64 T, .int .u64 N] w fun e w' => e = .returned (.tuple #[.int .u64 (takeM T N s).1.1, .int .i64 (takeM T N s).1.2]) ∧ IsM w' m (takeM T N s).2 ∧ Only (· = m) w w' := by
  have eno : (onM T s).1 ≠ 0 → takeM T N s = ((0, (onM T s).1), s) := fun z => by unfold takeM; rw [if_pos z]
  have hmf : ∀ (fn : Fn) (first cap : Array Value) (w : World), (Instr.makeFunc fn first cap).run Try.prog w = .ok (.func fn first cap) w := fun _ _ _ _ => rfl
  have hlt := Blk.lt k
  have k1 : IsM ((w.alloc (.cells #[.pointer (some ⟨m, 0, none⟩)] 67)).alloc (.cells #[.int .u64 N] 30)) m s := Blk.alloc (Blk.alloc k _) _
  have x1 : Blk ((w.alloc (.cells #[.pointer (some ⟨m, 0, none⟩)] 67)).alloc (.cells #[.int .u64 N] 30)) w.heap.size 67 [.pointer (some ⟨m, 0, none⟩)] := (Blk.new w _ _).alloc _
  have y1 : Blk ((w.alloc (.cells #[.pointer (some ⟨m, 0, none⟩)] 67)).alloc (.cells #[.int .u64 N] 30)) (w.heap.size + 1) 30 [.int .u64 N] := by
    have := Blk.new (w.alloc (.cells #[.pointer (some ⟨m, 0, none⟩)] 67)) 30 [.int .u64 N]
    simpa using this
  have o1 : Only (· = m) w ((w.alloc (.cells #[.pointer (some ⟨m, 0, none⟩)] 67)).alloc (.cells #[.int .u64 N] 30)) := ((Only.refl _ _).alloc _).alloc _
  by_cases z : (onM T s).1 = 0
  · have z1 : ¬ 4611686018427387904 ≤ T := fun h => by unfold onM at z; rw [if_pos h] at z; simp at z
    have z2 : ¬ T < s.t := fun h => by unfold onM at z; rw [if_neg z1, if_pos h] at z; simp at z
    have e : takeM T N s = ((min N ((onM T s).2.b - (onM T s).2.k), 0), { (onM T s).2 with k := (onM T s).2.k + min N ((onM T s).2.b - (onM T s).2.k) }) := by
      unfold takeM; rw [if_neg (by simpa using z)]
    rw [e]
    clear eno
    have okn := onM_ok ok T
    have ONL := fun cap Q H => Lib.hid (on_okTake k1 ok T h0 h1 (by omega) (by omega) cap (Q := Q) H)
    have HH := fun (W : World) (kk : IsM W m (onM T s).2) (oo : Only (· = m) ((w.alloc (.cells #[.pointer (some ⟨m, 0, none⟩)] 67)).alloc (.cells #[.int .u64 N] 30)) W) => take1_any kk okn w.heap.size (w.heap.size + 1) N n0 n1 ((Blk.only x1 oo (show ¬ w.heap.size = m by omega)).cell 0) (Blk.only y1 oo (show ¬ w.heap.size + 1 = m by omega)) (by omega) (by omega)
    have D := ONL #[.pointer (some ⟨w.heap.size + 1, 0, none⟩), .pointer (some ⟨w.heap.size, 0, none⟩)] (fun e w' => e = .returned (.tuple #[.int .u64 (min N ((onM T s).2.b - (onM T s).2.k)), .int .i64 0]) ∧ IsM w' m { (onM T s).2 with k := (onM T s).2.k + min N ((onM T s).2.b - (onM T s).2.k) } ∧ Only (· = m) w w')
      (fun W kk oo => (HH W kk oo).mono fun e w' h => ⟨_, _, h.1, h.1, h.2.1, (o1.trans oo (fun _ _ h => h)).trans h.2.2 (fun i hi h => h.elim id (fun e => by omega))⟩)
    clear ONL HH e okn z z1 z2 k1 x1 y1 o1 k ok
    go_enter Try.func27, Try.ntmps27
    go_wp2_with (go_at_call 36; (with_reducible refine Calls.mono D.out ?_); rintro e w' ⟨rfl, hk, ho⟩)
    go_ret2
    exact ⟨rfl, hk, ho⟩
  · rw [eno z]
    have D := Lib.hid (on_err k1 ok T h0 h1 z (.func 37) #[] #[.pointer (some ⟨w.heap.size + 1, 0, none⟩), .pointer (some ⟨w.heap.size, 0, none⟩)])
    have O1 := Lib.hid o1
    clear z k1 x1 y1 o1 k ok
    go_enter Try.func27, Try.ntmps27
    go_wp2_with (go_at_call 36; (with_reducible refine Calls.mono D.out ?_); rintro e w' ⟨rfl, hk, ho⟩)
    go_ret2
    exact ⟨rfl, hk, O1.out.trans ho (fun _ _ h => h)⟩
end
end Go.Proofs.Ytbfhohcimomphaa
