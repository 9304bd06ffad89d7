/- The contracts of layer 11 (coal): a gatherer is a block of five cells; each call by a plain function on its numbers. -/
import Derived.Test.YtbdhmjlbogjkoaaTick
import Derived.Test.YtbdhmjlbogjkoaaMem
import Derived.Deep.QuietTactic
import Derived.BigQuiet
namespace Go.Proofs.Ytbdhmjlbogjkoaa
open Go.RowKit
set_option linter.unusedVariables false

/-- A gatherer: count, hold, has, first, now. -/
structure Gs where
  c : Int
  h : Int
  n : Int
  f : Int
  t : Int
/-- The bounds that always hold. -/
structure Gs.ok (g : Gs) : Prop where
  c0 : 1 ≤ g.c
  c1 : g.c ≤ 1000
  h0 : 0 ≤ g.h
  h1 : g.h ≤ 1099511627776
  n0 : 0 ≤ g.n
  n1 : g.n < g.c
  f0 : 0 ≤ g.f
  f1 : g.f < 4611686018427387904
  t0 : 0 ≤ g.t
  t1 : g.t < 4611686018427387904
def Gs.cs (g : Gs) : List Value := [.int .i64 g.c, .int .u64 g.h, .int .i64 g.n, .int .u64 g.f, .int .u64 g.t]
abbrev IsG (w : World) (b : Nat) (g : Gs) : Prop := Blk w b 91 g.cs

def dueF (g : Gs) : Int × Bool := if g.n = 0 ∨ 4611686018427387904 ≤ g.f + g.h then (0, false) else (g.f + g.h, true)
def lateF (g : Gs) : Int × Gs := if g.n = 0 ∨ 4611686018427387904 ≤ g.f + g.h ∨ g.t < g.f + g.h then (0, g) else (g.n, { g with n := 0 })
def goF (now : Int) (g : Gs) : (Int × Int) × Gs :=
  if 4611686018427387904 ≤ now then ((0, 2), g) else if now < g.t then ((0, 1), g) else (((lateF { g with t := now }).1, 0), (lateF { g with t := now }).2)
/-- What a raise does behind the time: how many are fired, and the gatherer. -/
def doF (now : Int) (g : Gs) : Int × Gs :=
  if g.n + 1 = g.c ∨ g.h = 0 then (g.n + 1, { g with n := 0, f := if g.n = 0 then now else g.f }) else (0, { g with n := g.n + 1, f := if g.n = 0 then now else g.f })
def raiseF (now : Int) (g : Gs) : (Int × Int) × Gs :=
  if 4611686018427387904 ≤ now then ((0, 2), g) else if now < g.t then ((0, 1), g) else
    (((lateF { g with t := now }).1 + (doF now (lateF { g with t := now }).2).1, 0), (doF now (lateF { g with t := now }).2).2)

theorem lateF_bd {g : Gs} (ok : g.ok) : 0 ≤ (lateF g).1 ∧ (lateF g).1 ≤ 1000 := by
  obtain ⟨c0, c1, h0, h1, n0, n1, f0, f1, t0, t1⟩ := ok
  unfold lateF; split <;> simp only <;> omega
theorem lateF_ok {g : Gs} (ok : g.ok) : (lateF g).2.ok := by
  obtain ⟨c0, c1, h0, h1, n0, n1, f0, f1, t0, t1⟩ := ok
  unfold lateF; split <;> constructor <;> simp only <;> omega

section
variable {w : World} {b : Nat} {g : Gs}
theorem IsG.cells (k : IsG w b g) : w.cell? ⟨b, 0, none⟩ = some (.int .i64 g.c) ∧ w.cell? ⟨b, 1, none⟩ = some (.int .u64 g.h) ∧ w.cell? ⟨b, 2, none⟩ = some (.int .i64 g.n) ∧ w.cell? ⟨b, 3, none⟩ = some (.int .u64 g.f) ∧ w.cell? ⟨b, 4, none⟩ = some (.int .u64 g.t) :=
  ⟨Blk.cell k 0, Blk.cell k 1, Blk.cell k 2, Blk.cell k 3, Blk.cell k 4⟩
theorem IsG.frees (k : IsG w b g) : w.frozen? ⟨b, 0, none⟩ = false ∧ w.frozen? ⟨b, 1, none⟩ = false ∧ w.frozen? ⟨b, 2, none⟩ = false ∧ w.frozen? ⟨b, 3, none⟩ = false ∧ w.frozen? ⟨b, 4, none⟩ = false :=
  ⟨Blk.free k 0, Blk.free k 1, Blk.free k 2, Blk.free k 3, Blk.free k 4⟩

theorem due_any (k : IsG w b g) (ok : g.ok) :
    Calls Try.prog 57 #[.pointer (some ⟨b, 0, none⟩)] w fun e w' => e = .returned (.tuple #[.int .u64 (dueF g).1, .bool (dueF g).2]) ∧ ∃ m, w' = w.drewN m := by
  obtain ⟨k0, k1, k2, k3, k4⟩ := k.cells
  obtain ⟨c, h, n, f, t⟩ := g
  obtain ⟨c0, c1, h0, h1, n0, n1, f0, f1, t0, t1⟩ := ok
  simp only at *
  have ca := fun W => add_any f h W f0 (by omega) h0 (by omega)
  by_cases z : n = 0 ∨ 4611686018427387904 ≤ f + h
  · have e2 : dueF ⟨c, h, n, f, t⟩ = (0, false) := by unfold dueF; rw [if_pos z]
    rw [e2]
    by_cases z0 : n = 0
    · subst z0
      have CA := fun W => Lib.hid (ca W)
      clear ca e2 z
      go_enter Try.func57, Try.ntmps57
      go_wp2
      go_quiet ((go_at_call 59; exact Calls.quiet_of_same ((CA _).out.mono fun _ _ h => ⟨h.1, h.2.symm⟩)))
      go_wp2
      go_ret2
      exact ⟨rfl, _, rfl⟩
    · have e1 : addF f h = (0, 2) := by unfold addF; rw [if_neg (by omega)]
      simp only [e1] at ca
      have z1 : (n == 0) = false := beq_eq_false_iff_ne.2 (by omega)
      have CA := fun W => Lib.hid (ca W)
      clear ca e1 e2 z z0
      go_enter Try.func57, Try.ntmps57
      go_wp2
      go_quiet ((go_at_call 59; exact Calls.quiet_of_same ((CA _).out.mono fun _ _ h => ⟨h.1, h.2.symm⟩)))
      go_wp2
      go_ret2
      exact ⟨rfl, _, rfl⟩
  · have e1 : addF f h = (f + h, 0) := by unfold addF; rw [if_pos (by omega)]
    have e2 : dueF ⟨c, h, n, f, t⟩ = (f + h, true) := by unfold dueF; rw [if_neg z]
    simp only [e1] at ca
    rw [e2]
    have z1 : (n == 0) = false := beq_eq_false_iff_ne.2 (by omega)
    have CA := fun W => Lib.hid (ca W)
    clear ca e1 e2 z
    go_enter Try.func57, Try.ntmps57
    go_wp2
    go_quiet ((go_at_call 59; exact Calls.quiet_of_same ((CA _).out.mono fun _ _ h => ⟨h.1, h.2.symm⟩)))
    go_wp2
    go_ret2
    exact ⟨rfl, _, rfl⟩

theorem late_any (k : IsG w b g) (ok : g.ok) :
    Calls Try.prog 53 #[.pointer (some ⟨b, 0, none⟩)] w fun e w' => e = .returned (.int .i64 (lateF g).1) ∧ IsG w' b (lateF g).2 ∧ Only (· = b) w w' := by
  obtain ⟨k0, k1, k2, k3, k4⟩ := k.cells
  obtain ⟨l0, l1, l2, l3, l4⟩ := k.frees
  have C := Lib.hid (due_any k ok)
  obtain ⟨c, h, n, f, t⟩ := g
  obtain ⟨c0, c1, h0, h1, n0, n1, f0, f1, t0, t1⟩ := ok
  simp only at *
  have K := Lib.hid k
  clear k
  by_cases z : n = 0 ∨ 4611686018427387904 ≤ f + h
  · have e1 : dueF ⟨c, h, n, f, t⟩ = (0, false) := by unfold dueF; rw [if_pos z]
    have e2 : lateF ⟨c, h, n, f, t⟩ = (0, ⟨c, h, n, f, t⟩) := by unfold lateF; rw [if_pos (by simp only; omega)]
    rw [e1] at C
    rw [e2]
    clear e1 e2 z
    go_enter Try.func53, Try.ntmps53
    go_wp2_with (go_at_call 57; refine Calls.mono C.out ?_; rintro e w' ⟨rfl, m, rfl⟩)
    go_ret
    exact ⟨rfl, K.out, (Only.refl _ _).drewN _⟩
  · have e1 : dueF ⟨c, h, n, f, t⟩ = (f + h, true) := by unfold dueF; rw [if_neg z]
    rw [e1] at C
    by_cases y : f + h ≤ t
    · have e2 : lateF ⟨c, h, n, f, t⟩ = (n, ⟨c, h, 0, f, t⟩) := by unfold lateF; rw [if_neg (by simp only; omega)]
      rw [e2]
      clear e1 e2 z
      go_enter Try.func53, Try.ntmps53
      go_wp2_with (first | (go_at_call 57; refine Calls.mono C.out ?_; rintro e w' ⟨rfl, m, rfl⟩) | go_in)
      go_ret
      exact ⟨rfl, (K.out.drewN _).put 2 _, ((Only.refl (· = b) w).drewN m).setCell (p := ⟨b, 2, none⟩) (fun _ => rfl) _⟩
    · have e2 : lateF ⟨c, h, n, f, t⟩ = (0, ⟨c, h, n, f, t⟩) := by unfold lateF; rw [if_pos (by simp only; omega)]
      rw [e2]
      clear e1 e2 z
      go_enter Try.func53, Try.ntmps53
      go_wp2_with (first | (go_at_call 57; refine Calls.mono C.out ?_; rintro e w' ⟨rfl, m, rfl⟩) | go_in)
      go_ret
      exact ⟨rfl, K.out, (Only.refl _ _).drewN _⟩

theorem go_any (k : IsG w b g) (ok : g.ok) (now : Int) (hn : 0 ≤ now) (hn' : now ≤ 18446744073709551615) :
    Calls Try.prog 45 #[.pointer (some ⟨b, 0, none⟩), .int .u64 now] w fun e w' => e = .returned (.tuple #[.int .i64 (goF now g).1.1, .int .i64 (goF now g).1.2]) ∧ IsG w' b (goF now g).2 ∧ Only (· = b) w w' := by
  obtain ⟨k0, k1, k2, k3, k4⟩ := k.cells
  obtain ⟨l0, l1, l2, l3, l4⟩ := k.frees
  have K := Lib.hid k
  by_cases z1 : 4611686018427387904 ≤ now
  · have e : goF now g = ((0, 2), g) := by unfold goF; rw [if_pos z1]
    rw [e]
    have z3 : decide (now < 4611686018427387904) = false := decide_eq_false (by omega)
    clear e k
    go_enter Try.func45, Try.ntmps45
    go_wp2_with (first | (go_at_call 44; refine (may_any _ _).mono ?_; rintro e w' ⟨rfl, rfl⟩) | go_in)
    go_ret2
    exact ⟨rfl, K.out, Only.refl _ _⟩
  · by_cases z2 : now < g.t
    · have e : goF now g = ((0, 1), g) := by unfold goF; rw [if_neg z1, if_pos z2]
      rw [e]
      have z3 : decide (now < 4611686018427387904) = true := decide_eq_true (by omega)
      have z4 : now < 4611686018427387904 := by omega
      clear e k
      go_enter Try.func45, Try.ntmps45
      go_wp2_with (first | (go_at_call 44; refine (may_any _ _).mono ?_; rintro e w' ⟨rfl, rfl⟩) | go_in)
      go_ret2
      exact ⟨rfl, K.out, Only.refl _ _⟩
    · have e : goF now g = (((lateF { g with t := now }).1, 0), (lateF { g with t := now }).2) := by unfold goF; rw [if_neg z1, if_neg z2]
      have ok' : Gs.ok { g with t := now } := ⟨ok.c0, ok.c1, ok.h0, ok.h1, ok.n0, ok.n1, ok.f0, ok.f1, hn, by simp only; omega⟩
      have k' : IsG (w.setCell ⟨b, 4, none⟩ (.int .u64 now)) b { g with t := now } := k.put 4 _
      have C := Lib.hid (late_any k' ok')
      obtain ⟨r0, r1⟩ := lateF_bd ok'
      rw [e]
      generalize (lateF { g with t := now }).1 = r at *
      have z3 : decide (now < 4611686018427387904) = true := decide_eq_true (by omega)
      have z4 : now < 4611686018427387904 := by omega
      clear e k k'
      go_enter Try.func45, Try.ntmps45
      go_wp2_with (first | (go_at_call 44; refine (may_any _ _).mono ?_; rintro e w' ⟨rfl, rfl⟩) | (go_at_call 53; refine Calls.mono C.out ?_; rintro e w' ⟨rfl, hk, ho⟩) | go_in)
      go_ret2
      exact ⟨rfl, hk, ((Only.refl (· = b) w).setCell (p := ⟨b, 4, none⟩) (fun _ => rfl) _).trans ho (fun _ _ h => h)⟩

theorem do_any (k : IsG w b g) (ok : g.ok) (now : Int) (hn : 0 ≤ now) (hn' : now < 4611686018427387904) (x y : Nat) (kx : Blk w x 71 [.pointer (some ⟨b, 0, none⟩)]) (ky : Blk w y 22 [.int .u64 now]) :
    Calls Try.prog 47 #[.pointer (some ⟨x, 0, none⟩), .pointer (some ⟨y, 0, none⟩)] w fun e w' => e = .returned (.int .i64 (doF now g).1) ∧ IsG w' b (doF now g).2 ∧ Only (· = b) w w' := by
  have nx : x ≠ b := kx.ne k (by decide)
  have ny : y ≠ b := ky.ne k (by decide)
  obtain ⟨k0, k1, k2, k3, k4⟩ := k.cells
  obtain ⟨l0, l1, l2, l3, l4⟩ := k.frees
  have cx : w.cell? ⟨x, 0, none⟩ = some (.pointer (some ⟨b, 0, none⟩)) := kx.cell 0
  have cy : w.cell? ⟨y, 0, none⟩ = some (.int .u64 now) := ky.cell 0
  have K := Lib.hid k
  obtain ⟨c, h, n, f, t⟩ := g
  obtain ⟨c0, c1, h0, h1, n0, n1, f0, f1, t0, t1⟩ := ok
  simp only at *
  clear k kx ky
  by_cases z1 : n = 0
  · by_cases z2 : n + 1 = c
    · have e : doF now ⟨c, h, n, f, t⟩ = (n + 1, ⟨c, h, 0, now, t⟩) := by unfold doF; simp only; rw [if_pos (by omega)]; simp [z1]
      rw [e]
      clear e
      have z1' : (n == 0) = true := beq_iff_eq.2 z1
      have z2' : (n + 1 == c) = true := beq_iff_eq.2 z2
      clear z1 z2
      go_enter Try.func47, Try.ntmps47
      go_wp2
      go_quiet (fail)
      go_wp2_with (go_in)
      go_ret
      exact ⟨rfl, ((((K.out.put 3 (.int .u64 now)).put 2 (.int .i64 (n + 1)))).drewN _).put 2 _, Only.setCell (((Only.setCell (Only.setCell (Only.refl (· = b) w) (p := ⟨b, 3, none⟩) (fun _ => rfl) (.int .u64 now)) (p := ⟨b, 2, none⟩) (fun _ => rfl) (.int .i64 (n + 1)))).drewN _) (p := ⟨b, 2, none⟩) (fun _ => rfl) _⟩
    · by_cases z3 : h = 0
      · have e : doF now ⟨c, h, n, f, t⟩ = (n + 1, ⟨c, h, 0, now, t⟩) := by unfold doF; simp only; rw [if_pos (by omega)]; simp [z1]
        rw [e]
        clear e
        have z1' : (n == 0) = true := beq_iff_eq.2 z1
        have z2' : (n + 1 == c) = false := beq_eq_false_iff_ne.2 z2
        have z3' : (h == 0) = true := beq_iff_eq.2 z3
        clear z1 z2 z3
        go_enter Try.func47, Try.ntmps47
        go_wp2
        go_quiet (fail)
        go_wp2_with (go_in)
        go_ret
        exact ⟨rfl, ((((K.out.put 3 (.int .u64 now)).put 2 (.int .i64 (n + 1)))).drewN _).put 2 _, Only.setCell (((Only.setCell (Only.setCell (Only.refl (· = b) w) (p := ⟨b, 3, none⟩) (fun _ => rfl) (.int .u64 now)) (p := ⟨b, 2, none⟩) (fun _ => rfl) (.int .i64 (n + 1)))).drewN _) (p := ⟨b, 2, none⟩) (fun _ => rfl) _⟩
      · have e : doF now ⟨c, h, n, f, t⟩ = (0, ⟨c, h, n + 1, now, t⟩) := by unfold doF; simp only; rw [if_neg (by omega)]; simp [z1]
        rw [e]
        clear e
        have z1' : (n == 0) = true := beq_iff_eq.2 z1
        have z2' : (n + 1 == c) = false := beq_eq_false_iff_ne.2 z2
        have z3' : (h == 0) = false := beq_eq_false_iff_ne.2 z3
        clear z1 z2 z3
        go_enter Try.func47, Try.ntmps47
        go_wp2
        go_quiet (fail)
        go_wp2_with (go_in)
        go_ret
        exact ⟨rfl, (((K.out.put 3 (.int .u64 now)).put 2 (.int .i64 (n + 1)))).drewN _, ((Only.setCell (Only.setCell (Only.refl (· = b) w) (p := ⟨b, 3, none⟩) (fun _ => rfl) (.int .u64 now)) (p := ⟨b, 2, none⟩) (fun _ => rfl) (.int .i64 (n + 1)))).drewN _⟩
  · by_cases z2 : n + 1 = c
    · have e : doF now ⟨c, h, n, f, t⟩ = (n + 1, ⟨c, h, 0, f, t⟩) := by unfold doF; simp only; rw [if_pos (by omega)]; simp [z1]
      rw [e]
      clear e
      have z1' : (n == 0) = false := beq_eq_false_iff_ne.2 z1
      have z2' : (n + 1 == c) = true := beq_iff_eq.2 z2
      clear z1 z2
      go_enter Try.func47, Try.ntmps47
      go_wp2
      go_quiet (fail)
      go_wp2_with (go_in)
      go_ret
      exact ⟨rfl, (((K.out.put 2 (.int .i64 (n + 1)))).drewN _).put 2 _, Only.setCell (((Only.setCell (Only.refl (· = b) w) (p := ⟨b, 2, none⟩) (fun _ => rfl) (.int .i64 (n + 1)))).drewN _) (p := ⟨b, 2, none⟩) (fun _ => rfl) _⟩
    · by_cases z3 : h = 0
      · have e : doF now ⟨c, h, n, f, t⟩ = (n + 1, ⟨c, h, 0, f, t⟩) := by unfold doF; simp only; rw [if_pos (by omega)]; simp [z1]
        rw [e]
        clear e
        have z1' : (n == 0) = false := beq_eq_false_iff_ne.2 z1
        have z2' : (n + 1 == c) = false := beq_eq_false_iff_ne.2 z2
        have z3' : (h == 0) = true := beq_iff_eq.2 z3
        clear z1 z2 z3
        go_enter Try.func47, Try.ntmps47
        go_wp2
        go_quiet (fail)
        go_wp2_with (go_in)
        go_ret
        exact ⟨rfl, (((K.out.put 2 (.int .i64 (n + 1)))).drewN _).put 2 _, Only.setCell (((Only.setCell (Only.refl (· = b) w) (p := ⟨b, 2, none⟩) (fun _ => rfl) (.int .i64 (n + 1)))).drewN _) (p := ⟨b, 2, none⟩) (fun _ => rfl) _⟩
      · have e : doF now ⟨c, h, n, f, t⟩ = (0, ⟨c, h, n + 1, f, t⟩) := by unfold doF; simp only; rw [if_neg (by omega)]; simp [z1]
        rw [e]
        clear e
        have z1' : (n == 0) = false := beq_eq_false_iff_ne.2 z1
        have z2' : (n + 1 == c) = false := beq_eq_false_iff_ne.2 z2
        have z3' : (h == 0) = false := beq_eq_false_iff_ne.2 z3
        clear z1 z2 z3
        go_enter Try.func47, Try.ntmps47
        go_wp2
        go_quiet (fail)
        go_wp2_with (go_in)
        go_ret
        exact ⟨rfl, ((K.out.put 2 (.int .i64 (n + 1)))).drewN _, ((Only.setCell (Only.refl (· = b) w) (p := ⟨b, 2, none⟩) (fun _ => rfl) (.int .i64 (n + 1)))).drewN _⟩

theorem doF_bd {g : Gs} (ok : g.ok) (now : Int) : 0 ≤ (doF now g).1 ∧ (doF now g).1 ≤ 1000 := by
  obtain ⟨c0, c1, h0, h1, n0, n1, f0, f1, t0, t1⟩ := ok
  unfold doF; split <;> simp only <;> omega
theorem doF_ok {g : Gs} (ok : g.ok) (now : Int) (h : 0 ≤ now) (h' : now < 4611686018427387904) : (doF now g).2.ok := by
  obtain ⟨c0, c1, h0, h1, n0, n1, f0, f1, t0, t1⟩ := ok
  unfold doF
  split <;> constructor <;> simp only <;> (try split) <;> omega

theorem raise_any (k : IsG w b g) (ok : g.ok) (now : Int) (hn : 0 ≤ now) (hn' : now ≤ 18446744073709551615) :
    Calls Try.prog 34 #[.pointer (some ⟨b, 0, none⟩), .int .u64 now] w fun e w' => e = .returned (.tuple #[.int .i64 (raiseF now g).1.1, .int .i64 (raiseF now g).1.2]) ∧ IsG w' b (raiseF now g).2 ∧ Only (· = b) w w' := by
  have hmf : ∀ (fn : Fn) (first cap : Array Value) (w : World), (Instr.makeFunc fn first cap).run Try.prog w = .ok (.func fn first cap) w := fun _ _ _ _ => rfl
  have hb := Blk.lt k
  have k00 := Lib.hid k
  -- the world behind the two boxes
  have k2 : IsG ((w.alloc (.cells #[.pointer (some ⟨b, 0, none⟩)] 71)).alloc (.cells #[.int .u64 now] 22)) b g := (Blk.alloc k _).alloc _
  have x2 : Blk ((w.alloc (.cells #[.pointer (some ⟨b, 0, none⟩)] 71)).alloc (.cells #[.int .u64 now] 22)) w.heap.size 71 [.pointer (some ⟨b, 0, none⟩)] := (Blk.new w 71 [.pointer (some ⟨b, 0, none⟩)]).alloc _
  have y2 : Blk ((w.alloc (.cells #[.pointer (some ⟨b, 0, none⟩)] 71)).alloc (.cells #[.int .u64 now] 22)) (w.heap.size + 1) 22 [.int .u64 now] := by
    have := Blk.new (w.alloc (.cells #[.pointer (some ⟨b, 0, none⟩)] 71)) 22 [.int .u64 now]
    simpa using this
  have o2 : Only (· = b) w ((w.alloc (.cells #[.pointer (some ⟨b, 0, none⟩)] 71)).alloc (.cells #[.int .u64 now] 22)) := ((Only.refl _ _).alloc _).alloc _
  obtain ⟨k0, k1, k2', k3, k4⟩ := k2.cells
  obtain ⟨l0, l1, l2, l3, l4⟩ := k2.frees
  have K := Lib.hid k2
  have X := Lib.hid x2
  have Y := Lib.hid y2
  have O := Lib.hid o2
  clear k k2 x2 y2 o2
  by_cases z1 : 4611686018427387904 ≤ now
  · have e : raiseF now g = ((0, 2), g) := by unfold raiseF; rw [if_pos z1]
    rw [e]
    have z3 : decide (now < 4611686018427387904) = false := decide_eq_false (by omega)
    clear e
    go_enter Try.func34, Try.ntmps34
    go_wp2_with (first | (go_at_call 44; refine (may_any _ _).mono ?_; rintro e w' ⟨rfl, rfl⟩) | go_in)
    go_ret2
    exact ⟨rfl, K.out, O.out⟩
  · by_cases z2 : now < g.t
    · have e : raiseF now g = ((0, 1), g) := by unfold raiseF; rw [if_neg z1, if_pos z2]
      rw [e]
      have z3 : decide (now < 4611686018427387904) = true := decide_eq_true (by omega)
      have z4 : now < 4611686018427387904 := by omega
      clear e
      go_enter Try.func34, Try.ntmps34
      go_wp2_with (first | (go_at_call 44; refine (may_any _ _).mono ?_; rintro e w' ⟨rfl, rfl⟩) | go_in)
      go_ret2
      exact ⟨rfl, K.out, O.out⟩
    · have e : raiseF now g = (((lateF { g with t := now }).1 + (doF now (lateF { g with t := now }).2).1, 0), (doF now (lateF { g with t := now }).2).2) := by unfold raiseF; rw [if_neg z1, if_neg z2]
      have ok' : Gs.ok { g with t := now } := ⟨ok.c0, ok.c1, ok.h0, ok.h1, ok.n0, ok.n1, ok.f0, ok.f1, hn, by simp only; omega⟩
      have k' : IsG (((w.setCell ⟨b, 4, none⟩ (.int .u64 now)).alloc (.cells #[.pointer (some ⟨b, 0, none⟩)] 71)).alloc (.cells #[.int .u64 now] 22)) b { g with t := now } := Blk.alloc (Blk.alloc (Blk.put k00.out 4 _) _) _
      have x' : Blk (((w.setCell ⟨b, 4, none⟩ (.int .u64 now)).alloc (.cells #[.pointer (some ⟨b, 0, none⟩)] 71)).alloc (.cells #[.int .u64 now] 22)) w.heap.size 71 [.pointer (some ⟨b, 0, none⟩)] := by
        have := (Blk.new (w.setCell ⟨b, 4, none⟩ (.int .u64 now)) 71 [.pointer (some ⟨b, 0, none⟩)]).alloc (.cells #[.int .u64 now] 22)
        simpa using this
      have y' : Blk (((w.setCell ⟨b, 4, none⟩ (.int .u64 now)).alloc (.cells #[.pointer (some ⟨b, 0, none⟩)] 71)).alloc (.cells #[.int .u64 now] 22)) (w.heap.size + 1) 22 [.int .u64 now] := by
        have := Blk.new ((w.setCell ⟨b, 4, none⟩ (.int .u64 now)).alloc (.cells #[.pointer (some ⟨b, 0, none⟩)] 71)) 22 [.int .u64 now]
        simpa using this
      have o' : Only (· = b) w (((w.setCell ⟨b, 4, none⟩ (.int .u64 now)).alloc (.cells #[.pointer (some ⟨b, 0, none⟩)] 71)).alloc (.cells #[.int .u64 now] 22)) := ((Only.setCell (Only.refl (· = b) w) (p := ⟨b, 4, none⟩) (fun _ => rfl) _).alloc _).alloc _
      have X' := Lib.hid x'
      have Y' := Lib.hid y'
      have O' := Lib.hid o'
      clear x' y' o'
      have C := Lib.hid (late_any k' ok')
      have ok2 := lateF_ok ok'
      obtain ⟨r0, r1⟩ := lateF_bd ok'
      obtain ⟨s0, s1⟩ := doF_bd ok2 now
      have D := fun (W : World) kk kx ky => Lib.hid (do_any (w := W) (b := b) (g := (lateF { g with t := now }).2) kk ok2 now hn (by omega) w.heap.size (w.heap.size + 1) kx ky)
      rw [e]
      generalize (doF now (lateF { g with t := now }).2).1 = s at *
      generalize (doF now (lateF { g with t := now }).2).2 = g2 at *
      generalize (lateF { g with t := now }).1 = r at *
      generalize (lateF { g with t := now }).2 = g1 at *
      have z3 : decide (now < 4611686018427387904) = true := decide_eq_true (by omega)
      have z4 : now < 4611686018427387904 := by omega
      clear e k' ok2 ok' ok
      go_enter Try.func34, Try.ntmps34
      go_wp2_with (first
        | (go_at_call 44; refine (may_any _ _).mono ?_; rintro e w' ⟨rfl, rfl⟩)
        | (go_at_call 53; refine Calls.mono C.out ?_; rintro e w3 ⟨rfl, hk, ho⟩
           have hx := Blk.only X'.out ho (by show w.heap.size ≠ b; omega)
           have hy := Blk.only Y'.out ho (by show w.heap.size + 1 ≠ b; omega))
        | (go_at_call 47; refine Calls.mono (D w3 hk hx hy).out ?_; rintro e w4 ⟨rfl, hk4, ho4⟩)
        | go_in)
      go_ret2
      exact ⟨rfl, hk4, (O'.out.trans ho (fun _ _ h => h)).trans ho4 (fun _ _ h => h)⟩

/-- New, where the rule may be: a new block. -/
theorem new_any (c h : Int) (w : World) (h1 : 1 ≤ c) (h2 : c ≤ 1000) (h3 : 0 ≤ h) (h4 : h ≤ 1099511627776) :
    Calls Try.prog 29 #[.int .i64 c, .int .u64 h] w fun e w' => ∃ b, e = .returned (.tuple #[.pointer (some ⟨b, 0, none⟩), .int .i64 0]) ∧ w.heap.size ≤ b ∧ IsG w' b ⟨c, h, 0, 0, 0⟩ ∧ Below w.heap.size w w' := by
  have z1 : decide (c < 1) = false := decide_eq_false (by omega)
  have z2 : decide (1000 < c) = false := decide_eq_false (by omega)
  go_enter Try.func29, Try.ntmps29
  go_wp2
  go_ret2
  exact ⟨w.heap.size, rfl, Nat.le_refl _, Blk.new w _ _, (Below.refl _ _).alloc (Nat.le_refl _) _⟩
theorem new_no (c h : Int) (w : World) (hc : c < 1 ∨ 1000 < c ∨ 1099511627776 < h) :
    Calls Try.prog 29 #[.int .i64 c, .int .u64 h] w fun e w' => e = .returned (.tuple #[.pointer none, .int .i64 1]) ∧ w = w' := by
  by_cases a : c < 1
  · have z1 : decide (c < 1) = true := decide_eq_true a
    clear hc
    go_enter Try.func29, Try.ntmps29
    go_wp2
    go_ret2
    exact ⟨rfl, rfl⟩
  · have z1 : decide (c < 1) = false := decide_eq_false a
    by_cases a2 : 1000 < c
    · have z2 : decide (1000 < c) = true := decide_eq_true a2
      clear hc
      go_enter Try.func29, Try.ntmps29
      go_wp2
      go_ret2
      exact ⟨rfl, rfl⟩
    · have z2 : decide (1000 < c) = false := decide_eq_false a2
      have z3 : 1099511627776 < h := by omega
      clear hc
      go_enter Try.func29, Try.ntmps29
      go_wp2
      go_ret2
      exact ⟨rfl, rfl⟩
end
end Go.Proofs.Ytbdhmjlbogjkoaa
