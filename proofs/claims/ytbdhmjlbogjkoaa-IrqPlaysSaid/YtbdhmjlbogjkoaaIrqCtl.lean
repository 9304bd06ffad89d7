/- Layer 13 (irq): a controller in the midst of other memory; one of one line. -/
import Derived.Test.YtbdhmjlbogjkoaaIrqF
import Derived.Test.YtbdhmjlbogjkoaaIrqLaw
namespace Go.Proofs.Ytbdhmjlbogjkoaa
open Go.RowKit
set_option linter.unusedVariables false
set_option linter.unusedSimpArgs false
/-- A controller that stands among the blocks O; all blocks to come are of O. -/
def Ctl (w : World) (O : Nat → Prop) (p : Nat) (ls : List Ln) (now : Int) : Prop := ∃ ds, IsI w p ds ls now ∧ (∀ i, ownI p ds i → O i) ∧ (∀ i, w.heap.size ≤ i → O i)
section
variable {w w' : World} {O F : Nat → Prop} {p : Nat} {ls ls' : List Ln} {now T : Int} {n : Ln} {l : Lp}
theorem Ctl.below (h : Ctl w O p ls now) (o : Below w.heap.size w w') : Ctl w' O p ls now := by
  obtain ⟨ds, h1, h2, h3⟩ := h
  exact ⟨ds, h1.below o, h2, fun i hi => h3 i (Nat.le_trans o.size hi)⟩
theorem Ctl.only (h : Ctl w O p ls now) (o : Only F w w') (hF : ∀ i, F i → ¬ O i) : Ctl w' O p ls now := by
  obtain ⟨ds, h1, h2, h3⟩ := h
  exact ⟨ds, h1.only o (fun i f k => hF i f (h2 i k)), h2, fun i hi => h3 i (Nat.le_trans o.size hi)⟩
theorem Ctl.drewN (h : Ctl w O p ls now) (m : Nat) : Ctl (w.drewN m) O p ls now := by
  obtain ⟨ds, h1, h2, h3⟩ := h
  exact ⟨ds, h1.drewN m, h2, h3⟩
theorem Ctl.drew (h : Ctl w O p ls now) : Ctl w.drew O p ls now := h.drewN 1
theorem Ctl.alloc (h : Ctl w O p ls now) (o : Obj) : Ctl (w.alloc o) O p ls now := h.below ((Below.refl _ _).alloc (Nat.le_refl _) _)
theorem Ctl.of {ds : List Ad} (h1 : IsI w p ds ls now) (h2 : ∀ i, ownI p ds i → O i) (h3 : ∀ i, w.heap.size ≤ i → O i) (a : After w p ds ls' T w') : Ctl w' O p ls' T ∧ Only O w w' := by
  obtain ⟨⟨ds', k1, k2⟩, k3⟩ := a
  exact ⟨⟨ds', k1, fun i hi => (k2 i hi).elim (h2 i) (h3 i), fun i hi => h3 i (Nat.le_trans k3.size hi)⟩, k3.mono fun i _ h => h2 i h⟩
theorem Ctl.made {ls : List Ln} {e : Ending} (h : MadeI w ls e w') : ∃ p, e = .returned (.tuple #[.pointer (some ⟨p, 0, none⟩), .int .i64 0]) ∧ Ctl w' (fun i => w.heap.size ≤ i) p ls 0 ∧ Below w.heap.size w w' := by
  obtain ⟨p, ds, h1, h2, h3, h4⟩ := h
  exact ⟨p, h1, ⟨ds, h2, h3, fun i hi => Nat.le_trans h4.size hi⟩, h4⟩
theorem Ctl.down {base : Nat} (h : Only (fun i => base ≤ i) w w') (hb : base ≤ w.heap.size) : Below base w w' := ⟨h.os, h.tape, h.output, h.size, fun i hi => h.block i (by omega) (by omega)⟩
theorem go_ctl (k : Ctl w O p ls now) {H : Int} (ok : ∀ n ∈ ls, n.ok H) (hH : H ≤ 1000000000) (hne : 0 < ls.length) (T : Int) (h0 : now ≤ T) (hn0 : 0 ≤ T) (h1 : T < 4611686018427387904) :
    Calls Try.prog 13 #[.pointer (some ⟨p, 0, none⟩), .int .u64 T] w fun e w' => e = .returned (.int .i64 0) ∧ Ctl w' O p (ls.map (stepL T)) T ∧ Only O w w' := by
  obtain ⟨ds, k1, k2, k3⟩ := k
  exact (go_okI k1 ok hH hne T h0 hn0 h1).mono fun e w' ⟨a, b⟩ => ⟨a, Ctl.of k1 k2 k3 b⟩
theorem raise_ctl (k : Ctl w O p ls now) {H : Int} (ok : ∀ n ∈ ls, n.ok H) (hH0 : 0 ≤ H) (hH : H ≤ 100000000) (T : Int) (h0 : now ≤ T) (hn0 : 0 ≤ T) (h1 : T < 4611686018427387904) (no : Nat) {n : Ln} (hn : ls[no]? = some n) :
    Calls Try.prog 12 #[.pointer (some ⟨p, 0, none⟩), .int .u64 T, .int .i64 no] w fun e w' => e = .returned (.tuple #[.bool (raiseL T (stepL T n)).1, .int .i64 0]) ∧ Ctl w' O p ((ls.map (stepL T)).set no (raiseL T (stepL T n)).2) T ∧ Only O w w' := by
  obtain ⟨ds, k1, k2, k3⟩ := k
  exact (raise_okI k1 ok hH0 hH T h0 hn0 h1 no hn).mono fun e w' ⟨a, b⟩ => ⟨a, Ctl.of k1 k2 k3 b⟩
theorem ack_ctl (k : Ctl w O p ls now) {H : Int} (ok : ∀ n ∈ ls, n.ok H) (hH0 : 0 ≤ H) (hH : H ≤ 100000000) (T : Int) (h0 : now ≤ T) (hn0 : 0 ≤ T) (h1 : T < 4611686018427387904) (no : Nat) {n : Ln} (hn : ls[no]? = some n) :
    Calls Try.prog 14 #[.pointer (some ⟨p, 0, none⟩), .int .u64 T, .int .i64 no] w fun e w' => e = .returned (.tuple #[.int .i64 (ackL T (stepL T n)).1.1, .int .i64 (ackL T (stepL T n)).1.2]) ∧ Ctl w' O p ((ls.map (stepL T)).set no (ackL T (stepL T n)).2) T ∧ Only O w w' := by
  obtain ⟨ds, k1, k2, k3⟩ := k
  exact (ack_okI k1 ok hH0 hH T h0 hn0 h1 no hn).mono fun e w' ⟨a, b⟩ => ⟨a, Ctl.of k1 k2 k3 b⟩
theorem mask_ctl (k : Ctl w O p ls now) {H : Int} (ok : ∀ n ∈ ls, n.ok H) (hH0 : 0 ≤ H) (hH : H ≤ 100000000) (T : Int) (h0 : now ≤ T) (hn0 : 0 ≤ T) (h1 : T < 4611686018427387904) (no : Nat) {n : Ln} (hn : ls[no]? = some n) (on : Bool) :
    Calls Try.prog 23 #[.pointer (some ⟨p, 0, none⟩), .int .u64 T, .int .i64 no, .bool on] w fun e w' => e = .returned (.int .i64 0) ∧ Ctl w' O p ((ls.map (stepL T)).set no (maskL T on (stepL T n))) T ∧ Only O w w' := by
  obtain ⟨ds, k1, k2, k3⟩ := k
  exact (mask_okI k1 ok hH0 hH T h0 hn0 h1 no hn on).mono fun e w' ⟨a, b⟩ => ⟨a, Ctl.of k1 k2 k3 b⟩
theorem state_ctl (k : Ctl w O p ls now) (no : Nat) {n : Ln} (hn : ls[no]? = some n) :
    Calls Try.prog 15 #[.pointer (some ⟨p, 0, none⟩), .int .i64 no] w fun e w' => e = .returned (.tuple #[.int .i64 n.held, .int .i64 n.pends, .bool n.masked]) ∧ Ctl w' O p ls now ∧ Below w.heap.size w w' := by
  have kk := k
  obtain ⟨ds, k1, k2, k3⟩ := k
  exact (state_any k1 no hn).mono fun e w' ⟨a, b⟩ => ⟨a, kk.below b, b⟩
theorem pending_ctl (k : Ctl w O p ls now) :
    Calls Try.prog 25 #[.pointer (some ⟨p, 0, none⟩)] w fun e w' => e = .returned (.tuple #[.int .i64 (pendQ ls 0).1, .int .i64 (pendQ ls 0).2.1, .bool (pendQ ls 0).2.2]) ∧ Ctl w' O p ls now ∧ Below w.heap.size w w' := by
  have kk := k
  obtain ⟨ds, k1, k2, k3⟩ := k
  exact (pending_any k1).mono fun e w' ⟨a, b⟩ => ⟨a, kk.below b, b⟩
theorem ok_one {H : Int} (h : n.ok H) : ∀ m ∈ [n], m.ok H := fun m hm => by simp at hm; subst hm; exact h
/-- A line of a controller's only one: it goes, is raised, acknowledged, masked. -/
theorem go_one (k : Ctl w O p [n] now) {H : Int} (ok : n.ok H) (hH : H ≤ 1000000000) (T : Int) (h0 : now ≤ T) (hn0 : 0 ≤ T) (h1 : T < 4611686018427387904) :
    Calls Try.prog 13 #[.pointer (some ⟨p, 0, none⟩), .int .u64 T] w fun e w' => e = .returned (.int .i64 0) ∧ Ctl w' O p [stepL T n] T ∧ Only O w w' :=
  go_ctl k (ok_one ok) hH (by simp) T h0 hn0 h1
theorem raise_one (k : Ctl w O p [n] now) {H : Int} (ok : n.ok H) (hH0 : 0 ≤ H) (hH : H ≤ 100000000) (T : Int) (h0 : now ≤ T) (hn0 : 0 ≤ T) (h1 : T < 4611686018427387904) :
    Calls Try.prog 12 #[.pointer (some ⟨p, 0, none⟩), .int .u64 T, .int .i64 0] w fun e w' => e = .returned (.tuple #[.bool (raiseL T (stepL T n)).1, .int .i64 0]) ∧ Ctl w' O p [(raiseL T (stepL T n)).2] T ∧ Only O w w' :=
  raise_ctl k (ok_one ok) hH0 hH T h0 hn0 h1 0 rfl
theorem ack_one (k : Ctl w O p [n] now) {H : Int} (ok : n.ok H) (hH0 : 0 ≤ H) (hH : H ≤ 100000000) (T : Int) (h0 : now ≤ T) (hn0 : 0 ≤ T) (h1 : T < 4611686018427387904) :
    Calls Try.prog 14 #[.pointer (some ⟨p, 0, none⟩), .int .u64 T, .int .i64 0] w fun e w' => e = .returned (.tuple #[.int .i64 (ackL T (stepL T n)).1.1, .int .i64 (ackL T (stepL T n)).1.2]) ∧ Ctl w' O p [(ackL T (stepL T n)).2] T ∧ Only O w w' :=
  ack_ctl k (ok_one ok) hH0 hH T h0 hn0 h1 0 rfl
theorem mask_one (k : Ctl w O p [n] now) {H : Int} (ok : n.ok H) (hH0 : 0 ≤ H) (hH : H ≤ 100000000) (T : Int) (h0 : now ≤ T) (hn0 : 0 ≤ T) (h1 : T < 4611686018427387904) (on : Bool) :
    Calls Try.prog 23 #[.pointer (some ⟨p, 0, none⟩), .int .u64 T, .int .i64 0, .bool on] w fun e w' => e = .returned (.int .i64 0) ∧ Ctl w' O p [maskL T on (stepL T n)] T ∧ Only O w w' :=
  mask_ctl k (ok_one ok) hH0 hH T h0 hn0 h1 0 rfl on
theorem state_one (k : Ctl w O p [n] now) :
    Calls Try.prog 15 #[.pointer (some ⟨p, 0, none⟩), .int .i64 0] w fun e w' => e = .returned (.tuple #[.int .i64 n.held, .int .i64 n.pends, .bool n.masked]) ∧ Ctl w' O p [n] now ∧ Below w.heap.size w w' := state_ctl k 0 rfl
theorem pending_one (k : Ctl w O p [n] now) {x y : Int} {b : Bool} (h : pendQ [n] 0 = (x, y, b)) :
    Calls Try.prog 25 #[.pointer (some ⟨p, 0, none⟩)] w fun e w' => e = .returned (.tuple #[.int .i64 x, .int .i64 y, .bool b]) ∧ Ctl w' O p [n] now ∧ Below w.heap.size w w' := by
  have := pending_ctl k
  rw [h] at this
  exact this
theorem raise_is (k : Ctl w O p [n] now) {H : Int} (ok : n.ok H) (hH0 : 0 ≤ H) (hH : H ≤ 100000000) (T : Int) (h0 : now ≤ T) (hn0 : 0 ≤ T) (h1 : T < 4611686018427387904) {b : Bool} {m : Ln} (h : raiseL T (stepL T n) = (b, m)) :
    Calls Try.prog 12 #[.pointer (some ⟨p, 0, none⟩), .int .u64 T, .int .i64 0] w fun e w' => e = .returned (.tuple #[.bool b, .int .i64 0]) ∧ Ctl w' O p [m] T ∧ Only O w w' := by
  have := raise_one k ok hH0 hH T h0 hn0 h1
  rw [h] at this
  exact this
theorem ack_is (k : Ctl w O p [n] now) {H : Int} (ok : n.ok H) (hH0 : 0 ≤ H) (hH : H ≤ 100000000) (T : Int) (h0 : now ≤ T) (hn0 : 0 ≤ T) (h1 : T < 4611686018427387904) {x y : Int} {m : Ln} (h : ackL T (stepL T n) = ((x, y), m)) :
    Calls Try.prog 14 #[.pointer (some ⟨p, 0, none⟩), .int .u64 T, .int .i64 0] w fun e w' => e = .returned (.tuple #[.int .i64 x, .int .i64 y]) ∧ Ctl w' O p [m] T ∧ Only O w w' := by
  have := ack_one k ok hH0 hH T h0 hn0 h1
  rw [h] at this
  exact this
end
end Go.Proofs.Ytbdhmjlbogjkoaa
