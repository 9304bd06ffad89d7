/- Layer 13 (irq): a line in memory; what is delivered, what is a storm. -/
import Derived.Test.YtbdhmjlbogjkoaaCoal
import Derived.Test.YtbdhmjlbogjkoaaBucket
import Derived.Test.YtbdhmjlbogjkoaaSlc
import Derived.Deep.QuietTactic
import Derived.BigQuiet
import Derived.StillTailTactics
import Derived.Deep.RegionLaw
import Derived.BigRegion
import Derived.Deep.RegionWith
namespace Go.Proofs.Ytbdhmjlbogjkoaa
open Go.RowKit
set_option linter.unusedVariables false
set_option linter.unusedSimpArgs false
/-- A line's rule: count, hold, depth, every, storm, span. -/
structure Lp where
  c : Int
  h : Int
  d : Int
  q : Int
  s : Int
  z : Int
/-- A line, and how it stands. -/
structure Ln where
  l : Lp
  g : Gs
  k : Bk
  held : Int
  pends : Int
  masked : Bool
  win : Int
  raises : Int
/-- Where it lies: its block, its gatherer's, its bucket's. -/
structure Ad where
  x : Nat
  g : Nat
  k : Nat
def Ad.own (a : Ad) (i : Nat) : Prop := i = a.x ∨ i = a.g ∨ i = a.k
def lnCells (a : Ad) (n : Ln) : List Value := [.int .i64 n.l.c, .int .u64 n.l.h, .int .i64 n.l.d, .int .u64 n.l.q, .int .i64 n.l.s, .int .u64 n.l.z, .pointer (some ⟨a.g, 0, none⟩), .pointer (some ⟨a.k, 0, none⟩), .int .i64 n.held, .int .i64 n.pends, .bool n.masked, .int .u64 n.win, .int .i64 n.raises]
structure IsL (w : World) (a : Ad) (n : Ln) : Prop where
  x : Blk w a.x 74 (lnCells a n)
  g : IsG w a.g n.g
  k : IsK w a.k n.k
structure Lp.ok (l : Lp) : Prop where
  c0 : 1 ≤ l.c
  c1 : l.c ≤ 1000
  h0 : 0 ≤ l.h
  h1 : l.h ≤ 1099511627776
  d : mayK l.d l.q = true
  s0 : 1 ≤ l.s
  s1 : l.s ≤ 10000
  z0 : 1 ≤ l.z
  z1 : l.z ≤ 1099511627776
structure Ln.ok (H : Int) (n : Ln) : Prop where
  l : n.l.ok
  g : n.g.ok
  k : n.k.ok
  e0 : 0 ≤ n.held
  e1 : n.held ≤ H
  p0 : 0 ≤ n.pends
  p1 : n.pends ≤ H
  w0 : 0 ≤ n.win
  w1 : n.win ≤ 18446744073709551615
  r0 : 0 ≤ n.raises
  r1 : n.raises ≤ H
theorem Ln.ok.mono {H H' : Int} {n : Ln} (o : n.ok H) (h : H ≤ H') : n.ok H' := ⟨o.l, o.g, o.k, o.e0, by have := o.e1; omega, o.p0, by have := o.p1; omega, o.w0, o.w1, o.r0, by have := o.r1; omega⟩
def deliverL (T : Int) (n : Ln) : Ln :=
  if n.masked = true ∨ 0 < n.pends ∨ n.held = 0 then n else if (takeK T n.k).1.1 = true then { n with k := (takeK T n.k).2, pends := n.held, held := 0 } else { n with k := (takeK T n.k).2 }
def stepL (T : Int) (n : Ln) : Ln := deliverL T { n with g := (goF T n.g).2, held := n.held + (goF T n.g).1.1 }
def countL (T : Int) (n : Ln) : Ln := if T / n.l.z = n.win then { n with raises := n.raises + 1 } else { n with win := T / n.l.z, raises := 1 }
def raiseL (T : Int) (n : Ln) : Bool × Ln :=
  if n.masked = true then (false, n) else if n.l.s < (countL T n).raises then (true, { countL T n with masked := true, g := ⟨n.l.c, n.l.h, 0, 0, 0⟩ }) else
    (false, deliverL T { countL T n with g := (raiseF T n.g).2, held := n.held + (raiseF T n.g).1.1 })
def ackL (T : Int) (n : Ln) : (Int × Int) × Ln := if n.masked = true ∨ n.pends = 0 then ((0, 12), n) else ((n.pends, 0), deliverL T { n with pends := 0 })
def maskL (T : Int) (on : Bool) (n : Ln) : Ln := deliverL T { n with masked := on }
theorem goF_bd {g : Gs} (ok : g.ok) (T : Int) (h : 0 ≤ T) : 0 ≤ (goF T g).1.1 ∧ (goF T g).1.1 ≤ 1000 ∧ (goF T g).2.ok := by
  unfold goF
  split
  · exact ⟨by simp, by simp, ok⟩
  · split
    · exact ⟨by simp, by simp, ok⟩
    · rename_i h1 h2
      have o : Gs.ok { g with t := T } := ⟨ok.c0, ok.c1, ok.h0, ok.h1, ok.n0, ok.n1, ok.f0, ok.f1, h, by simp only; omega⟩
      exact ⟨(lateF_bd o).1, (lateF_bd o).2, lateF_ok o⟩
theorem raiseF_bd {g : Gs} (ok : g.ok) (T : Int) (h : 0 ≤ T) : 0 ≤ (raiseF T g).1.1 ∧ (raiseF T g).1.1 ≤ 2000 ∧ (raiseF T g).2.ok := by
  unfold raiseF
  split
  · exact ⟨by simp, by simp, ok⟩
  · split
    · exact ⟨by simp, by simp, ok⟩
    · rename_i h1 h2
      have o : Gs.ok { g with t := T } := ⟨ok.c0, ok.c1, ok.h0, ok.h1, ok.n0, ok.n1, ok.f0, ok.f1, h, by simp only; omega⟩
      have o2 := lateF_ok o
      have b1 := lateF_bd o
      have b2 := doF_bd o2 T
      exact ⟨by simp only; omega, by simp only; omega, doF_ok o2 T h (by omega)⟩
theorem deliverL_ok {n : Ln} {H : Int} (ok : n.ok H) (T : Int) (h : 0 ≤ T) : (deliverL T n).ok H := by
  obtain ⟨l, g, k, e0, e1, p0, p1, w0, w1, r0, r1⟩ := ok
  have k' := takeK_ok k T h
  unfold deliverL
  split
  · exact ⟨l, g, k, e0, e1, p0, p1, w0, w1, r0, r1⟩
  · split
    · exact ⟨l, g, k', by simp, by simp only; omega, e0, e1, w0, w1, r0, r1⟩
    · exact ⟨l, g, k', e0, e1, p0, p1, w0, w1, r0, r1⟩
theorem stepL_ok {n : Ln} {H : Int} (ok : n.ok H) (T : Int) (h : 0 ≤ T) : (stepL T n).ok (H + 1000) := by
  obtain ⟨l, g, k, e0, e1, p0, p1, w0, w1, r0, r1⟩ := ok
  have b := goF_bd g T h
  exact deliverL_ok (n := { n with g := (goF T n.g).2, held := n.held + (goF T n.g).1.1 }) ⟨l, b.2.2, k, by simp only; omega, by simp only; omega, p0, by simp only; omega, w0, w1, r0, by simp only; omega⟩ T h
theorem countL_ok {n : Ln} {H : Int} (ok : n.ok H) (hH : 0 ≤ H) (T : Int) (h : 0 ≤ T) (h' : T < 4611686018427387904) : (countL T n).ok (H + 1) := by
  obtain ⟨l, g, k, e0, e1, p0, p1, w0, w1, r0, r1⟩ := ok
  have z0 := l.z0
  unfold countL
  split
  · exact ⟨l, g, k, e0, by simp only; omega, p0, by simp only; omega, w0, w1, by simp only; omega, by simp only; omega⟩
  · have := mul_div_le T n.l.z h (by omega)
    exact ⟨l, g, k, e0, by simp only; omega, p0, by simp only; omega, by simp only; omega, by simp only; omega, by simp only; omega, by simp only; omega⟩
theorem countL_fix (T : Int) (n : Ln) : (countL T n).l = n.l ∧ (countL T n).g = n.g ∧ (countL T n).k = n.k ∧ (countL T n).held = n.held ∧ (countL T n).pends = n.pends ∧ (countL T n).masked = n.masked := by
  unfold countL; split <;> exact ⟨rfl, rfl, rfl, rfl, rfl, rfl⟩
section
variable {w w' : World} {a : Ad} {n : Ln} {F : Nat → Prop}
theorem IsL.lt (h : IsL w a n) : a.x < w.heap.size ∧ a.g < w.heap.size ∧ a.k < w.heap.size := ⟨h.x.lt, Blk.lt h.g, Blk.lt h.k⟩
theorem IsL.only (h : IsL w a n) (o : Only F w w') (hF : ∀ i, a.own i → ¬ F i) : IsL w' a n := ⟨h.x.only o (hF _ (.inl rfl)), Blk.only h.g o (hF _ (.inr (.inl rfl))), Blk.only h.k o (hF _ (.inr (.inr rfl)))⟩
theorem IsL.below (h : IsL w a n) (o : Below w.heap.size w w') : IsL w' a n := ⟨h.x.below o h.x.lt, Blk.below h.g o (Blk.lt h.g), Blk.below h.k o (Blk.lt h.k)⟩
theorem IsL.drewN (h : IsL w a n) (m : Nat) : IsL (w.drewN m) a n := ⟨h.x, h.g, h.k⟩
theorem IsL.alloc (h : IsL w a n) (o : Obj) : IsL (w.alloc o) a n := h.below ((Below.refl _ _).alloc (Nat.le_refl _) _)
theorem IsL.ne (h : IsL w a n) : a.x ≠ a.g ∧ a.x ≠ a.k ∧ a.g ≠ a.k := ⟨h.x.ne h.g (by decide), h.x.ne h.k (by decide), Blk.ne h.g h.k (by decide)⟩
/-- What a line's block holds, cell by cell. -/
theorem IsL.cells (h : IsL w a n) : w.cell? ⟨a.x, 0, none⟩ = some (.int .i64 n.l.c) ∧ w.cell? ⟨a.x, 1, none⟩ = some (.int .u64 n.l.h) ∧ w.cell? ⟨a.x, 2, none⟩ = some (.int .i64 n.l.d) ∧ w.cell? ⟨a.x, 3, none⟩ = some (.int .u64 n.l.q) ∧ w.cell? ⟨a.x, 4, none⟩ = some (.int .i64 n.l.s) ∧ w.cell? ⟨a.x, 5, none⟩ = some (.int .u64 n.l.z) ∧ w.cell? ⟨a.x, 6, none⟩ = some (.pointer (some ⟨a.g, 0, none⟩)) ∧ w.cell? ⟨a.x, 7, none⟩ = some (.pointer (some ⟨a.k, 0, none⟩)) ∧ w.cell? ⟨a.x, 8, none⟩ = some (.int .i64 n.held) ∧ w.cell? ⟨a.x, 9, none⟩ = some (.int .i64 n.pends) ∧ w.cell? ⟨a.x, 10, none⟩ = some (.bool n.masked) ∧ w.cell? ⟨a.x, 11, none⟩ = some (.int .u64 n.win) ∧ w.cell? ⟨a.x, 12, none⟩ = some (.int .i64 n.raises) :=
  ⟨h.x.cell 0, h.x.cell 1, h.x.cell 2, h.x.cell 3, h.x.cell 4, h.x.cell 5, h.x.cell 6, h.x.cell 7, h.x.cell 8, h.x.cell 9, h.x.cell 10, h.x.cell 11, h.x.cell 12⟩
set_option maxHeartbeats 2000000 in
theorem deliver_any {H : Int} (k : IsL w a n) (ok : n.ok H) (T : Int) (h0 : 0 ≤ T) (h1 : T ≤ 18446744073709551615) :
    Calls Try.prog 35 #[.pointer (some ⟨a.x, 0, none⟩), .int .u64 T] w fun e w' => e = .returned (.tuple #[]) ∧ IsL w' a (deliverL T n) ∧ Only a.own w w' := by
  obtain ⟨q0, q1, q2, q3, q4, q5, q6, q7, q8, q9, q10, q11, q12⟩ := k.cells
  obtain ⟨n1, n2, n3⟩ := k.ne
  have K := Lib.hid k
  have l8 : w.frozen? ⟨a.x, 8, none⟩ = false := k.x.free 8
  have l9 : w.frozen? ⟨a.x, 9, none⟩ = false := k.x.free 9
  have c := takek_any k.k ok.k T h0 h1
  obtain ⟨-, -, -, e0, e1, p0, p1, -, -, -, -⟩ := ok
  unfold deliverL
  by_cases hm : n.masked = true
  · rw [if_pos (.inl hm)]
    rw [hm] at q10
    clear c k hm
    go_enter Try.func35, Try.ntmps35
    go_wp2_with fail
    refine bodyPost_ret (results_none rfl _ _ _) rfl ?_
    exact ⟨rfl, K.out, Only.refl _ _⟩
  · have hm2 : n.masked = false := by simpa using hm
    rw [hm2] at q10
    by_cases z1 : 0 < n.pends
    · rw [if_pos (.inr (.inl z1))]
      have d1 : decide (0 < n.pends) = true := decide_eq_true z1
      clear c k hm
      go_enter Try.func35, Try.ntmps35
      go_wp2_with fail
      refine bodyPost_ret (results_none rfl _ _ _) rfl ?_
      exact ⟨rfl, K.out, Only.refl _ _⟩
    · have d1 : decide (0 < n.pends) = false := decide_eq_false z1
      by_cases z2 : n.held = 0
      · rw [if_pos (.inr (.inr z2))]
        have d2 : (n.held == 0) = true := beq_iff_eq.2 z2
        clear c k hm
        go_enter Try.func35, Try.ntmps35
        go_wp2_with fail
        refine bodyPost_ret (results_none rfl _ _ _) rfl ?_
        exact ⟨rfl, K.out, Only.refl _ _⟩
      · have d2 : (n.held == 0) = false := beq_eq_false_iff_ne.2 z2
        rw [if_neg (by rintro (h | h | h); exact hm h; exact z1 h; exact z2 h)]
        cases ht : (takeK T n.k).1.1 with
        | true =>
          rw [ht] at c
          rw [if_pos rfl]
          generalize (takeK T n.k).1.2 = e2 at *
          generalize (takeK T n.k).2 = k2 at *
          have C := Lib.hid c
          clear c k ht hm
          go_enter Try.func35, Try.ntmps35
          go_wp2_with (first
            | (go_at_call 49; (with_reducible refine Calls.mono C.out ?_); rintro e w1 ⟨rfl, kk1, o1⟩
               have kx := K.out.x.only o1 n2
               have gx := Blk.only K.out.g o1 n3
               have r8 : w1.cell? ⟨a.x, 8, none⟩ = some (.int .i64 n.held) := kx.cell 8
               have r9 : w1.cell? ⟨a.x, 9, none⟩ = some (.int .i64 n.pends) := kx.cell 9
               have m8 : w1.frozen? ⟨a.x, 8, none⟩ = false := kx.free 8
               have m9 : w1.frozen? ⟨a.x, 9, none⟩ = false := kx.free 9
               have KX := Lib.hid kx
               have GX := Lib.hid gx
               have KK := Lib.hid kk1
               have O1 := Lib.hid o1
               clear kx gx kk1 o1))
          refine bodyPost_end (results_none rfl _ _ _) rfl ?_
          refine ⟨rfl, ⟨(KX.out.put 9 _).put 8 _, Blk.far (Blk.far GX.out (fun e => n1 e.symm) _) (fun e => n1 e.symm) _, Blk.far (Blk.far KK.out (fun e => n2 e.symm) _) (fun e => n2 e.symm) _⟩, ?_⟩
          exact Only.setCell (Only.setCell (O1.out.mono fun i _ e => .inr (.inr e)) (p := ⟨a.x, 9, none⟩) (fun _ => .inl rfl) _) (p := ⟨a.x, 8, none⟩) (fun _ => .inl rfl) _
        | false =>
          rw [ht] at c
          rw [if_neg (by simp)]
          generalize (takeK T n.k).1.2 = e2 at *
          generalize (takeK T n.k).2 = k2 at *
          have C := Lib.hid c
          clear c k ht hm
          go_enter Try.func35, Try.ntmps35
          go_wp2_with (first
            | (go_at_call 49; (with_reducible refine Calls.mono C.out ?_); rintro e w1 ⟨rfl, kk1, o1⟩
               have kx := K.out.x.only o1 n2
               have gx := Blk.only K.out.g o1 n3
               have KX := Lib.hid kx
               have GX := Lib.hid gx
               have KK := Lib.hid kk1
               have O1 := Lib.hid o1
               clear kx gx kk1 o1))
          refine bodyPost_end (results_none rfl _ _ _) rfl ?_
          exact ⟨rfl, ⟨KX.out, GX.out, KK.out⟩, O1.out.mono fun i _ e => .inr (.inr e)⟩
set_option maxHeartbeats 2000000 in
theorem storm_any {H : Int} (k : IsL w a n) (ok : n.ok H) (hH : H ≤ 1000000000000) (T : Int) (h0 : 0 ≤ T) (h1 : T ≤ 18446744073709551615) :
    Calls Try.prog 33 #[.pointer (some ⟨a.x, 0, none⟩), .int .u64 T] w fun e w' => e = .returned (.bool (decide (n.l.s < (countL T n).raises))) ∧ IsL w' a (countL T n) ∧ Only a.own w w' := by
  obtain ⟨q0, q1, q2, q3, q4, q5, q6, q7, q8, q9, q10, q11, q12⟩ := k.cells
  obtain ⟨n1, n2, n3⟩ := k.ne
  have K := Lib.hid k
  have l11 : w.frozen? ⟨a.x, 11, none⟩ = false := k.x.free 11
  have l12 : w.frozen? ⟨a.x, 12, none⟩ = false := k.x.free 12
  obtain ⟨l, -, -, e0, e1, p0, p1, w0, w1, r0, r1⟩ := ok
  have z0 := l.z0
  have z1 := l.z1
  have b := mul_div_le T n.l.z h0 (by omega)
  unfold countL
  by_cases hw : T / n.l.z = n.win
  · rw [if_pos hw]
    have d1 : (T / n.l.z == n.win) = true := beq_iff_eq.2 hw
    clear k l
    go_enter Try.func33, Try.ntmps33
    go_wp2_with fail
    go_quiet (fail)
    go_wp2_with fail
    go_ret
    refine ⟨rfl, ⟨K.out.x.put 12 _, Blk.far K.out.g (fun e => n1 e.symm) _, Blk.far K.out.k (fun e => n2 e.symm) _⟩, ?_⟩
    exact (Only.setCell (F := a.own) (Only.refl _ w) (p := ⟨a.x, 12, none⟩) (fun _ => .inl rfl) _).drewN _
  · rw [if_neg hw]
    have d1 : (T / n.l.z == n.win) = false := beq_eq_false_iff_ne.2 hw
    have kk := ((k.x.put 11 (.int .u64 (T / n.l.z))).put 12 (.int .i64 0)).put 12 (.int .i64 1)
    have c12 : (((w.setCell ⟨a.x, 11, none⟩ (.int .u64 (T / n.l.z))).setCell ⟨a.x, 12, none⟩ (.int .i64 0)).setCell ⟨a.x, 12, none⟩ (.int .i64 1)).cell? ⟨a.x, 12, none⟩ = some (.int .i64 1) := kk.cell 12
    have c4 : (((w.setCell ⟨a.x, 11, none⟩ (.int .u64 (T / n.l.z))).setCell ⟨a.x, 12, none⟩ (.int .i64 0)).setCell ⟨a.x, 12, none⟩ (.int .i64 1)).cell? ⟨a.x, 4, none⟩ = some (.int .i64 n.l.s) := kk.cell 4
    clear k l kk
    go_enter Try.func33, Try.ntmps33
    go_wp2_with fail
    go_quiet (fail)
    go_wp2_with fail
    go_ret
    refine ⟨rfl, ⟨((K.out.x.put 11 _).put 12 _).put 12 _, Blk.far (Blk.far (Blk.far K.out.g (fun e => n1 e.symm) _) (fun e => n1 e.symm) _) (fun e => n1 e.symm) _, Blk.far (Blk.far (Blk.far K.out.k (fun e => n2 e.symm) _) (fun e => n2 e.symm) _) (fun e => n2 e.symm) _⟩, ?_⟩
    exact (Only.setCell (F := a.own) (Only.setCell (F := a.own) (Only.setCell (F := a.own) (Only.refl _ w) (p := ⟨a.x, 11, none⟩) (fun _ => .inl rfl) _) (p := ⟨a.x, 12, none⟩) (fun _ => .inl rfl) _) (p := ⟨a.x, 12, none⟩) (fun _ => .inl rfl) _).drewN _
end
end Go.Proofs.Ytbdhmjlbogjkoaa
