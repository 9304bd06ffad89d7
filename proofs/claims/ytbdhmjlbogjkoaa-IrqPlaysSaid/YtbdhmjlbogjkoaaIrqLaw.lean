/- Layer 13 (irq): what a line does as the time goes on: plain laws, with no program in sight. -/
import Derived.Test.YtbdhmjlbogjkoaaIrqE
namespace Go.Proofs.Ytbdhmjlbogjkoaa
open Go.RowKit
set_option linter.unusedVariables false
set_option linter.unusedSimpArgs false
/-- Raises that were neither lost nor acknowledged. -/
def total (n : Ln) : Int := n.g.n + n.held + n.pends
def pb (n : Ln) : Int := if 0 < n.pends then 1 else 0
/-- A bound of what is delivered from T on, in the bucket's own measure. -/
def pot (T : Int) (n : Ln) : Int := pb n + min (n.k.d - T / n.k.q) (n.k.k - n.k.r)
def Settled (T : Int) (n : Ln) : Prop := n.masked = true ∨ 0 < n.pends ∨ n.held = 0 ∨ (n.k.k = 0 ∧ n.k.t = T)
structure Cur (l : Lp) (N : Int) (n : Ln) : Prop where
  hl : n.l = l
  lok : l.ok
  hg : n.g.ok
  gc : n.g.c = l.c
  gh : n.g.h = l.h
  gt : n.g.t ≤ N
  hk : n.k.ok
  kd : n.k.d = l.d
  kq : n.k.q = l.q
  kt : n.k.t ≤ N
  e0 : 0 ≤ n.held
  p0 : 0 ≤ n.pends
  w0 : 0 ≤ n.win
  w1 : n.win ≤ N / l.z
  r0 : 0 ≤ n.raises
theorem k_round {s : Bk} {T : Int} (h1 : T < 4611686018427387904) (h2 : s.t ≤ T) :
    takeK T s = if s.k + min (T / s.q - s.r) (s.d - s.k) = 0 then ((false, 0), { s with k := 0, r := T / s.q, t := T }) else ((true, 0), { s with k := s.k + min (T / s.q - s.r) (s.d - s.k) - 1, r := T / s.q, t := T }) := by
  have e : onK T s = (0, { s with k := s.k + min (T / s.q - s.r) (s.d - s.k), r := T / s.q, t := T }) := by unfold onK; rw [if_neg (by omega), if_neg (by omega)]
  have e2 : hasK T s = ((s.k + min (T / s.q - s.r) (s.d - s.k), 0), { s with k := s.k + min (T / s.q - s.r) (s.d - s.k), r := T / s.q, t := T }) := by unfold hasK; rw [e]; rfl
  unfold takeK; rw [e2]
  split
  · rename_i h; simp only at h; simp only [h]
  · rfl
theorem takeK_cur {s : Bk} (ok : s.ok) {T : Int} (h : s.t ≤ T) (h0 : 0 ≤ T) (h1 : T < 4611686018427387904) :
    (takeK T s).2.ok ∧ (takeK T s).2.d = s.d ∧ (takeK T s).2.q = s.q ∧ (takeK T s).2.t = T ∧ (takeK T s).2.r = T / s.q ∧ (takeK T s).2.k - (takeK T s).2.r + (if (takeK T s).1.1 = true then 1 else 0) ≤ min (s.d - T / s.q) (s.k - s.r) ∧ ((takeK T s).1.1 = false → (takeK T s).2.k = 0) ∧ s.k - (if (takeK T s).1.1 = true then 1 else 0) ≤ (takeK T s).2.k := by
  have o := takeK_ok ok T h0
  have hk := ok.k1
  have hk0 := ok.k0
  have hr := ok.round h
  rw [k_round h1 h] at *
  split at o
  · rename_i c
    rw [if_pos c]
    exact ⟨o, rfl, rfl, rfl, rfl, by simp; omega, fun _ => rfl, by simp; omega⟩
  · rename_i c
    rw [if_neg c]
    exact ⟨o, rfl, rfl, rfl, rfl, by simp; omega, (fun h => by cases h), by simp; omega⟩
theorem goF_cur {g : Gs} (ok : g.ok) {T : Int} (h : g.t ≤ T) (h0 : 0 ≤ T) (h1 : T < 4611686018427387904) :
    (goF T g).2.ok ∧ (goF T g).2.c = g.c ∧ (goF T g).2.h = g.h ∧ (goF T g).2.t = T ∧ (goF T g).1.1 + (goF T g).2.n = g.n ∧ 0 ≤ (goF T g).1.1 := by
  have o := (goF_bd ok T h0)
  have e : goF T g = (((lateF { g with t := T }).1, 0), (lateF { g with t := T }).2) := by unfold goF; rw [if_neg (by omega), if_neg (by omega)]
  refine ⟨o.2.2, ?_⟩
  rw [e] at *
  have := ok.n0
  unfold lateF
  split <;> simp <;> omega
theorem raiseF_cur {g : Gs} (ok : g.ok) {T : Int} (h : g.t ≤ T) (h0 : 0 ≤ T) (h1 : T < 4611686018427387904) :
    (raiseF T g).2.ok ∧ (raiseF T g).2.c = g.c ∧ (raiseF T g).2.h = g.h ∧ (raiseF T g).2.t = T ∧ (raiseF T g).1.1 + (raiseF T g).2.n = g.n + 1 ∧ 0 ≤ (raiseF T g).1.1 := by
  have o := (raiseF_bd ok T h0)
  have e : raiseF T g = (((lateF { g with t := T }).1 + (doF T (lateF { g with t := T }).2).1, 0), (doF T (lateF { g with t := T }).2).2) := by unfold raiseF; rw [if_neg (by omega), if_neg (by omega)]
  refine ⟨o.2.2, ?_⟩
  have o2 := o.1
  rw [e] at *
  refine ⟨?_, ?_, ?_, ?_, o2⟩
  all_goals
    have := ok.n0
    unfold doF lateF
    split <;> split <;> simp <;> omega
theorem deliverL_fix (T : Int) (n : Ln) : (deliverL T n).l = n.l ∧ (deliverL T n).g = n.g ∧ (deliverL T n).masked = n.masked ∧ (deliverL T n).win = n.win ∧ (deliverL T n).raises = n.raises := by
  unfold deliverL
  split
  · exact ⟨rfl, rfl, rfl, rfl, rfl⟩
  · split <;> exact ⟨rfl, rfl, rfl, rfl, rfl⟩
section
variable {l : Lp} {N T : Int} {n : Ln}
theorem Cur.later (c : Cur l N n) (h0 : 0 ≤ N) (h : N ≤ T) : Cur l T n ∧ pot T n ≤ pot N n := by
  obtain ⟨a1, a2, a3, a4, a5, a6, a7, a8, a9, a10, a11, a12, a13, a14, a15⟩ := c
  have z0 := a2.z0
  have q0 := a7.q0
  have h3 : N / l.z ≤ T / l.z := Int.ediv_le_ediv (by omega) h
  have h4 : N / n.k.q ≤ T / n.k.q := Int.ediv_le_ediv (by omega) h
  exact ⟨⟨a1, a2, a3, a4, a5, by omega, a7, a8, a9, by omega, a11, a12, a13, by omega, a15⟩, by unfold pot; omega⟩
theorem Cur.deliver (c : Cur l N n) (h0 : 0 ≤ N) (h1 : N < 4611686018427387904) :
    Cur l N (deliverL N n) ∧ (deliverL N n).held + (deliverL N n).pends = n.held + n.pends ∧ pot N (deliverL N n) ≤ pot N n ∧ Settled N (deliverL N n) := by
  obtain ⟨a1, a2, a3, a4, a5, a6, a7, a8, a9, a10, a11, a12, a13, a14, a15⟩ := c
  obtain ⟨t1, t2, t3, t4, t5, t6, t7, -⟩ := takeK_cur a7 a10 h0 h1
  unfold deliverL
  split
  · rename_i hc
    exact ⟨⟨a1, a2, a3, a4, a5, a6, a7, a8, a9, a10, a11, a12, a13, a14, a15⟩, rfl, Int.le_refl _, hc.elim .inl (fun h => .inr (h.elim .inl (fun h => .inr (.inl h))))⟩
  · rename_i hc
    have hp : ¬ 0 < n.pends := fun h => hc (.inr (.inl h))
    have hh : ¬ n.held = 0 := fun h => hc (.inr (.inr h))
    split
    · rename_i ht
      rw [if_pos ht] at t6
      refine ⟨⟨a1, a2, a3, a4, a5, a6, t1, t2.trans a8, t3.trans a9, by simp only; omega, by simp, a11, a13, a14, a15⟩, by simp; omega, ?_, .inr (.inl (by simp only; omega))⟩
      unfold pot pb
      rw [if_neg hp, if_pos (by simp only; omega)]
      simp only [t2, t3]
      omega
    · rename_i ht
      rw [if_neg ht] at t6
      refine ⟨⟨a1, a2, a3, a4, a5, a6, t1, t2.trans a8, t3.trans a9, by simp only; omega, a11, a12, a13, a14, a15⟩, rfl, ?_, .inr (.inr (.inr ⟨t7 (by simpa using ht), t4⟩))⟩
      unfold pot pb
      rw [if_neg hp]
      simp only [t2, t3]
      omega
/-- The time goes on. -/
theorem Cur.step (c : Cur l N n) (h0 : 0 ≤ N) (h : N ≤ T) (h1 : T < 4611686018427387904) :
    Cur l T (stepL T n) ∧ total (stepL T n) = total n ∧ pot T (stepL T n) ≤ pot N n ∧ Settled T (stepL T n) ∧ (stepL T n).masked = n.masked ∧ (stepL T n).win = n.win ∧ (stepL T n).raises = n.raises := by
  obtain ⟨c1, c2⟩ := c.later h0 h
  obtain ⟨a1, a2, a3, a4, a5, a6, a7, a8, a9, a10, a11, a12, a13, a14, a15⟩ := c1
  obtain ⟨g1, g2, g3, g4, g5, g6⟩ := goF_cur a3 a6 (by omega) h1
  have m : Cur l T { n with g := (goF T n.g).2, held := n.held + (goF T n.g).1.1 } := ⟨a1, a2, g1, g2.trans a4, g3.trans a5, by simp only; omega, a7, a8, a9, a10, by simp only; omega, a12, a13, a14, a15⟩
  obtain ⟨d1, d2, d3, d4⟩ := m.deliver (by omega) h1
  obtain ⟨f1, f2, f3, f4, f5⟩ := deliverL_fix T { n with g := (goF T n.g).2, held := n.held + (goF T n.g).1.1 }
  refine ⟨d1, ?_, Int.le_trans d3 ?_, d4, f3, f4, f5⟩
  · unfold total stepL
    rw [f2]
    simp only at d2 ⊢
    omega
  · exact c2
/-- How many raises its window has, this one with them. -/
theorem countL_raises (T : Int) (n : Ln) : (countL T n).raises = (if T / n.l.z = n.win then n.raises + 1 else 1) ∧ (countL T n).win = T / n.l.z := by
  unfold countL
  split
  · rename_i h; exact ⟨rfl, h.symm⟩
  · exact ⟨rfl, rfl⟩
theorem Cur.count (c : Cur l T n) (h0 : 0 ≤ T) : Cur l T (countL T n) := by
  obtain ⟨f1, f2, f3, f4, f5, f6⟩ := countL_fix T n
  obtain ⟨r1, r2⟩ := countL_raises T n
  obtain ⟨a1, a2, a3, a4, a5, a6, a7, a8, a9, a10, a11, a12, a13, a14, a15⟩ := c
  have z0 := a2.z0
  have := mul_div_le T l.z h0 (by omega)
  rw [a1] at r1 r2
  exact ⟨f1.trans a1, a2, f2 ▸ a3, f2 ▸ a4, f2 ▸ a5, f2 ▸ a6, f3 ▸ a7, f3 ▸ a8, f3 ▸ a9, f3 ▸ a10, f4 ▸ a11, f5 ▸ a12, by rw [r2]; omega, by rw [r2]; omega, by rw [r1]; split <;> omega⟩
theorem Cur.raise (c : Cur l T n) (h0 : 0 ≤ T) (h1 : T < 4611686018427387904) (hm : n.masked = false) (hs : (countL T n).raises ≤ l.s) :
    (raiseL T n).1 = false ∧ Cur l T (raiseL T n).2 ∧ total (raiseL T n).2 = total n + 1 ∧ pot T (raiseL T n).2 ≤ pot T n ∧ Settled T (raiseL T n).2 ∧ (raiseL T n).2.masked = false ∧ (raiseL T n).2.win = T / l.z ∧ (raiseL T n).2.raises = (countL T n).raises := by
  obtain ⟨f1, f2, f3, f4, f5, f6⟩ := countL_fix T n
  have hl := c.hl
  have hw := (countL_raises T n).2
  have e : raiseL T n = (false, deliverL T { countL T n with g := (raiseF T n.g).2, held := n.held + (raiseF T n.g).1.1 }) := by
    unfold raiseL; rw [if_neg (by rw [hm]; simp), if_neg (by rw [hl]; omega)]
  rw [e]
  have c1 := c.count h0
  obtain ⟨g1, g2, g3, g4, g5, g6⟩ := raiseF_cur c.hg c.gt h0 h1
  have c3 := c.e0
  have m : Cur l T { countL T n with g := (raiseF T n.g).2, held := n.held + (raiseF T n.g).1.1 } := ⟨c1.hl, c1.lok, g1, g2.trans c.gc, g3.trans c.gh, by simp only; omega, c1.hk, c1.kd, c1.kq, c1.kt, by simp only; omega, c1.p0, c1.w0, c1.w1, c1.r0⟩
  obtain ⟨d1, d2, d3, d4⟩ := m.deliver h0 h1
  obtain ⟨k1, k2, k3, k4, k5⟩ := deliverL_fix T { countL T n with g := (raiseF T n.g).2, held := n.held + (raiseF T n.g).1.1 }
  refine ⟨rfl, d1, ?_, Int.le_trans d3 ?_, d4, k3.trans (f6.trans hm), ?_, k5⟩
  · unfold total
    simp only [k2]
    simp only at d2
    omega
  · unfold pot pb
    simp only [f5, f3]
    exact Int.le_refl _
  · simp only [k4]
    rw [hw, hl]
theorem Cur.ack (c : Cur l T n) (h0 : 0 ≤ T) (h1 : T < 4611686018427387904) (hm : n.masked = false) (hp : 0 < n.pends) :
    (ackL T n).1 = (n.pends, 0) ∧ Cur l T (ackL T n).2 ∧ total (ackL T n).2 = total n - n.pends ∧ pot T (ackL T n).2 + 1 ≤ pot T n ∧ Settled T (ackL T n).2 ∧ (ackL T n).2.masked = false ∧ (ackL T n).2.win = n.win ∧ (ackL T n).2.raises = n.raises := by
  have e : ackL T n = ((n.pends, 0), deliverL T { n with pends := 0 }) := by
    unfold ackL; rw [if_neg (by rw [hm]; simp; omega)]
  rw [e]
  have m : Cur l T { n with pends := 0 } := ⟨c.hl, c.lok, c.hg, c.gc, c.gh, c.gt, c.hk, c.kd, c.kq, c.kt, c.e0, Int.le_refl _, c.w0, c.w1, c.r0⟩
  obtain ⟨d1, d2, d3, d4⟩ := m.deliver h0 h1
  obtain ⟨k1, k2, k3, k4, k5⟩ := deliverL_fix T { n with pends := 0 }
  refine ⟨rfl, d1, ?_, Int.le_trans (Int.add_le_add_right d3 1) ?_, d4, k3.trans hm, k4, k5⟩
  · unfold total
    simp only [k2]
    simp only at d2
    omega
  · unfold pot pb
    rw [if_pos hp, if_neg (by simp)]
    simp only
    omega
theorem Cur.ack_no (h : n.masked = true ∨ n.pends = 0) : ackL T n = ((0, 12), n) := by unfold ackL; rw [if_pos h]
theorem Cur.mask (c : Cur l T n) (h0 : 0 ≤ T) (h1 : T < 4611686018427387904) (on : Bool) :
    Cur l T (maskL T on n) ∧ total (maskL T on n) = total n ∧ pot T (maskL T on n) ≤ pot T n ∧ Settled T (maskL T on n) ∧ (maskL T on n).masked = on ∧ (maskL T on n).win = n.win ∧ (maskL T on n).raises = n.raises := by
  have m : Cur l T { n with masked := on } := ⟨c.hl, c.lok, c.hg, c.gc, c.gh, c.gt, c.hk, c.kd, c.kq, c.kt, c.e0, c.p0, c.w0, c.w1, c.r0⟩
  obtain ⟨d1, d2, d3, d4⟩ := m.deliver h0 h1
  obtain ⟨k1, k2, k3, k4, k5⟩ := deliverL_fix T { n with masked := on }
  refine ⟨d1, ?_, d3, d4, k3, k4, k5⟩
  unfold total maskL
  simp only [k2]
  simp only at d2
  omega
/-- All bounds that the contracts ask, out of what there is. -/
theorem Cur.ok (c : Cur l N n) (h0 : 0 ≤ N) (h1 : N < 4611686018427387904) {H : Int} (ht : total n ≤ H) (hr : n.raises ≤ H) : n.ok H := by
  obtain ⟨a1, a2, a3, a4, a5, a6, a7, a8, a9, a10, a11, a12, a13, a14, a15⟩ := c
  have := a3.n0
  have z0 := a2.z0
  have := mul_div_le N l.z h0 (by omega)
  unfold total at ht
  exact ⟨a1 ▸ a2, a3, a7, a11, by omega, a12, by omega, a13, by omega, a15, hr⟩
theorem Cur.new (h : l.ok) : Cur l 0 (newL l) := by
  obtain ⟨h1, h2, h3, h4, h5, h6, h7, h8, h9⟩ := h
  exact ⟨rfl, ⟨h1, h2, h3, h4, h5, h6, h7, h8, h9⟩, ⟨h1, h2, h3, h4, Int.le_refl _, by simp [newL]; omega, Int.le_refl _, by simp [newL], Int.le_refl _, by simp [newL]⟩, rfl, rfl, Int.le_refl _, k0_ok h5, rfl, rfl, Int.le_refl _, Int.le_refl _, Int.le_refl _, Int.le_refl _, by simp [newL], Int.le_refl _⟩
/-- So many raises the window k has had. -/
def Cw (k i : Int) (n : Ln) : Prop := if n.win = k then n.raises = i else i = 0
theorem Cw.count {k i : Int} (c : Cw k i n) (hk : T / n.l.z = k) : (countL T n).raises = i + 1 := by
  rw [(countL_raises T n).1, hk]
  unfold Cw at c
  split at c
  · rename_i h; rw [if_pos h.symm, c]
  · rename_i h; rw [if_neg (fun e => h e.symm)]; omega
theorem Cw.of {k i : Int} (h1 : n.win = k) (h2 : n.raises = i) : Cw k i n := by unfold Cw; rw [if_pos h1]; exact h2
theorem Cw.fresh {k : Int} (h1 : n.win < k) : Cw k 0 n := by unfold Cw; rw [if_neg (by omega)]
theorem Cw.same {k i : Int} {m : Ln} (c : Cw k i n) (h1 : m.win = n.win) (h2 : m.raises = n.raises) : Cw k i m := by unfold Cw at *; rw [h1, h2]; exact c
theorem Cur.raises (c : Cur l N n) (h0 : 0 ≤ N) (h : N ≤ T) (h1 : T < 4611686018427387904) (hm : n.masked = false) {k i : Int} (hk : T / l.z = k) (hc : Cw k i n) (hi : i + 1 ≤ l.s) :
    ∃ m, raiseL T (stepL T n) = (false, m) ∧ Cur l T m ∧ total m = total n + 1 ∧ pot T m ≤ pot N n ∧ Settled T m ∧ m.masked = false ∧ Cw k (i + 1) m ∧ m.raises = i + 1 := by
  obtain ⟨s1, s2, s3, s4, s5, s6, s7⟩ := c.step h0 h h1
  have hc2 := hc.same s6 s7
  have hr := hc2.count (T := T) (by rw [s1.hl]; exact hk)
  obtain ⟨r1, r2, r3, r4, r5, r6, r7, r8⟩ := s1.raise (by omega) h1 (s5.trans hm) (by omega)
  exact ⟨_, Prod.ext r1 rfl, r2, r3.trans (by rw [s2]), Int.le_trans r4 s3, r5, r6, Cw.of (r7.trans hk) (r8.trans hr), r8.trans hr⟩
theorem Cur.storms (c : Cur l N n) (h0 : 0 ≤ N) (h : N ≤ T) (h1 : T < 4611686018427387904) (hm : n.masked = false) {k i : Int} (hk : T / l.z = k) (hc : Cw k i n) (hi : l.s < i + 1) :
    ∃ m, raiseL T (stepL T n) = (true, m) ∧ Cur l T m ∧ m.masked = true ∧ m.win = k ∧ m.raises = i + 1 ∧ total m ≤ total n := by
  obtain ⟨s1, s2, s3, s4, s5, s6, s7⟩ := c.step h0 h h1
  have hc2 := hc.same s6 s7
  have hr := hc2.count (T := T) (by rw [s1.hl]; exact hk)
  have cc := s1.count (by omega)
  have e : raiseL T (stepL T n) = (true, { countL T (stepL T n) with masked := true, g := ⟨(stepL T n).l.c, (stepL T n).l.h, 0, 0, 0⟩ }) := by
    unfold raiseL; rw [if_neg (by rw [s5, hm]; simp), if_pos (by rw [s1.hl, hr]; exact hi)]
  have lo := cc.lok
  obtain ⟨f1, f2, f3, f4, f5, f6⟩ := countL_fix T (stepL T n)
  have gn := s1.hg.n0
  refine ⟨_, e, ⟨cc.hl, lo, ?_, by rw [s1.hl], by rw [s1.hl], by simp only; omega, cc.hk, cc.kd, cc.kq, cc.kt, cc.e0, cc.p0, cc.w0, cc.w1, cc.r0⟩, rfl, ((countL_raises T _).2).trans (by rw [s1.hl]; exact hk), hr, ?_⟩
  · rw [s1.hl]
    exact ⟨lo.c0, lo.c1, lo.h0, lo.h1, Int.le_refl _, by have := lo.c0; simp only; omega, Int.le_refl _, by simp, Int.le_refl _, by simp⟩
  · unfold total at *
    simp only [f4, f5]
    omega
theorem Cur.acks (c : Cur l N n) (h0 : 0 ≤ N) (h : N ≤ T) (h1 : T < 4611686018427387904) (hm : n.masked = false) :
    ∃ x e m, ackL T (stepL T n) = ((x, e), m) ∧ Cur l T m ∧ total m = total n - x ∧ m.masked = false ∧ m.win = n.win ∧ m.raises = n.raises ∧ Settled T m ∧ ((e = 0 ∧ 1 ≤ x ∧ pot T m + 1 ≤ pot N n) ∨ (e = 12 ∧ x = 0 ∧ pot T m ≤ pot N n ∧ m.pends = 0)) := by
  obtain ⟨s1, s2, s3, s4, s5, s6, s7⟩ := c.step h0 h h1
  by_cases hp : 0 < (stepL T n).pends
  · obtain ⟨r1, r2, r3, r4, r5, r6, r7, r8⟩ := s1.ack (by omega) h1 (s5.trans hm) hp
    exact ⟨_, _, _, Prod.ext r1 rfl, r2, r3.trans (by rw [s2]), r6, r7.trans s6, r8.trans s7, r5, .inl ⟨rfl, hp, Int.le_trans r4 s3⟩⟩
  · have hz : (stepL T n).pends = 0 := by have := s1.p0; omega
    exact ⟨_, _, _, Cur.ack_no (.inr hz), s1, by omega, s5.trans hm, s6, s7, s4, .inr ⟨rfl, rfl, s3, hz⟩⟩
theorem Cur.le_bound (c : Cur l N n) : n.held ≤ total n ∧ n.pends ≤ total n ∧ 0 ≤ total n ∧ n.held + n.pends ≤ total n := by
  have := c.hg.n0
  have := c.e0
  have := c.p0
  unfold total
  omega
end
end Go.Proofs.Ytbdhmjlbogjkoaa
