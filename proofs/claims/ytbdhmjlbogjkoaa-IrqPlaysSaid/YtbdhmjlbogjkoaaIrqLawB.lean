/- Layer 13 (irq): what is done twice at one time does nothing more: plain laws. -/
import Derived.Test.YtbdhmjlbogjkoaaIrqCtl
namespace Go.Proofs.Ytbdhmjlbogjkoaa
open Go.RowKit
set_option linter.unusedVariables false
set_option linter.unusedSimpArgs false
/-- Nothing more comes of it at T. -/
def Idle (T : Int) (n : Ln) : Prop := (n.g.n = 0 ∨ T < n.g.f + n.g.h) ∧ (0 < n.pends ∨ n.held = 0 ∨ (n.k.k = 0 ∧ n.k.t = T))
theorem goF_idle {g : Gs} (ok : g.ok) {T : Int} (h : g.t ≤ T) (h1 : T < 4611686018427387904) : (goF T g).2.n = 0 ∨ T < (goF T g).2.f + (goF T g).2.h := by
  have e : goF T g = (((lateF { g with t := T }).1, 0), (lateF { g with t := T }).2) := by unfold goF; rw [if_neg (by omega), if_neg (by omega)]
  rw [e]
  unfold lateF
  split
  · rename_i hc
    simp only at hc ⊢
    omega
  · exact .inl rfl
theorem raiseF_idle {g : Gs} (ok : g.ok) {T : Int} (h : g.t ≤ T) (h1 : T < 4611686018427387904) : (raiseF T g).2.n = 0 ∨ T < (raiseF T g).2.f + (raiseF T g).2.h := by
  have e : raiseF T g = (((lateF { g with t := T }).1 + (doF T (lateF { g with t := T }).2).1, 0), (doF T (lateF { g with t := T }).2).2) := by unfold raiseF; rw [if_neg (by omega), if_neg (by omega)]
  rw [e]
  have h0 := ok.h0
  unfold doF
  split
  · exact .inl rfl
  · rename_i hc
    refine .inr ?_
    unfold lateF at hc ⊢
    split
    · rename_i hd
      rw [if_pos hd] at hc
      simp only at hd hc ⊢
      split <;> omega
    · rename_i hd
      rw [if_neg hd] at hc
      simp only at hc ⊢
      rw [if_pos True.intro]
      omega
section
variable {l : Lp} {N T : Int} {n : Ln}
theorem Idle.of (h : n.g.n = 0 ∨ T < n.g.f + n.g.h) (s : Settled T n) (hm : n.masked = false) : Idle T n := ⟨h, s.elim (fun e => by rw [hm] at e; cases e) id⟩
theorem Cur.deliver_idle (c : Cur l T n) (h0 : 0 ≤ T) (h1 : T < 4611686018427387904) (h : 0 < n.pends ∨ n.held = 0 ∨ (n.k.k = 0 ∧ n.k.t = T)) :
    (deliverL T n).held = n.held ∧ (deliverL T n).pends = n.pends ∧ (0 < (deliverL T n).pends ∨ (deliverL T n).held = 0 ∨ ((deliverL T n).k.k = 0 ∧ (deliverL T n).k.t = T)) := by
  obtain ⟨t1, t2, t3, t4, t5, t6, t7, -⟩ := takeK_cur c.hk c.kt h0 h1
  have kr := c.hk.round c.kt
  unfold deliverL
  split
  · exact ⟨rfl, rfl, h⟩
  · rename_i hc
    rcases h with h | h | ⟨h, h2⟩
    · exact absurd (.inr (.inl h)) hc
    · exact absurd (.inr (.inr h)) hc
    · have hr := c.hk.r
      rw [h2] at hr
      split
      · rename_i ht
        rw [if_pos ht] at t6
        have := takeK_ok c.hk T h0
        have := this.k0
        omega
      · rename_i ht
        exact ⟨rfl, rfl, .inr (.inr ⟨t7 (by simpa using ht), t4⟩)⟩
theorem Cur.step_idle (c : Cur l N n) (h0 : 0 ≤ N) (h : N ≤ T) (h1 : T < 4611686018427387904) (i : Idle T n) :
    Cur l T (stepL T n) ∧ Idle T (stepL T n) ∧ (stepL T n).held = n.held ∧ (stepL T n).pends = n.pends ∧ (stepL T n).masked = n.masked ∧ (stepL T n).raises = n.raises ∧ total (stepL T n) = total n := by
  obtain ⟨s1, s2, s3, s4, s5, s6, s7⟩ := c.step h0 h h1
  obtain ⟨c1, c2⟩ := c.later h0 h
  obtain ⟨g1, g2, g3, g4, g5, g6⟩ := goF_cur c.hg (T := T) c1.gt (by omega) h1
  have gi := goF_idle c.hg c1.gt h1
  have gz : (goF T n.g).1.1 = 0 := by
    have e : goF T n.g = (((lateF { n.g with t := T }).1, 0), (lateF { n.g with t := T }).2) := by unfold goF; have := c1.gt; rw [if_neg (by omega), if_neg (by omega)]
    rw [e]
    have := i.1
    unfold lateF
    split
    · rfl
    · rename_i hc; simp only at hc; omega
  have m : Cur l T { n with g := (goF T n.g).2, held := n.held + (goF T n.g).1.1 } := ⟨c1.hl, c1.lok, g1, g2.trans c.gc, g3.trans c.gh, by simp only; omega, c1.hk, c1.kd, c1.kq, c1.kt, by have := c.e0; simp only; omega, c1.p0, c1.w0, c1.w1, c1.r0⟩
  obtain ⟨d1, d2, d3⟩ := m.deliver_idle (by omega) h1 (by simp only [gz, Int.add_zero]; exact i.2)
  obtain ⟨f1, f2, f3, f4, f5⟩ := deliverL_fix T { n with g := (goF T n.g).2, held := n.held + (goF T n.g).1.1 }
  refine ⟨s1, ⟨?_, d3⟩, by rw [← Int.add_zero n.held, ← gz]; exact d1, d2, s5, s7, s2⟩
  show (deliverL T { n with g := (goF T n.g).2, held := n.held + (goF T n.g).1.1 }).g.n = 0 ∨ _ < (deliverL T { n with g := (goF T n.g).2, held := n.held + (goF T n.g).1.1 }).g.f + (deliverL T { n with g := (goF T n.g).2, held := n.held + (goF T n.g).1.1 }).g.h
  rw [f2]
  exact gi
theorem Cur.mask_idle (c : Cur l T n) (h0 : 0 ≤ T) (h1 : T < 4611686018427387904) (i : Idle T n) (on : Bool) :
    Cur l T (maskL T on n) ∧ Idle T (maskL T on n) ∧ (maskL T on n).held = n.held ∧ (maskL T on n).pends = n.pends ∧ (maskL T on n).masked = on ∧ (maskL T on n).raises = n.raises ∧ total (maskL T on n) = total n := by
  obtain ⟨s1, s2, s3, s4, s5, s6, s7⟩ := c.mask h0 h1 on
  have m : Cur l T { n with masked := on } := ⟨c.hl, c.lok, c.hg, c.gc, c.gh, c.gt, c.hk, c.kd, c.kq, c.kt, c.e0, c.p0, c.w0, c.w1, c.r0⟩
  obtain ⟨d1, d2, d3⟩ := m.deliver_idle h0 h1 i.2
  obtain ⟨f1, f2, f3, f4, f5⟩ := deliverL_fix T { n with masked := on }
  refine ⟨s1, ⟨?_, d3⟩, d1, d2, s5, s7, s2⟩
  show (deliverL T { n with masked := on }).g.n = 0 ∨ _ < (deliverL T { n with masked := on }).g.f + (deliverL T { n with masked := on }).g.h
  rw [f2]
  exact i.1
theorem Cur.raise_g (c : Cur l T n) (hm : n.masked = false) (hs : (countL T n).raises ≤ l.s) : (raiseL T n).2.g = (raiseF T n.g).2 := by
  have hl := c.hl
  have e : raiseL T n = (false, deliverL T { countL T n with g := (raiseF T n.g).2, held := n.held + (raiseF T n.g).1.1 }) := by
    unfold raiseL; rw [if_neg (by rw [hm]; simp), if_neg (by rw [hl]; omega)]
  rw [e]
  exact (deliverL_fix T { countL T n with g := (raiseF T n.g).2, held := n.held + (raiseF T n.g).1.1 }).2.1
/-- What is raised, and is no storm, leaves nothing more to come at its time. -/
theorem Cur.raises_idle (c : Cur l N n) (h0 : 0 ≤ N) (h : N ≤ T) (h1 : T < 4611686018427387904) (hm : n.masked = false) {k i : Int} (hk : T / l.z = k) (hc : Cw k i n) (hi : i + 1 ≤ l.s) : Idle T (raiseL T (stepL T n)).2 := by
  obtain ⟨m, e1, e2, e3, e4, e5, e6, e7, e8⟩ := c.raises h0 h h1 hm hk hc hi
  obtain ⟨s1, s2, s3, s4, s5, s6, s7⟩ := c.step h0 h h1
  have hc2 := hc.same s6 s7
  have hr := hc2.count (T := T) (by rw [s1.hl]; exact hk)
  have hg := s1.raise_g (s5.trans hm) (by omega)
  rw [e1] at hg ⊢
  simp only at hg ⊢
  refine Idle.of ?_ e5 e6
  rw [hg]
  exact raiseF_idle s1.hg s1.gt h1
theorem raise_masked (h : n.masked = true) : raiseL T n = (false, n) := by unfold raiseL; rw [if_pos h]
theorem Cw.new (k : Int) : Cw k 0 (newL l) := by unfold Cw; split <;> rfl
theorem Idle.new (T : Int) : Idle T (newL l) := ⟨.inl rfl, .inr (.inl rfl)⟩
end
end Go.Proofs.Ytbdhmjlbogjkoaa
