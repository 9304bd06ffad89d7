/- Layer 13: the controller and the document's, step by step. -/
import Derived.Test.YtbdhmjlbogjkoaaIrqRefF
import Derived.Test.YtbdhmjlbogjkoaaIrqRefG
import Derived.Test.YtbdhmjlbogjkoaaIrqRefH
import Derived.Test.YtbdhmjlbogjkoaaIrqNo
namespace Go.Proofs.Ytbdhmjlbogjkoaa
open Go.RowKit
set_option linter.unusedVariables false
set_option linter.unusedSimpArgs false
/-- What holds of a line, and of when it was raised. -/
structure Inv (c H : Int) (r : Nat) (n : Ln) (R : List Int) : Prop where
  ok : n.ok H
  gc : n.g.c = n.l.c
  gh : n.g.h = n.l.h
  gt : n.g.t ≤ c
  w : n.win ≤ c / n.l.z
  cw : ∀ k, n.win ≤ k → cnt k n.l.z R = if k = n.win then n.raises else 0
  rl : R.length ≤ r
  rb : ∀ x ∈ R, 0 ≤ x ∧ x ≤ 18446744073709551615
theorem Inv.new {l : Lp} (h : l.ok) : Inv 0 0 0 (newL l) [] := by
  refine ⟨⟨h, ⟨h.c0, h.c1, h.h0, h.h1, Int.le_refl 0, by have := h.c0; show (0 : Int) < l.c; omega, Int.le_refl 0, (show (0 : Int) < 4611686018427387904 from by decide), Int.le_refl 0, (show (0 : Int) < 4611686018427387904 from by decide)⟩, k0_ok h.d, Int.le_refl 0, Int.le_refl 0, Int.le_refl 0, Int.le_refl 0, Int.le_refl 0, (show (0 : Int) ≤ 18446744073709551615 from by decide), Int.le_refl 0, Int.le_refl 0⟩, rfl, rfl, Int.le_refl 0, by simp [newL], fun k _ => by (show (0 : Int) = if k = 0 then 0 else 0); split <;> rfl, Nat.le_refl _, fun x h => by cases h⟩
theorem Inv.mono {c c' H H' : Int} {r r' : Nat} {n : Ln} {R : List Int} (h : Inv c H r n R) (hc : c ≤ c') (hH : H ≤ H') (hr : r ≤ r') : Inv c' H' r' n R :=
  ⟨h.ok.mono hH, h.gc, h.gh, Int.le_trans h.gt hc, Int.le_trans h.w (Int.ediv_le_ediv (by have := h.ok.l.z0; omega) hc), h.cw, Nat.le_trans h.rl hr, h.rb⟩
theorem Inv.step {c T H : Int} {r : Nat} {n : Ln} {R : List Int} (h : Inv c H r n R) (hc : c ≤ T) (h0 : 0 ≤ T) (h1 : T < 4611686018427387904) : Inv T (H + 1000) r (stepL T n) R ∧ (stepL T n).l = n.l := by
  have g := goF_cur h.ok.g (T := T) (Int.le_trans h.gt hc) h0 h1
  obtain ⟨f1, f2, f3, f4, f5⟩ := deliverL_fix T { n with g := (goF T n.g).2, held := n.held + (goF T n.g).1.1 }
  have e : stepL T n = deliverL T { n with g := (goF T n.g).2, held := n.held + (goF T n.g).1.1 } := rfl
  rw [← e] at f1 f2 f3 f4 f5
  simp only at f1 f2 f3 f4 f5
  refine ⟨⟨stepL_ok h.ok T h0, by rw [f1, f2, g.2.1]; exact h.gc, by rw [f1, f2, g.2.2.1]; exact h.gh, by rw [f2, g.2.2.2.1]; exact Int.le_refl T, by rw [f1, f4]; exact Int.le_trans h.w (Int.ediv_le_ediv (by have := h.ok.l.z0; omega) hc), by rw [f1, f4, f5]; exact h.cw, h.rl, h.rb⟩, f1⟩
theorem Inv.count {T H : Int} {r : Nat} {m : Ln} {R : List Int} (h : Inv T H r m R) : cnt (T / m.l.z) m.l.z R + 1 = (countL T m).raises := by
  rw [h.cw _ h.w]
  rw [(countL_raises T m).1]
  split <;> omega
theorem Inv.raise {T H : Int} {r : Nat} {m : Ln} {R : List Int} (h : Inv T H r m R) (hH : 0 ≤ H) (h0 : 0 ≤ T) (h1 : T < 4611686018427387904) : Inv T (H + 3000) (r + 1) (raiseL T m).2 (if m.masked = true then R else R ++ [T]) := by
  unfold raiseL
  by_cases hm : m.masked = true
  · rw [if_pos hm, if_pos hm]
    exact h.mono (Int.le_refl T) (by omega) (by omega)
  · rw [if_neg hm, if_neg hm]
    obtain ⟨c1, c2, c3, c4, c5, c6⟩ := countL_fix T m
    obtain ⟨d1, d2⟩ := countL_raises T m
    have cok := countL_ok h.ok hH T h0 h1
    have cnw : ∀ k, (countL T m).win ≤ k → cnt k m.l.z (R ++ [T]) = if k = (countL T m).win then (countL T m).raises else 0 := fun k hk => by
      rw [d2] at hk ⊢
      rw [cnt_app, h.cw k (Int.le_trans h.w hk), d1]
      simp only [cnt]
      have hw := h.w
      by_cases e1 : k = m.win
      · have e2 : T / m.l.z = k := by omega
        rw [if_pos e1, if_pos e2, if_pos e2.symm, if_pos (by omega)]
        omega
      · rw [if_neg e1]
        by_cases e2 : T / m.l.z = k
        · rw [if_pos e2, if_pos e2.symm, if_neg (by omega)]
          omega
        · rw [if_neg e2, if_neg (fun e => e2 e.symm)]
          omega
    have rl : (R ++ [T]).length ≤ r + 1 := by have := h.rl; simp; omega
    have rb : ∀ x ∈ R ++ [T], 0 ≤ x ∧ x ≤ 18446744073709551615 := fun x hx => by
      rcases List.mem_append.1 hx with hx | hx
      · exact h.rb x hx
      · simp at hx; subst hx; omega
    split
    · refine ⟨⟨cok.l, ⟨?_, ?_, ?_, ?_, Int.le_refl 0, ?_, Int.le_refl 0, (show (0 : Int) < 4611686018427387904 from by decide), Int.le_refl 0, (show (0 : Int) < 4611686018427387904 from by decide)⟩, cok.k, cok.e0, by have := cok.e1; simp only; omega, cok.p0, by have := cok.p1; simp only; omega, cok.w0, cok.w1, cok.r0, by have := cok.r1; simp only; omega⟩, by simp only; rw [c1], by simp only; rw [c1], h0, by simp only; rw [c1, d2]; exact Int.le_refl _, by simp only; rw [c1]; exact cnw, rl, rb⟩
      · exact h.ok.l.c0
      · exact h.ok.l.c1
      · exact h.ok.l.h0
      · exact h.ok.l.h1
      · have := h.ok.l.c0; show (0 : Int) < m.l.c; omega
    · have rg := raiseF_cur h.ok.g (T := T) h.gt h0 h1
      have rgb := raiseF_bd h.ok.g T h0
      have dk : Ln.ok (H + 3000) { countL T m with g := (raiseF T m.g).2, held := m.held + (raiseF T m.g).1.1 } := ⟨cok.l, rgb.2.2, cok.k, by have := h.ok.e0; simp only; omega, by have := h.ok.e1; simp only; omega, cok.p0, by have := cok.p1; simp only; omega, cok.w0, cok.w1, cok.r0, by have := cok.r1; simp only; omega⟩
      obtain ⟨f1, f2, f3, f4, f5⟩ := deliverL_fix T { countL T m with g := (raiseF T m.g).2, held := m.held + (raiseF T m.g).1.1 }
      simp only at f1 f2 f3 f4 f5
      refine ⟨deliverL_ok dk T h0, by rw [f1, f2, c1, rg.2.1]; exact h.gc, by rw [f1, f2, c1, rg.2.2.1]; exact h.gh, by rw [f2, rg.2.2.2.1]; exact Int.le_refl T, by rw [f1, f4, c1, d2]; exact Int.le_refl _, by rw [f1, f4, f5, c1]; exact cnw, rl, rb⟩
theorem Inv.same {T H : Int} {r : Nat} {m m' : Ln} {R : List Int} (h : Inv T H r m R) (ok : m'.ok H) (e1 : m'.l = m.l) (e2 : m'.g = m.g) (e3 : m'.win = m.win) (e4 : m'.raises = m.raises) : Inv T H r m' R :=
  ⟨ok, by rw [e1, e2]; exact h.gc, by rw [e1, e2]; exact h.gh, by rw [e2]; exact h.gt, by rw [e1, e3]; exact h.w, by rw [e1, e3, e4]; exact h.cw, h.rl, h.rb⟩
theorem Inv.ack {T H : Int} {r : Nat} {m : Ln} {R : List Int} (h : Inv T H r m R) (hH : 0 ≤ H) (h0 : 0 ≤ T) : Inv T H r (ackL T m).2 R := by
  unfold ackL
  split
  · exact h
  · obtain ⟨f1, f2, f3, f4, f5⟩ := deliverL_fix T { m with pends := 0 }
    exact h.same (deliverL_ok (n := { m with pends := 0 }) ⟨h.ok.l, h.ok.g, h.ok.k, h.ok.e0, h.ok.e1, Int.le_refl 0, hH, h.ok.w0, h.ok.w1, h.ok.r0, h.ok.r1⟩ T h0) f1 f2 f4 f5
theorem Inv.mask {T H : Int} {r : Nat} {m : Ln} {R : List Int} (h : Inv T H r m R) (h0 : 0 ≤ T) (on : Bool) : Inv T H r (maskL T on m) R := by
  obtain ⟨f1, f2, f3, f4, f5⟩ := deliverL_fix T { m with masked := on }
  exact h.same (deliverL_ok (n := { m with masked := on }) ⟨h.ok.l, h.ok.g, h.ok.k, h.ok.e0, h.ok.e1, h.ok.p0, h.ok.p1, h.ok.w0, h.ok.w1, h.ok.r0, h.ok.r1⟩ T h0) f1 f2 f4 f5
def InvL (c H : Int) (r : Nat) (ls : List Ln) (Rs : List (List Int)) : Prop := ∀ (j : Nat) n R, ls[j]? = some n → Rs[j]? = some R → Inv c H r n R
theorem InvL.mono {c c' H H' : Int} {r r' : Nat} {ls : List Ln} {Rs : List (List Int)} (h : InvL c H r ls Rs) (hc : c ≤ c') (hH : H ≤ H') (hr : r ≤ r') : InvL c' H' r' ls Rs := fun j n R hn hR => (h j n R hn hR).mono hc hH hr
theorem InvL.go {c T H : Int} {r : Nat} {ls : List Ln} {Rs : List (List Int)} (h : InvL c H r ls Rs) (hc : c ≤ T) (h0 : 0 ≤ T) (h1 : T < 4611686018427387904) : InvL T (H + 1000) r (ls.map (stepL T)) Rs := fun j n R hn hR => by
  rw [List.getElem?_map] at hn
  cases hl : ls[j]? with
  | none => rw [hl] at hn; cases hn
  | some n0 =>
    rw [hl] at hn
    injection hn with hn
    subst hn
    exact ((h j n0 R hl hR).step hc h0 h1).1
theorem InvL.set {c H : Int} {r : Nat} {ls : List Ln} {Rs : List (List Int)} (h : InvL c H r ls Rs) {no : Nat} {n' : Ln} {R' : List Int} (k : Inv c H r n' R') : InvL c H r (ls.set no n') (Rs.set no R') := fun j n R hn hR => by
  by_cases e : no = j
  · subst e
    by_cases h1 : no < ls.length
    · rw [List.getElem?_set_self h1] at hn
      by_cases h2 : no < Rs.length
      · rw [List.getElem?_set_self h2] at hR
        injection hn with hn; injection hR with hR
        subst hn hR
        exact k
      · rw [List.getElem?_eq_none (by simp; omega)] at hR; cases hR
    · rw [List.getElem?_eq_none (by simp; omega)] at hn; cases hn
  · rw [List.getElem?_set_ne e] at hn hR
    exact h j n R hn hR
theorem InvL.ok {c H : Int} {r : Nat} {ls : List Ln} {Rs : List (List Int)} (h : InvL c H r ls Rs) (hl : Rs.length = ls.length) : ∀ n ∈ ls, n.ok H := fun n hn => by
  obtain ⟨j, hj⟩ := List.mem_iff_getElem?.1 hn
  have hjl := (List.getElem?_eq_some_iff.1 hj).1
  exact (h j n _ hj (List.getElem?_eq_getElem (by omega))).ok
/-- Both controllers, which stand alike. -/
structure Joint (base : Nat) (w : World) (p q N i : Nat) (c : Int) (ds : List Ad) (sv : Value) (av : List Av) (ls : List Ln) (Rs : List (List Int)) : Prop where
  I : IsI w p ds ls c
  R : IsRI w q sv av ls Rs c c
  dj : ∀ y, ownI p ds y → ¬ ownR q sv av y
  lo1 : ∀ y, ownI p ds y → base ≤ y
  lo2 : ∀ y, ownR q sv av y → base ≤ y
  inv : InvL c (4000 * (i : Int)) i ls Rs
  len : ls.length = N
  n1 : 1 ≤ N
  n16 : N ≤ 16
  c0 : 0 ≤ c
  c1 : c < 4611686018427387904
  bw : base ≤ w.heap.size
def J (base : Nat) (w : World) (p q N i : Nat) : Prop := ∃ c ds sv av ls Rs, Joint base w p q N i c ds sv av ls Rs
theorem Joint.below {base : Nat} {w w' : World} {p q N i : Nat} {c : Int} {ds : List Ad} {sv : Value} {av : List Av} {ls : List Ln} {Rs : List (List Int)} (h : Joint base w p q N i c ds sv av ls Rs) (o : Below w.heap.size w w') : Joint base w' p q N i c ds sv av ls Rs :=
  ⟨h.I.below o, h.R.below o, h.dj, h.lo1, h.lo2, h.inv, h.len, h.n1, h.n16, h.c0, h.c1, Nat.le_trans h.bw o.size⟩
theorem J.below {base : Nat} {w w' : World} {p q N i : Nat} (h : J base w p q N i) (o : Below w.heap.size w w') : J base w' p q N i := by
  obtain ⟨c, ds, sv, av, ls, Rs, k⟩ := h
  exact ⟨c, ds, sv, av, ls, Rs, k.below o⟩
def Two (base : Nat) (w : World) (d p q N i : Nat) (f1 : Nat) (a1 : Array Value) (f2 : Nat) (a2 : Array Value) (x : Value) : Prop :=
  ∃ Mid : World → Prop, Calls Try.prog f1 a1 w (fun e w1 => e = .returned x ∧ Mid w1 ∧ Below base w w1 ∧ w1.heap[d]? = w.heap[d]? ∧ d < w1.heap.size) ∧ ∀ w1, Mid w1 → Calls Try.prog f2 a2 w1 (fun e w2 => e = .returned x ∧ J base w2 p q N (i + 1) ∧ Below base w1 w2 ∧ w2.heap[d]? = w1.heap[d]?)
section
variable {base : Nat} {w : World} {p q N i : Nat} {c T : Int} {ds : List Ad} {sv : Value} {av : List Av} {ls ls' : List Ln} {Rs Rs' : List (List Int)} {f1 f2 : Nat} {a1 a2 : Array Value} {x : Value}
theorem Only.down {F : Nat → Prop} {w w' : World} (h : Only F w w') (hb : base ≤ w.heap.size) (hF : ∀ y, F y → base ≤ y) : Below base w w' := ⟨h.os, h.tape, h.output, h.size, fun i hi => h.block i (by omega) (fun f => by have := hF i f; omega)⟩
theorem Joint.two (h : Joint base w p q N i c ds sv av ls Rs) {d : Nat} (hd : ¬ ownI p ds d) (hd2 : ¬ ownR q sv av d) (hdl : d < w.heap.size) (c1 : Calls Try.prog f1 a1 w (fun e w1 => e = .returned x ∧ After w p ds ls' T w1))
    (c2 : ∀ w1, IsRI w1 q sv av ls Rs c c → Calls Try.prog f2 a2 w1 (fun e w2 => e = .returned x ∧ AfterR w1 q sv av ls' Rs' T w2))
    (inv : InvL T (4000 * ((i + 1 : Nat) : Int)) (i + 1) ls' Rs') (hl : ls'.length = N) (h0 : 0 ≤ T) (h1 : T < 4611686018427387904) : Two base w d p q N i f1 a1 f2 a2 x := by
  refine ⟨fun w1 => After w p ds ls' T w1, c1.mono fun e w1 ⟨e1, a⟩ => ⟨e1, a, a.only.down h.bw h.lo1, a.only.block d hdl hd, Nat.lt_of_lt_of_le hdl a.only.size⟩, fun w1 a => ?_⟩
  have sz := a.only.size
  refine (c2 w1 (h.R.only a.only (fun y hy => h.dj y hy))).mono fun e w2 ⟨e1, b⟩ => ⟨e1, ?_, b.only.down (Nat.le_trans h.bw sz) h.lo2, b.only.block d (Nat.lt_of_lt_of_le hdl sz) hd2⟩
  obtain ⟨⟨ds', i1, s1⟩, o1⟩ := a
  obtain ⟨⟨av', i2, s2⟩, o2⟩ := b
  have dj1 : ∀ y, ownI p ds' y → ¬ ownR q sv av y := fun y hy hr => by
    rcases s1 y hy with h2 | h2
    · exact h.dj y h2 hr
    · have := h.R.lt hr; omega
  have bw := h.bw
  refine ⟨T, ds', sv, av', ls', Rs', i1.only o2 (fun y hy hi => dj1 y hi hy), i2, fun y hy hr => ?_, fun y hy => ?_, fun y hy => ?_, inv, hl, h.n1, h.n16, h0, h1, Nat.le_trans (Nat.le_trans h.bw sz) o2.size⟩
  · rcases s2 y hr with h2 | h2
    · exact dj1 y hy h2
    · have := i1.lt hy; omega
  · rcases s1 y hy with h2 | h2
    · exact h.lo1 y h2
    · omega
  · rcases s2 y hy with h2 | h2
    · exact h.lo2 y h2
    · omega
theorem Joint.twoErr (h : Joint base w p q N i c ds sv av ls Rs) {d : Nat} (hdl : d < w.heap.size) (c1 : Calls Try.prog f1 a1 w (fun e w1 => e = .returned x ∧ Below w.heap.size w w1))
    (c2 : ∀ w1, IsRI w1 q sv av ls Rs c c → Calls Try.prog f2 a2 w1 (fun e w2 => e = .returned x ∧ Below w1.heap.size w1 w2)) : Two base w d p q N i f1 a1 f2 a2 x := by
  have bw := h.bw
  refine ⟨fun w1 => Below w.heap.size w w1, c1.mono fun e w1 ⟨e1, a⟩ => ⟨e1, a, a.mono bw, a.block d hdl, Nat.lt_of_lt_of_le hdl a.size⟩, fun w1 a => ?_⟩
  refine (c2 w1 (h.R.below a)).mono fun e w2 ⟨e1, b⟩ => ⟨e1, ?_, b.mono (Nat.le_trans bw a.size), b.block d (Nat.lt_of_lt_of_le hdl a.size)⟩
  have k := (h.below a).below b
  exact ⟨c, ds, sv, av, ls, Rs, k.I, k.R, k.dj, k.lo1, k.lo2, k.inv.mono (Int.le_refl c) (by omega) (by omega), k.len, k.n1, k.n16, k.c0, k.c1, k.bw⟩
/-- A step is bad, or it is a time and a line that may be. -/
theorem Joint.cases (h : Joint base w p q N i c ds sv av ls Rs) (T no : Int) : badI T no ls.length c ∨ (T < 4611686018427387904 ∧ c ≤ T ∧ ∃ k : Nat, no = k ∧ k < ls.length) := by
  unfold badI
  by_cases h1 : 4611686018427387904 ≤ T ∨ no < 0 ∨ (ls.length : Int) ≤ no ∨ T < c
  · exact .inl h1
  · exact .inr ⟨by omega, by omega, no.toNat, by omega, by omega⟩
theorem Joint.okH (h : Joint base w p q N i c ds sv av ls Rs) : ∀ n ∈ ls, n.ok (4000 * (i : Int)) := h.inv.ok h.R.lenR
theorem go_both {w0 : World} (h : J base w0 p q N i) (o : Below w0.heap.size w0 w) (hdl : w0.heap.size < w.heap.size) (hi : i ≤ 200) (T : Int) (h0 : 0 ≤ T) (h1 : T ≤ 18446744073709551615) :
    ∃ cd : Int, Two base w w0.heap.size p q N i 13 #[.pointer (some ⟨p, 0, none⟩), .int .u64 T] 21 #[.pointer (some ⟨q, 0, none⟩), .int .u64 T] (.int .i64 cd) := by
  obtain ⟨c, ds, sv, av, ls, Rs, k0⟩ := h
  have k := k0.below o
  have hd : ¬ ownI p ds w0.heap.size := fun e => by have := k0.I.lt e; omega
  have hd2 : ¬ ownR q sv av w0.heap.size := fun e => by have := k0.R.lt e; omega
  have hn := k.n1
  have hn16 := k.n16
  have hl := k.len
  rcases k.cases T 0 with hb | ⟨t1, t2, j, hj, hjl⟩
  · exact ⟨codeI T, k.twoErr hdl (go_errI k.I T h0 h1 hb) (fun w1 r => rgo_err r T h0 h1 hb)⟩
  · exact ⟨0, k.two hd hd2 hdl (go_okI k.I k.okH (by omega) (by omega) T t2 h0 t1) (fun w1 r => rgo_ok r k.okH (by omega) (by omega) (by omega) T t2 h0 t1) ((k.inv.go t2 h0 t1).mono (Int.le_refl T) (by omega) (by omega)) (by simp [hl]) h0 t1⟩
theorem mask_both {w0 : World} (h : J base w0 p q N i) (o : Below w0.heap.size w0 w) (hdl : w0.heap.size < w.heap.size) (hi : i ≤ 200) (T no : Int) (h0 : 0 ≤ T) (h1 : T ≤ 18446744073709551615) (hno : -9223372036854775808 ≤ no ∧ no ≤ 9223372036854775807) (on : Bool) :
    ∃ cd : Int, Two base w w0.heap.size p q N i 23 #[.pointer (some ⟨p, 0, none⟩), .int .u64 T, .int .i64 no, .bool on] 24 #[.pointer (some ⟨q, 0, none⟩), .int .u64 T, .int .i64 no, .bool on] (.int .i64 cd) := by
  obtain ⟨c, ds, sv, av, ls, Rs, k0⟩ := h
  have k := k0.below o
  have hd : ¬ ownI p ds w0.heap.size := fun e => by have := k0.I.lt e; omega
  have hd2 : ¬ ownR q sv av w0.heap.size := fun e => by have := k0.R.lt e; omega
  have hn := k.n1
  have hn16 := k.n16
  have hl := k.len
  rcases k.cases T no with hb | ⟨t1, t2, j, rfl, hjl⟩
  · exact ⟨codeI T, k.twoErr hdl (mask_errI k.I T no h0 h1 hno hb on) (fun w1 r => rmask_err r T no h0 h1 hb on)⟩
  · obtain ⟨n, hnj⟩ : ∃ n, ls[j]? = some n := ⟨_, List.getElem?_eq_getElem hjl⟩
    obtain ⟨R, hR⟩ : ∃ R, Rs[j]? = some R := ⟨_, List.getElem?_eq_getElem (by have := k.R.lenR; omega)⟩
    have iv := ((k.inv j n R hnj hR).step t2 h0 t1).1.mask h0 on
    have il := (k.inv.go t2 h0 t1).set (no := j) iv
    rw [set_same hR] at il
    exact ⟨0, k.two hd hd2 hdl (mask_okI k.I k.okH (by omega) (by omega) T t2 h0 t1 j hnj on) (fun w1 r => rmask_ok r k.okH (by omega) (by omega) (by omega) T t2 h0 t1 j hnj on) (il.mono (Int.le_refl T) (by omega) (by omega)) (by simp [hl]) h0 t1⟩
theorem ack_both {w0 : World} (h : J base w0 p q N i) (o : Below w0.heap.size w0 w) (hdl : w0.heap.size < w.heap.size) (hi : i ≤ 200) (T no : Int) (h0 : 0 ≤ T) (h1 : T ≤ 18446744073709551615) (hno : -9223372036854775808 ≤ no ∧ no ≤ 9223372036854775807) :
    ∃ x cd : Int, Two base w w0.heap.size p q N i 14 #[.pointer (some ⟨p, 0, none⟩), .int .u64 T, .int .i64 no] 22 #[.pointer (some ⟨q, 0, none⟩), .int .u64 T, .int .i64 no] (.tuple #[.int .i64 x, .int .i64 cd]) := by
  obtain ⟨c, ds, sv, av, ls, Rs, k0⟩ := h
  have k := k0.below o
  have hd : ¬ ownI p ds w0.heap.size := fun e => by have := k0.I.lt e; omega
  have hd2 : ¬ ownR q sv av w0.heap.size := fun e => by have := k0.R.lt e; omega
  have hn := k.n1
  have hn16 := k.n16
  have hl := k.len
  rcases k.cases T no with hb | ⟨t1, t2, j, rfl, hjl⟩
  · exact ⟨0, codeI T, k.twoErr hdl (ack_errI k.I T no h0 h1 hno hb) (fun w1 r => rack_err r T no h0 h1 hb)⟩
  · obtain ⟨n, hnj⟩ : ∃ n, ls[j]? = some n := ⟨_, List.getElem?_eq_getElem hjl⟩
    obtain ⟨R, hR⟩ : ∃ R, Rs[j]? = some R := ⟨_, List.getElem?_eq_getElem (by have := k.R.lenR; omega)⟩
    have iv := ((k.inv j n R hnj hR).step t2 h0 t1).1.ack (by omega) h0
    have il := (k.inv.go t2 h0 t1).set (no := j) iv
    rw [set_same hR] at il
    exact ⟨_, _, k.two hd hd2 hdl (ack_okI k.I k.okH (by omega) (by omega) T t2 h0 t1 j hnj) (fun w1 r => rack_ok r k.okH (by omega) (by omega) (by omega) T t2 h0 t1 j hnj) (il.mono (Int.le_refl T) (by omega) (by omega)) (by simp [hl]) h0 t1⟩
theorem raise_both {w0 : World} (h : J base w0 p q N i) (o : Below w0.heap.size w0 w) (hdl : w0.heap.size < w.heap.size) (hi : i ≤ 200) (T no : Int) (h0 : 0 ≤ T) (h1 : T ≤ 18446744073709551615) (hno : -9223372036854775808 ≤ no ∧ no ≤ 9223372036854775807) :
    ∃ (x : Bool) (cd : Int), Two base w w0.heap.size p q N i 12 #[.pointer (some ⟨p, 0, none⟩), .int .u64 T, .int .i64 no] 20 #[.pointer (some ⟨q, 0, none⟩), .int .u64 T, .int .i64 no] (.tuple #[.bool x, .int .i64 cd]) := by
  obtain ⟨c, ds, sv, av, ls, Rs, k0⟩ := h
  have k := k0.below o
  have hd : ¬ ownI p ds w0.heap.size := fun e => by have := k0.I.lt e; omega
  have hd2 : ¬ ownR q sv av w0.heap.size := fun e => by have := k0.R.lt e; omega
  have hn := k.n1
  have hn16 := k.n16
  have hl := k.len
  rcases k.cases T no with hb | ⟨t1, t2, j, rfl, hjl⟩
  · exact ⟨false, codeI T, k.twoErr hdl (raise_errI k.I T no h0 h1 hno hb) (fun w1 r => rraise_err r T no h0 h1 hb)⟩
  · obtain ⟨n, hnj⟩ : ∃ n, ls[j]? = some n := ⟨_, List.getElem?_eq_getElem hjl⟩
    obtain ⟨R, hR⟩ : ∃ R, Rs[j]? = some R := ⟨_, List.getElem?_eq_getElem (by have := k.R.lenR; omega)⟩
    obtain ⟨iv, el⟩ := (k.inv j n R hnj hR).step t2 h0 t1
    have ir := iv.raise (by omega) h0 t1
    have il : InvL T (4000 * (i : Int) + 1000 + 3000) (i + 1) ((ls.map (stepL T)).set j (raiseL T (stepL T n)).2) (if (stepL T n).masked = true then Rs else Rs.set j (R ++ [T])) := by
      have := ((k.inv.go t2 h0 t1).mono (c' := T) (H' := 4000 * (i : Int) + 1000 + 3000) (r' := i + 1) (Int.le_refl T) (by omega) (by omega)).set (no := j) ir
      by_cases hm : (stepL T n).masked = true
      · rw [if_pos hm] at this ⊢
        rwa [set_same hR] at this
      · rw [if_neg hm] at this ⊢
        exact this
    have hc := iv.count
    rw [el] at hc
    exact ⟨_, _, k.two hd hd2 hdl (raise_okI k.I k.okH (by omega) (by omega) T t2 h0 t1 j hnj) (fun w1 r => rraise_ok r k.okH (by omega) (by omega) (by omega) T t2 h0 t1 j hnj hR hc (by have := iv.rl; omega) iv.rb ⟨iv.gc.trans (by rw [el]), iv.gh.trans (by rw [el]), el, iv.gt⟩) (il.mono (Int.le_refl T) (by omega) (Nat.le_refl _)) (by simp [hl]) h0 t1⟩
theorem pend_both (h : Joint base w p q N i c ds sv av ls Rs) (f : ∀ n ∈ ls, 0 ≤ n.pends) :
    ∃ (x y : Int) (b : Bool), ∀ W, Below w.heap.size w W → Calls Try.prog 25 #[.pointer (some ⟨p, 0, none⟩)] W (fun e w1 => e = .returned (.tuple #[.int .i64 x, .int .i64 y, .bool b]) ∧ Below W.heap.size W w1) ∧
      Calls Try.prog 26 #[.pointer (some ⟨q, 0, none⟩)] W (fun e w1 => e = .returned (.tuple #[.int .i64 x, .int .i64 y, .bool b]) ∧ Below W.heap.size W w1) := by
  have hl := h.len
  have hn16 := h.n16
  exact ⟨_, _, _, fun W o => ⟨(pending_any (h.below o).I).mono fun e w1 ⟨a, b⟩ => ⟨a, b⟩, (rpending_any (h.below o).R (by omega) f).mono fun e w1 ⟨a, b⟩ => ⟨a, b⟩⟩⟩
end
end Go.Proofs.Ytbdhmjlbogjkoaa
