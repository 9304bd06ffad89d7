/- IrqLeast: of lines of which something pends the least one is told, unless it is masked; acknowledged one by one all are. No condition. -/
import Derived.Test.YtbdhmjlbogjkoaaIrqAll
import Derived.Test.YtbdhmjlbogjkoaaCounts
import Derived.Test.YtbdhmjlbogjkoaaArg
import Derived.Test.YtbdhmjlbogjkoaaRows
import Derived.ProofKit
import Derived.OpenShut
import Derived.ShutString
import Derived.ChangeOld
import Derived.Below
import Derived.SizedLaws
namespace Go.Proofs.Ytbdhmjlbogjkoaa
open Go.ChangeShapes Go.WideShapes Go.ChangeAt Go.RowKit
open Go.ChangeMaps (open_string shut_string)
set_option linter.unusedVariables false
set_option linter.unusedSimpArgs false
namespace irqLeast
def lz : Lp := ⟨1, 0, 100, 10, 1000, 100⟩
theorem lzok : lz.ok := by constructor <;> decide
/-- A line of which x are to be acknowledged, behind c raises in all. -/
structure P (c x : Int) (n : Ln) : Prop where
  cur : Cur lz 1 n
  sum : n.held + n.pends = x
  tok : 100 - n.k.k + n.held ≤ c
  ra : n.raises ≤ c
  set : 0 < n.pends ∨ n.held = 0
theorem deliver_tok (n : Ln) (c : Cur lz 1 n) : (deliverL 1 n).held - (deliverL 1 n).k.k ≤ n.held - n.k.k := by
  obtain ⟨t1, t2, t3, t4, t5, t6, t7, t8⟩ := takeK_cur c.hk c.kt (show (0 : Int) ≤ 1 by omega) (by omega)
  have e0 := c.e0
  unfold deliverL
  split
  · exact Int.le_refl _
  · rename_i hc
    have hh : ¬ n.held = 0 := fun h => hc (.inr (.inr h))
    split
    · rename_i ht
      rw [if_pos ht] at t8
      simp only
      omega
    · rename_i ht
      rw [if_neg ht] at t8
      simp only
      omega
theorem gz {n : Ln} (c : Cur lz 1 n) : n.g.n = 0 := by
  have h0 := c.hg.n0
  have h1 := c.hg.n1
  have h2 : n.g.c = 1 := c.gc
  omega
theorem P.mono {c c' x : Int} {n : Ln} (p : P c x n) (h : c ≤ c') : P c' x n := ⟨p.cur, p.sum, by have := p.tok; omega, by have := p.ra; omega, p.set⟩
theorem P.idle {c x : Int} {n : Ln} (p : P c x n) : Idle 1 n := ⟨.inl (gz p.cur), p.set.elim .inl (fun h => .inr (.inl h))⟩
theorem P.fired {c x : Int} {n : Ln} (p : P c x n) : (goF 1 n.g).1.1 = 0 := by
  obtain ⟨g1, g2, g3, g4, g5, g6⟩ := goF_cur p.cur.hg (T := 1) p.cur.gt (by omega) (by omega)
  have := gz p.cur
  have := g1.n0
  omega
theorem P.step {c x : Int} {n : Ln} (p : P c x n) (hc : c ≤ 60) : P c x (stepL 1 n) ∧ (stepL 1 n).masked = n.masked := by
  obtain ⟨s1, s2, s3, s4, s5, s6, s7⟩ := p.cur.step_idle (by omega) (Int.le_refl 1) (by omega) p.idle
  have e : stepL 1 n = deliverL 1 { n with g := (goF 1 n.g).2, held := n.held + (goF 1 n.g).1.1 } := rfl
  obtain ⟨g1, g2, g3, g4, g5, g6⟩ := goF_cur p.cur.hg (T := 1) p.cur.gt (by omega) (by omega)
  have m : Cur lz 1 { n with g := (goF 1 n.g).2, held := n.held + (goF 1 n.g).1.1 } := ⟨p.cur.hl, p.cur.lok, g1, g2.trans p.cur.gc, g3.trans p.cur.gh, by simp only; omega, p.cur.hk, p.cur.kd, p.cur.kq, p.cur.kt, by have := p.cur.e0; simp only; omega, p.cur.p0, p.cur.w0, p.cur.w1, p.cur.r0⟩
  have d := deliver_tok _ m
  rw [← e] at d
  simp only [p.fired, Int.add_zero] at d
  have h1 := p.tok
  have h2 := p.ra
  have h3 := p.sum
  have h4 := p.set
  exact ⟨⟨s1, by omega, by omega, by omega, by rw [s3, s4]; exact h4⟩, s5⟩
theorem P.tokens {c x : Int} {n : Ln} (p : P c x n) (hc : c ≤ 60) : 0 < n.k.k := by have := p.tok; have := p.cur.e0; omega
/-- Out of what settles, with tokens there. -/
theorem settled {c : Int} {n : Ln} (s : Settled 1 n) (hm : n.masked = false) (h : 100 - n.k.k + n.held ≤ c) (h0 : 0 ≤ n.held) (hc : c ≤ 61) : 0 < n.pends ∨ n.held = 0 := by
  rcases s with s | s | s | ⟨s, -⟩
  · rw [hm] at s; cases s
  · exact .inl s
  · exact .inr s
  · omega
theorem P.raise {c x : Int} {n : Ln} (p : P c x n) (hc : c < 60) (hm : n.masked = false) : (raiseL 1 (stepL 1 n)).1 = false ∧ P (c + 1) (x + 1) (raiseL 1 (stepL 1 n)).2 ∧ (raiseL 1 (stepL 1 n)).2.masked = false := by
  obtain ⟨q, q2⟩ := p.step (by omega)
  have hra := p.ra
  have hs : (countL 1 (stepL 1 n)).raises ≤ lz.s := by
    have := q.ra
    rw [(countL_raises 1 _).1]
    show _ ≤ (1000 : Int)
    split <;> omega
  obtain ⟨r1, r2, r3, r4, r5, r6, r7, r8⟩ := q.cur.raise (by omega) (by omega) (q2.trans hm) hs
  have hg := q.cur.raise_g (q2.trans hm) hs
  obtain ⟨g1, g2, g3, g4, g5, g6⟩ := raiseF_cur q.cur.hg (T := 1) q.cur.gt (by omega) (by omega)
  have c1 := q.cur.count (by omega)
  obtain ⟨f1, f2, f3, f4, f5, f6⟩ := countL_fix 1 (stepL 1 n)
  have m : Cur lz 1 { countL 1 (stepL 1 n) with g := (raiseF 1 (stepL 1 n).g).2, held := (stepL 1 n).held + (raiseF 1 (stepL 1 n).g).1.1 } := ⟨c1.hl, c1.lok, g1, g2.trans q.cur.gc, g3.trans q.cur.gh, by simp only; omega, c1.hk, c1.kd, c1.kq, c1.kt, by have := q.cur.e0; simp only; omega, c1.p0, c1.w0, c1.w1, c1.r0⟩
  have d := deliver_tok _ m
  have e : (raiseL 1 (stepL 1 n)).2 = deliverL 1 { countL 1 (stepL 1 n) with g := (raiseF 1 (stepL 1 n).g).2, held := (stepL 1 n).held + (raiseF 1 (stepL 1 n).g).1.1 } := by
    unfold raiseL; rw [if_neg (by rw [q2, hm]; simp), if_neg (by rw [q.cur.hl]; omega)]
  rw [← e] at d
  simp only [f3] at d
  have h1 := q.tok
  have h2 := q.sum
  have z1 := gz q.cur
  have z2 := gz r2
  have z3 := gz m
  simp only at z3
  have t1 : total (raiseL 1 (stepL 1 n)).2 = (raiseL 1 (stepL 1 n)).2.g.n + (raiseL 1 (stepL 1 n)).2.held + (raiseL 1 (stepL 1 n)).2.pends := rfl
  have t2 : total (stepL 1 n) = (stepL 1 n).g.n + (stepL 1 n).held + (stepL 1 n).pends := rfl
  have hr : (raiseL 1 (stepL 1 n)).2.raises ≤ c + 1 := by
    rw [r8, (countL_raises 1 _).1]
    have := q.ra
    have := q.cur.r0
    split <;> omega
  refine ⟨r1, ⟨r2, by omega, by omega, hr, settled (c := c + 1) r5 r6 (by omega) r2.e0 (by omega)⟩, r6⟩
theorem P.mask {c x : Int} {n : Ln} (p : P c x n) (hc : c ≤ 60) (on : Bool) : P c x (maskL 1 on (stepL 1 n)) ∧ (maskL 1 on (stepL 1 n)).masked = on := by
  obtain ⟨q, q2⟩ := p.step hc
  obtain ⟨s1, s2, s3, s4, s5, s6, s7⟩ := q.cur.mask_idle (by omega) (by omega) q.idle on
  have m : Cur lz 1 { stepL 1 n with masked := on } := ⟨q.cur.hl, q.cur.lok, q.cur.hg, q.cur.gc, q.cur.gh, q.cur.gt, q.cur.hk, q.cur.kd, q.cur.kq, q.cur.kt, q.cur.e0, q.cur.p0, q.cur.w0, q.cur.w1, q.cur.r0⟩
  have d : (maskL 1 on (stepL 1 n)).held - (maskL 1 on (stepL 1 n)).k.k ≤ (stepL 1 n).held - (stepL 1 n).k.k := deliver_tok _ m
  have h1 := q.tok
  have h2 := q.ra
  have h3 := q.sum
  have h4 := q.set
  exact ⟨⟨s1, by omega, by omega, by omega, by rw [s3, s4]; exact h4⟩, s5⟩
theorem P.ack {c x : Int} {n : Ln} (p : P c x n) (hc : c ≤ 60) (hm : n.masked = false) (hp : 0 < n.pends) :
    (ackL 1 (stepL 1 n)).1 = (n.pends, 0) ∧ P c (x - n.pends) (ackL 1 (stepL 1 n)).2 ∧ (ackL 1 (stepL 1 n)).2.masked = false ∧ n.pends ≤ x := by
  obtain ⟨s1, s2, s3, s4, s5, s6, s7⟩ := p.cur.step_idle (by omega) (Int.le_refl 1) (by omega) p.idle
  obtain ⟨q, q2⟩ := p.step hc
  obtain ⟨r1, r2, r3, r4, r5, r6, r7, r8⟩ := q.cur.ack (by omega) (by omega) (q2.trans hm) (by omega)
  have m : Cur lz 1 { stepL 1 n with pends := 0 } := ⟨q.cur.hl, q.cur.lok, q.cur.hg, q.cur.gc, q.cur.gh, q.cur.gt, q.cur.hk, q.cur.kd, q.cur.kq, q.cur.kt, q.cur.e0, Int.le_refl _, q.cur.w0, q.cur.w1, q.cur.r0⟩
  have d := deliver_tok _ m
  have e : (ackL 1 (stepL 1 n)).2 = deliverL 1 { stepL 1 n with pends := 0 } := by
    unfold ackL; rw [if_neg (by rw [q2, hm]; simp; omega)]
  rw [← e] at d
  simp only at d
  have h1 := q.tok
  have h2 := q.ra
  have h3 := q.sum
  have z1 := gz q.cur
  have z2 := gz r2
  have t1 : total (ackL 1 (stepL 1 n)).2 = (ackL 1 (stepL 1 n)).2.g.n + (ackL 1 (stepL 1 n)).2.held + (ackL 1 (stepL 1 n)).2.pends := rfl
  have t2 : total (stepL 1 n) = (stepL 1 n).g.n + (stepL 1 n).held + (stepL 1 n).pends := rfl
  have e0 := p.cur.e0
  have hsum := p.sum
  exact ⟨by rw [r1, s4], ⟨r2, by omega, by omega, by omega, settled (c := c) r5 r6 (by omega) r2.e0 (by omega)⟩, r6, by omega⟩
theorem P.new : P 0 0 (newL lz) := ⟨((Cur.new lzok).later (by omega) (by omega)).1, rfl, by decide, by decide, .inr rfl⟩
/-- All lines. -/
structure AllP (c : Int) (f : Nat → Bool) (ws : List Int) (ls : List Ln) : Prop where
  len : ls.length = 16
  lenw : ws.length = 16
  at_ : ∀ (j : Nat) (n : Ln) (x : Int), ls[j]? = some n → ws[j]? = some x → P c x n ∧ n.masked = f j
section
variable {c c' : Int} {f f' : Nat → Bool} {ws : List Int} {ls : List Ln}
theorem AllP.get (h : AllP c f ws ls) {j : Nat} (hj : j < 16) : ∃ n x, ls[j]? = some n ∧ ws[j]? = some x ∧ P c x n ∧ n.masked = f j := by
  have h1 : ls[j]? = some (ls[j]'(by rw [h.len]; exact hj)) := List.getElem?_eq_getElem _
  have h2 : ws[j]? = some (ws[j]'(by rw [h.lenw]; exact hj)) := List.getElem?_eq_getElem _
  obtain ⟨a, b⟩ := h.at_ j _ _ h1 h2
  exact ⟨_, _, h1, h2, a, b⟩
theorem AllP.turn (h : AllP c f ws ls) (hc : c ≤ 60) (hcc : c ≤ c') {k : Nat} (hk : k < 16) {m : Ln} {y : Int} (p : P c' y m) (hm : m.masked = f' k) (hf : ∀ j, j ≠ k → f' j = f j) : AllP c' f' (ws.set k y) ((ls.map (stepL 1)).set k m) := by
  refine ⟨by simp [h.len], by simp [h.lenw], fun j n x hn hx => ?_⟩
  by_cases e : k = j
  · subst e
    rw [List.getElem?_set_self (by simp [h.len]; exact hk)] at hn
    rw [List.getElem?_set_self (by rw [h.lenw]; exact hk)] at hx
    injection hn with hn
    injection hx with hx
    subst hn hx
    exact ⟨p, hm⟩
  · rw [List.getElem?_set_ne e] at hn hx
    rw [List.getElem?_map] at hn
    cases hl : ls[j]? with
    | none => rw [hl] at hn; cases hn
    | some n0 =>
      rw [hl] at hn
      simp at hn
      subst hn
      obtain ⟨a, b⟩ := h.at_ j _ _ hl hx
      obtain ⟨q, q2⟩ := a.step hc
      exact ⟨q.mono hcc, (q2.trans b).trans (hf j (fun e' => e e'.symm)).symm⟩
theorem AllP.oks (h : AllP c f ws ls) (hc : c ≤ 60) (hw : ∀ x ∈ ws, x ≤ 60) : ∀ n ∈ ls, n.ok 1000 := by
  intro n hn
  obtain ⟨j, hj⟩ := List.mem_iff_getElem?.1 hn
  have hl := (List.getElem?_eq_some_iff.1 hj).1
  obtain ⟨n', x, h1, h2, p, -⟩ := h.get (j := j) (by rw [← h.len]; exact hl)
  rw [hj] at h1
  injection h1 with h1
  subst h1
  have hx := hw x (List.mem_of_getElem? h2)
  have := gz p.cur
  have := p.sum
  have := p.ra
  exact p.cur.ok (by omega) (by omega) (by unfold total; omega) (by omega)
theorem AllP.new : AllP 0 (fun _ => false) (List.replicate 16 0) (newLs (fun _ => lz) 16) := by
  refine ⟨newLs_length _ _, by simp, fun j n x hn hx => ?_⟩
  have hj : j < 16 := by have := (List.getElem?_eq_some_iff.1 hx).1; simpa using this
  rw [newLs_at _ hj] at hn
  rw [List.getElem?_replicate, if_pos hj] at hx
  injection hn with hn
  injection hx with hx
  subst hn hx
  exact ⟨P.new, rfl⟩
end
/-- The least number from i on of which p is told; -1: none. -/
def Lst (p : Nat → Bool) (i : Nat) (v : Int) : Prop := (v = -1 ∧ ∀ j, i ≤ j → j < 16 → p j = false) ∨ ∃ k : Nat, v = k ∧ i ≤ k ∧ k < 16 ∧ p k = true ∧ ∀ j, i ≤ j → j < k → p j = false
theorem Lst.yes {p : Nat → Bool} {i : Nat} (h : p i = true) (hi : i < 16) : Lst p i i := .inr ⟨i, rfl, Nat.le_refl _, hi, h, fun j a b => by omega⟩
theorem Lst.no {p : Nat → Bool} {i : Nat} {v : Int} (h : Lst p (i + 1) v) (hp : p i = false) : Lst p i v := by
  rcases h with ⟨h1, h2⟩ | ⟨k, h1, h2, h3, h4, h5⟩
  · exact .inl ⟨h1, fun j a b => by rcases Nat.lt_or_ge i j with e | e; exact h2 j e b; rw [show j = i by omega]; exact hp⟩
  · exact .inr ⟨k, h1, by omega, h3, h4, fun j a b => by rcases Nat.lt_or_ge i j with e | e; exact h5 j e b; rw [show j = i by omega]; exact hp⟩
theorem Lst.none (p : Nat → Bool) : Lst p 16 (-1) := .inl ⟨rfl, fun j a b => by omega⟩
theorem pendQ_spec (ls : List Ln) (i : Nat) : (pendQ ls i = (0, 0, false) ∧ ∀ (j : Nat) (n : Ln), ls[j]? = some n → ¬ (n.masked = false ∧ 0 < n.pends)) ∨ ∃ (k : Nat) (n : Ln), ls[k]? = some n ∧ n.masked = false ∧ 0 < n.pends ∧ pendQ ls i = (((i + k : Nat) : Int), n.pends, true) ∧ ∀ (j : Nat) (m : Ln), j < k → ls[j]? = some m → ¬ (m.masked = false ∧ 0 < m.pends) := by
  induction ls generalizing i with
  | nil => exact .inl ⟨rfl, fun j n h => by simp at h⟩
  | cons a r ih =>
    by_cases ha : a.masked = false ∧ 0 < a.pends
    · exact .inr ⟨0, a, rfl, ha.1, ha.2, by unfold pendQ; rw [if_pos ha]; rfl, fun j m h => by omega⟩
    · have e : pendQ (a :: r) i = pendQ r (i + 1) := by
        conv => lhs; unfold pendQ
        rw [if_neg ha]
      rw [e]
      rcases ih (i + 1) with ⟨h1, h2⟩ | ⟨k, n, h1, h2, h3, h4, h5⟩
      · refine .inl ⟨h1, fun j n h => ?_⟩
        rcases j with _ | j
        · simp at h; subst h; exact ha
        · exact h2 j n (by simpa using h)
      · refine .inr ⟨k + 1, n, by simpa using h1, h2, h3, by rw [h4, show i + 1 + k = i + (k + 1) by omega], fun j m hj h => ?_⟩
        rcases j with _ | j
        · simp at h; subst h; exact ha
        · exact h5 j m (by omega) (by simpa using h)
/-- What is told of all lines: the least, and how many pend of it. -/
theorem least_of {c : Int} {f : Nat → Bool} {ws : List Int} {ls : List Ln} (h : AllP c f ws ls) {U : Nat → Bool} (hU : ∀ j x, ws[j]? = some x → U j = (decide (0 < x) && !f j)) {v : Int} (hl : Lst U 0 v) :
    (pendQ ls 0 = (0, 0, false) ∧ v = -1) ∨ ∃ k n x, k < 16 ∧ ls[k]? = some n ∧ ws[k]? = some x ∧ P c x n ∧ n.masked = false ∧ f k = false ∧ 0 < n.pends ∧ pendQ ls 0 = ((k : Int), n.pends, true) ∧ v = k := by
  have key : ∀ j, j < 16 → ∃ n, ls[j]? = some n ∧ (U j = true ↔ (n.masked = false ∧ 0 < n.pends)) := by
    intro j hj
    obtain ⟨n, x, h1, h2, p, hm⟩ := h.get hj
    refine ⟨n, h1, ?_⟩
    rw [hU j x h2, hm]
    have e0 := p.cur.e0
    have p0 := p.cur.p0
    have hs := p.sum
    have ht := p.set
    cases f j <;> simp <;> omega
  rcases pendQ_spec ls 0 with ⟨h1, h2⟩ | ⟨k, n, h1, h2, h3, h4, h5⟩
  · refine .inl ⟨h1, ?_⟩
    rcases hl with ⟨e, -⟩ | ⟨k, -, -, hk, hu, -⟩
    · exact e
    · obtain ⟨n, hn, hi⟩ := key k hk
      exact absurd (hi.1 hu) (h2 k n hn)
  · have hk : k < 16 := by have := (List.getElem?_eq_some_iff.1 h1).1; rw [h.len] at this; exact this
    obtain ⟨n', x, g1, g2, p, hm⟩ := h.get hk
    rw [h1] at g1
    injection g1 with g1
    subst g1
    refine .inr ⟨k, n, x, hk, h1, g2, p, h2, by rw [← hm]; exact h2, h3, by rw [h4, Nat.zero_add], ?_⟩
    obtain ⟨n2, hn2, hi2⟩ := key k hk
    rw [h1] at hn2
    injection hn2 with hn2
    subst hn2
    have uk := hi2.2 ⟨h2, h3⟩
    rcases hl with ⟨e, hall⟩ | ⟨k', e, -, hk', hu, hall⟩
    · rw [hall k (Nat.zero_le _) hk] at uk; cases uk
    · rw [e]
      rcases Nat.lt_trichotomy k k' with g | g | g
      · rw [hall k (Nat.zero_le _) g] at uk; cases uk
      · rw [g]
      · obtain ⟨n3, hn3, hi3⟩ := key k' hk'
        exact absurd (hi3.1 hu) (h5 k' n3 g hn3)
theorem mem_set {ws : List Int} {k : Nat} {y : Int} {b : Int} (h : ∀ x ∈ ws, 0 ≤ x ∧ x ≤ b) (hy : 0 ≤ y ∧ y ≤ b) : ∀ x ∈ ws.set k y, 0 ≤ x ∧ x ≤ b := fun x hx => (List.mem_or_eq_of_mem_set hx).elim (h x) (fun e => e ▸ hy)
def meas (w : World) (g : Nat) : Nat := ((List.range 16).map fun j => match w.cell? ⟨g, j, none⟩ with | some (.int _ x) => x.toNat | _ => 0).sum
def ints (ws : List Int) : List Value := ws.map (Value.int .i64)
theorem meas_of {w : World} {g : Nat} {t : TypeId} {ws : List Int} (k : Blk w g t (ints ws)) (h : ws.length = 16) : meas w g = (ws.map Int.toNat).sum := by
  unfold meas
  congr 1
  refine List.ext_getElem (by simp [h]) fun j h1 h2 => ?_
  simp only [List.length_map, List.length_range] at h1
  have hj : j < ws.length := by omega
  have := k.cell j
  have e : (ints ws)[j]? = some (.int .i64 ws[j]) := by unfold ints; rw [List.getElem?_map, List.getElem?_eq_getElem hj]; rfl
  rw [e] at this
  simp [this]
theorem sum_set {ws : List Nat} {k : Nat} {x y : Nat} (h : ws[k]? = some x) (hy : y < x) : (ws.set k y).sum < ws.sum := by
  induction ws generalizing k with
  | nil => simp at h
  | cons a r ih =>
    rcases k with _ | k
    · simp at h; subst h; simp; omega
    · simp at h; have := ih h; simp; omega
theorem meas_less {w w' : World} {g : Nat} {t : TypeId} {ws : List Int} {k : Nat} {x y : Int} (h : Blk w g t (ints ws)) (h' : Blk w' g t (ints (ws.set k y))) (hl : ws.length = 16) (hx : ws[k]? = some x) (hy : y < x) (h0 : 0 ≤ y) : meas w' g < meas w g := by
  rw [meas_of h hl, meas_of h' (by simpa using hl), List.map_set]
  exact sum_set (x := x.toNat) (by rw [List.getElem?_map, hx]; rfl) (by omega)
theorem ints_set (ws : List Int) (k : Nat) (y : Int) : (ints ws).set k (.int .i64 y) = ints (ws.set k y) := by unfold ints; rw [List.map_set]
theorem ints_at {w : World} {g : Nat} {t : TypeId} {ws : List Int} {k : Nat} {x : Int} (h : Blk w g t (ints ws)) (hx : ws[k]? = some x) : w.cell? ⟨g, k, none⟩ = some (.int .i64 x) := by
  rw [h.cell k]; unfold ints; rw [List.getElem?_map, hx]; rfl
theorem avoid {w : World} {B p : Nat} {ls : List Ln} {now : Int} (k : Ctl w (fun i => B ≤ i) p ls now) (hB : B ≤ w.heap.size) (o : Obj) : Ctl (w.alloc o) (fun i => B ≤ i ∧ i ≠ w.heap.size) p ls now := by
  obtain ⟨ds, h1, h2, h3⟩ := k
  exact ⟨ds, h1.alloc o, fun i hi => ⟨h2 i hi, by have := h1.lt hi; omega⟩, fun i hi => by simp at hi; omega⟩
def RelL (w : World) (lv iv : Value) (wr : World) : Prop := ∃ i : Nat, iv = .int .i64 i ∧ i ≤ 16 ∧ Slc wr 24 6 lv i (reps lz i) ∧ (∀ g, lv.ownBlock = some g → w.heap.size ≤ g) ∧ Below w.heap.size w wr
def St (w : World) (B g p : Nat) (c : Int) (f : Nat → Bool) (ws : List Int) (wr : World) : Prop :=
  ∃ (ls : List Ln) (N : Int), 0 ≤ N ∧ N ≤ 1 ∧ AllP c f ws ls ∧ (∀ x ∈ ws, 0 ≤ x ∧ x ≤ c) ∧ Ctl wr (fun i => B ≤ i ∧ i ≠ g) p ls N ∧ Blk wr g 3 (ints ws) ∧ Below w.heap.size w wr
def RelR (w : World) (B g p n : Nat) (iv : Value) (wr : World) : Prop := ∃ (i : Nat) (ws : List Int), iv = .int .i64 i ∧ i ≤ n ∧ St w B g p i (fun _ => false) ws wr
def msk (Mk : Nat → Bool) (i : Nat) (j : Nat) : Bool := if j < i then Mk j else false
def RelM (w : World) (B g p n m : Nat) (Mk : Nat → Bool) (iv : Value) (wr : World) : Prop := ∃ (i : Nat) (ws : List Int), iv = .int .i64 i ∧ i ≤ m ∧ St w B g p n (msk Mk i) ws wr
def RelK (w : World) (B g p n m : Nat) (Mk : Nat → Bool) (wr : World) : Prop := ∃ (ws : List Int), St w B g p n (msk Mk m) ws wr
def Uf (Mk : Nat → Bool) (m : Nat) (ws : List Int) (j : Nat) : Bool := decide (0 < ws[j]?.getD 0) && !msk Mk m j
def RelV (w4 : World) (m : Nat) (Mk : Nat → Bool) (ws : List Int) (vv iv : Value) (wr : World) : Prop :=
  ∃ (i : Nat) (v y : Int), iv = .int .i64 y ∧ y = i - 1 ∧ vv = .int .i64 v ∧ i ≤ 16 ∧ -1 ≤ v ∧ v ≤ 16 ∧ Lst (Uf Mk m ws) i v ∧ Below w4.heap.size w4 wr
set_option maxRecDepth 100000 in
set_option maxHeartbeats 4000000 in
theorem walk2 (w : World) (A : Option Addr) (n cap : Nat) (U : Nat → Int) (hA : Hid (IntsAt w .u8 A n U)) (hU : Hid (∀ i, i < n → 0 ≤ U i ∧ U i ≤ 255)) (A2 : Option Addr) (m cap2 : Nat) (Mk : Nat → Bool) (hA2 : Hid (BoolsAt w A2 m Mk)) (hn : n ≤ 140737488351232) (hm : m ≤ 140737488351232) :
    Calls Try.prog 7 #[.slice A n cap, .slice A2 m cap2] w fun e w' => e = .returned (.bool true) ∧ Below w.heap.size w w' := by
  by_cases h1 : n ≤ 60
  · have d1 : decide (60 < (n : Int)) = false := decide_eq_false (by omega)
    have d1' : decide (60 < n) = false := decide_eq_false (by omega)
    by_cases h2 : m ≤ 16
    · have d2 : decide (16 < (m : Int)) = false := decide_eq_false (by omega)
      have d2' : decide (16 < m) = false := decide_eq_false (by omega)
      obtain ⟨i0, hi0, hz0, hz1, hz2⟩ := info_parts infoLn
      go_enter Try.func7, Try.ntmps7
      go_wp2_with (go_at_call 9; (with_reducible refine Calls.mono (awake_any _) ?_); rintro e w1 ⟨rfl, b1⟩; have B1 := Lib.hid b1; clear b1)
      go_loopw [5, 6] (fun lv iv wr => Hid (RelL w lv iv wr)) (fun _ iv _ => 16 - (intOf iv).toNat)
      case atStart => exact ⟨0, rfl, by omega, Slc.nil _ _ _, fun g hg => by simp [Value.ownBlock] at hg, B1.out⟩
      case round =>
        obtain ⟨i, rfl, hi, hs, hlow, hbel⟩ := hrel
        have BEL := Lib.hid hbel
        have KS := Lib.hid hs
        have LOW := Lib.hid hlow
        by_cases h16 : i < 16
        · have h17 : (i : Int) < 16 := by omega
          obtain ⟨A3, c3, rfl, hc3⟩ := hs.shape
          clear hbel hs hlow B1
          go_wp2_with (at_builtin; refine wpList_append_slc _ rfl (.tmp 34) (.tmp 36) _ rfl 24 i0 _ 6 48 Try.underlying33 hi0 hz0 hz1 hz2 rfl (by omega) _ i (reps lz i) rfl (Slc.alloc KS.out _) (some ⟨wr.heap.size, 0, none⟩) 1 1 (lpCells lz) rfl (Src.block (Blk.new wr 24 (lpCells lz)) rfl) (by simp [Value.oneCell', lpCells]) (by omega) (by simp only [maxLen]; omega) ?_)
          intro v' w' hs' ho' hat'
          obtain ⟨A4, c4, e4, -⟩ := hs'.shape
          subst e4
          have HS := Lib.hid hs'
          have HAT := Lib.hid hat'
          have hlo : ∀ g, (Value.slice A3 i c3).ownBlock = some g → w.heap.size ≤ g := LOW.out
          have BN := Lib.hid (Below.onlyF (BEL.out.alloc BEL.out.size _) ho' hlo)
          have sz := BEL.out.size
          clear hs' ho' hat' hlo
          go_wp2_with fail
          go_roundw
          case rel => exact ⟨i + 1, by go_num, by omega, HS.out, fun g hg => by
            rcases HAT.out with e | e
            · exact LOW.out g (e ▸ hg)
            · rw [e] at hg; simp at hg; omega, BN.out⟩
          case measure => simp [intOf]; omega
        · have h17 : ¬ (i : Int) < 16 := by omega
          obtain rfl : i = 16 := by omega
          obtain ⟨A3, c3, rfl, hln⟩ := lns_slc hs (by omega)
          have NW := Lib.hid (newi_any wr A3 16 c3 (fun _ => lz) (Lib.hid hln) (Lib.hid (fun _ _ => lzok)) (by omega) (by omega))
          have RAL := fun W (hx : Lns W A3 16 (fun _ => lz)) => Lib.hid ((rall_any W A3 16 c3 (fun _ => lz) (Lib.hid hx) (Lib.hid (fun _ _ => lzok.rng)) (by omega)).mono (fun e w' (h : AllPost W 16 (fun _ => lz) e w') => show e = .returned (.bool true) ∧ Below W.heap.size W w' from by
            obtain ⟨r, hr, hi, hb⟩ := h
            have : r = true := hi.2 ⟨by omega, by omega, fun _ _ => mayI_of lzok⟩
            subst this
            exact ⟨hr, hb⟩))
          have hmk : ∀ W, (Instr.makeSlice 63 (.int .i64 16) (.int .i64 16)).run Try.prog W = .ok (.slice (some ⟨W.heap.size, 0, none⟩) 16 16) (W.alloc (.cells (row 16) 3)) := fun _ => by kernel_rfl
          have LN := Lib.hid hln
          clear hbel hs hlow B1 hi0 hz0 hz1 hz2 hln KS LOW
          go_wp2_with (first
            | (go_at_call 11; (with_reducible refine Calls.mono NW.out ?_); rintro e w2 hmd; obtain ⟨p, rfl, k2, b2⟩ := Ctl.made hmd; have K2 := Lib.hid k2; have B2 := Lib.hid b2; clear hmd k2 b2)
            | (go_at_call 18; (with_reducible refine Calls.mono (RAL _ (LN.out.below B2.out)).out ?_); rintro e w3 ⟨rfl, b3⟩; have B3 := Lib.hid b3; clear b3))
          have BW := Lib.hid ((Below.next (Below.next BEL.out B2.out) B3.out).alloc (Below.next (Below.next BEL.out B2.out) B3.out).size (.cells (row 16) 3))
          have CT := Lib.hid (avoid (K2.out.below B3.out) (Below.next B2.out B3.out).size (.cells (row 16) 3))
          have hgl : w3.heap.size < (w3.alloc (.cells (row 16) 3)).heap.size := by simp
          have hwg : w.heap.size ≤ w3.heap.size := (Below.next (Below.next BEL.out B2.out) B3.out).size
          have hwB : w.heap.size ≤ wr.heap.size := BEL.out.size
          clear hmk NW RAL LN K2 B2 B3 BEL
          obtain ⟨B, hB⟩ : ∃ B, B = wr.heap.size := ⟨_, rfl⟩
          rw [← hB] at CT hwB
          clear hB
          go_loopw [10] (fun iv wx => Hid (RelR w B w3.heap.size p n iv wx)) (fun iv _ => n - (intOf iv).toNat)
          case atStart => exact ⟨0, List.replicate 16 0, rfl, by omega, _, 0, by omega, by omega, AllP.new, (fun x hx => by rw [List.eq_of_mem_replicate hx]; exact ⟨Int.le_refl _, Int.le_refl _⟩), CT.out, Blk.new w3 _ _, BW.out⟩
          case round =>
            clear CT BW
            clear hgl
            obtain ⟨i, ws, rfl, hi, ls, N, hN0, hN1, hall, hws, hctl, hblk, hbel⟩ := hrel
            have ALL := Lib.hid hall
            have WS := Lib.hid hws
            have CTL := Lib.hid hctl
            have BLK := Lib.hid hblk
            have BEL := Lib.hid hbel
            have hgl := hblk.lt
            by_cases hin : i < n
            · have hin2 : (i : Int) < n := by omega
              obtain ⟨ab, ao, rfl, hlt, hcw⟩ := hA.out.at_ hin
              obtain ⟨u0, u1⟩ := hU.out _ hin
              have hcell := (hbel.cell (p := ⟨ab, ao + i, none⟩) hlt).trans hcw
              generalize U i = u at *
              obtain ⟨k, hk⟩ : ∃ k : Nat, u % 16 = (k : Int) := ⟨(u % 16).toNat, by omega⟩
              have hk16 : k < 16 := by omega
              obtain ⟨nl, x, g1, g2, hp, hmm⟩ := hall.get hk16
              obtain ⟨r1, r2, r3⟩ := hp.raise (by omega) hmm
              obtain ⟨x0, x1⟩ := hws x (List.mem_of_getElem? g2)
              have RA := Lib.hid (raise_ctl hctl (hall.oks (by omega) (fun y hy => by have := hws y hy; omega)) (by omega) (by omega) 1 hN1 (by omega) (by omega) k g1)
              have TU := Lib.hid (hall.turn (f' := fun _ => false) (by omega) (show (i : Int) ≤ i + 1 by omega) hk16 r2 r3 (fun _ _ => rfl))
              have G2 := Lib.hid g2
              have HK := Lib.hid hk
              clear hall hws hctl hblk hbel hcw g1 g2 hp hmm r1 r2 r3 hk
              have hk := HK.out
              generalize hrr : (raiseL 1 (stepL 1 nl)).1 = rr at *
              generalize hr2 : (raiseL 1 (stepL 1 nl)).2 = r2 at *
              clear hrr hr2
              go_wp2_with (go_at_call 12; (with_reducible refine Calls.mono RA.out ?_); rintro e w4 ⟨rfl, k4, o4⟩; have l4 := Blk.only BLK.out o4 (fun h => h.2 rfl); have c4 : w4.cell? ⟨w3.heap.size, k, none⟩ = some (.int .i64 x) := ints_at l4 G2.out; have f4 : w4.frozen? ⟨w3.heap.size, k, none⟩ = false := l4.free k; have L4 := Lib.hid l4; have K4 := Lib.hid k4; have O4 := Lib.hid o4; clear k4 o4 l4)
              have BB := Lib.hid ((Below.onlyF BEL.out O4.out (fun i hi => Nat.le_trans hwB hi.1)).setCell (p := ⟨w3.heap.size, k, none⟩) hwg (.int .i64 (x + 1)))
              go_roundw
              case rel => exact ⟨i + 1, ws.set k (x + 1), by go_num, by omega, _, 1, by omega, by omega, TU.out, mem_set (fun y hy => by have := WS.out y hy; omega) (by omega), K4.out.only (F := (· = w3.heap.size)) (Only.setCell (F := (· = w3.heap.size)) (Only.refl _ w4) (p := ⟨w3.heap.size, k, none⟩) (fun _ => rfl) _) (fun i hi h => h.2 hi), by rw [← ints_set]; exact L4.out.put k _, BB.out⟩
              case measure => simp [intOf]; omega
            · have hin2 : ¬ (i : Int) < n := by omega
              obtain rfl : i = n := by omega
              clear hall hws hctl hblk hbel
              go_wp2_with fail
              go_loopw [12] (fun iv wx => Hid (RelM w B w3.heap.size p i m Mk iv wx)) (fun iv _ => m - (intOf iv).toNat)
              case atStart => exact ⟨0, ws, rfl, by omega, ls, N, hN0, hN1, ALL.out, WS.out, CTL.out, BLK.out, BEL.out⟩
              case round =>
                clear ALL WS CTL BLK BEL hN0 hN1
                obtain ⟨j, ws, rfl, hj, ls, N, hN0, hN1, hall, hws, hctl, hblk, hbel⟩ := hrel
                have ALL := Lib.hid hall
                have WS := Lib.hid hws
                have CTL := Lib.hid hctl
                have BLK := Lib.hid hblk
                have BEL := Lib.hid hbel
                have hgl := hblk.lt
                by_cases hjm : j < m
                · have hjm2 : (j : Int) < m := by omega
                  obtain ⟨ab, ao, rfl, hlt, hcw⟩ := hA2.out.at_ hjm
                  have hcell := (hbel.cell (p := ⟨ab, ao + j, none⟩) hlt).trans hcw
                  have hj16 : j < 16 := by omega
                  obtain ⟨nl, x, g1, g2, hp, hmm⟩ := hall.get hj16
                  obtain ⟨r1, r2⟩ := hp.mask (by omega) (Mk j)
                  have MA := Lib.hid (mask_ctl hctl (hall.oks (by omega) (fun y hy => by have := hws y hy; omega)) (by omega) (by omega) 1 hN1 (by omega) (by omega) j g1 (Mk j))
                  have TU := Lib.hid (hall.turn (f' := msk Mk (j + 1)) (by omega) (Int.le_refl _) hj16 r1 (by rw [r2]; simp [msk]) (fun a ha => by unfold msk; by_cases h : a < j; rw [if_pos (by omega), if_pos h]; rw [if_neg (by omega), if_neg h]))
                  have hset : ws.set j x = ws := by
                    obtain ⟨e1, e2⟩ := List.getElem?_eq_some_iff.1 g2
                    rw [← e2]; exact List.set_getElem_self e1
                  have HS := Lib.hid hset
                  clear hall hws hctl hblk hbel hcw g1 g2 hp hmm r1 r2 hset
                  generalize Mk j = b at *
                  go_wp2_with (go_at_call 23; (with_reducible refine Calls.mono MA.out ?_); rintro e w4 ⟨rfl, k4, o4⟩; have L4 := Lib.hid (Blk.only BLK.out o4 (fun h => h.2 rfl)); have K4 := Lib.hid k4; have O4 := Lib.hid o4; clear k4 o4)
                  go_roundw
                  case rel => exact ⟨j + 1, ws, by go_num, by omega, _, 1, by omega, by omega, by have := TU.out; rw [HS.out] at this; exact this, WS.out, K4.out, L4.out, Below.onlyF BEL.out O4.out (fun i hi => Nat.le_trans hwB hi.1)⟩
                  case measure => simp [intOf]; omega
                · have hjm2 : ¬ (j : Int) < m := by omega
                  obtain rfl : j = m := by omega
                  clear hall hws hctl hblk hbel
                  go_wp2_with fail
                  go_loopw [13] (fun _ wx => Hid (RelK w B w3.heap.size p i j Mk wx)) (fun _ wx => meas wx w3.heap.size)
                  case atStart => exact ⟨ws, ls, N, hN0, hN1, ALL.out, WS.out, CTL.out, BLK.out, BEL.out⟩
                  case round =>
                    clear ALL WS CTL BLK BEL hN0 hN1
                    obtain ⟨ws, ls, N, hN0, hN1, hall, hws, hctl, hblk, hbel⟩ := hrel
                    have ALL := Lib.hid hall
                    have WS := Lib.hid hws
                    have CTL := Lib.hid hctl
                    have BLK := Lib.hid hblk
                    have BEL := Lib.hid hbel
                    have hgl := hblk.lt
                    have PP := Lib.hid (pending_ctl hctl)
                    clear hall hws hctl hblk hbel
                    generalize hq : pendQ ls 0 = q at *
                    obtain ⟨q1, q2, q3⟩ := q
                    have HQ := Lib.hid hq
                    clear hq
                    simp only at PP
                    go_wp2_with (go_at_call 25; (with_reducible refine Calls.mono PP.out ?_); rintro e w4 ⟨rfl, k4, o4⟩; have L4 := Lib.hid (Blk.below BLK.out o4 BLK.out.lt); have K4 := Lib.hid k4; have O4 := Lib.hid o4; clear k4 o4)
                    go_loopw [16, 17] (fun vv iv wx => Hid (RelV w4 j Mk ws vv iv wx)) (fun _ iv _ => (intOf iv + 1).toNat)
                    case atStart => exact ⟨16, -1, 15, rfl, rfl, rfl, by omega, by omega, by omega, Lst.none _, Below.refl _ _⟩
                    case round =>
                      obtain ⟨a, v, y, rfl, hy, rfl, ha, hv0, hv1, hlst, hbel⟩ := hrel
                      have BV := Lib.hid hbel
                      have LST := Lib.hid hlst
                      by_cases ha0 : 0 < a
                      · obtain ⟨k, rfl⟩ : ∃ k, a = k + 1 := ⟨a - 1, by omega⟩
                        obtain rfl : y = k := by omega
                        have hk16 : k < 16 := by omega
                        obtain ⟨nl, x, g1, g2, hp, hmm⟩ := ALL.out.get hk16
                        have cx := ints_at (Blk.below L4.out hbel L4.out.lt) g2
                        have gU : Uf Mk j ws k = (decide (0 < x) && !msk Mk j k) := by unfold Uf; rw [g2]; rfl
                        have GU := Lib.hid gU
                        have hk0 : (0 : Int) ≤ k := by omega
                        clear hbel hlst g1 g2 hp hmm gU hy
                        have finish : True := trivial
                        by_cases b1 : 0 < x
                        · have e1 : decide (0 < x) = true := decide_eq_true b1
                          by_cases b2 : j ≤ k
                          · have e2 : decide ((j : Int) ≤ k) = true := decide_eq_true (by omega)
                            have e3 : decide (j ≤ k) = true := decide_eq_true b2
                            have YES := Lib.hid (Lst.yes (p := Uf Mk j ws) (i := k) (by rw [GU.out, e1]; simp [msk]; omega) hk16)
                            go_wp2_with fail
                            go_roundw
                            case rel => exact ⟨k, k, _, rfl, rfl, rfl, by omega, by omega, by omega, YES.out, BV.out⟩
                            case measure => simp [intOf]
                          · have e2 : decide ((j : Int) ≤ k) = false := decide_eq_false (by omega)
                            have e3 : decide (j ≤ k) = false := decide_eq_false b2
                            obtain ⟨ab, ao, rfl, hlt, hcw⟩ := hA2.out.at_ (show k < j by omega)
                            have hcell := (BV.out.cell (p := ⟨ab, ao + k, none⟩) (Nat.lt_of_lt_of_le hlt (Below.next BEL.out O4.out).size)).trans (((Below.next BEL.out O4.out).cell (p := ⟨ab, ao + k, none⟩) hlt).trans hcw)
                            have hmk : msk Mk j k = Mk k := by unfold msk; rw [if_pos (by omega)]
                            have HMK := Lib.hid hmk
                            clear hcw hmk
                            cases hMk : Mk k with
                            | false =>
                              have YES := Lib.hid (Lst.yes (p := Uf Mk j ws) (i := k) (by rw [GU.out, e1, HMK.out, hMk]; rfl) hk16)
                              rw [hMk] at hcell
                              clear hMk
                              go_wp2_with fail
                              go_roundw
                              case rel => exact ⟨k, k, _, rfl, rfl, rfl, by omega, by omega, by omega, YES.out, BV.out⟩
                              case measure => simp [intOf]
                            | true =>
                              have NO := Lib.hid (Lst.no LST.out (p := Uf Mk j ws) (by rw [GU.out, e1, HMK.out, hMk]; rfl))
                              rw [hMk] at hcell
                              clear hMk
                              go_wp2_with fail
                              go_roundw
                              case rel => exact ⟨k, v, _, rfl, rfl, rfl, by omega, by omega, by omega, NO.out, BV.out⟩
                              case measure => simp [intOf]
                        · have e1 : decide (0 < x) = false := decide_eq_false b1
                          have NO := Lib.hid (Lst.no LST.out (p := Uf Mk j ws) (by rw [GU.out, e1]; rfl))
                          go_wp2_with fail
                          go_roundw
                          case rel => exact ⟨k, v, _, rfl, rfl, rfl, by omega, by omega, by omega, NO.out, BV.out⟩
                          case measure => simp [intOf]
                      · obtain rfl : a = 0 := by omega
                        obtain rfl : y = -1 := by omega
                        have hun := least_of ALL.out (U := Uf Mk j ws) (fun a x hx => by unfold Uf; rw [hx]; rfl) LST.out
                        rw [HQ.out] at hun
                        clear hbel hlst hy
                        rcases hun with ⟨hq, rfl⟩ | ⟨k, nl, x, hk16, g1, g2, hp, hmm, hfk, hpp, hq, rfl⟩
                        · simp only [Prod.mk.injEq] at hq
                          obtain ⟨rfl, rfl, rfl⟩ := hq
                          go_wp2_with fail
                          go_ret
                          exact ⟨rfl, Below.next (Below.next BEL.out O4.out) BV.out⟩
                        · simp only [Prod.mk.injEq] at hq
                          obtain ⟨rfl, rfl, rfl⟩ := hq
                          obtain ⟨r1, r2, r3, r4⟩ := hp.ack (by omega) hmm hpp
                          obtain ⟨x0, x1⟩ := WS.out x (List.mem_of_getElem? g2)
                          have AK := fun W kW => Lib.hid (ack_ctl (w := W) (O := fun i => B ≤ i ∧ i ≠ w3.heap.size) (p := p) (ls := ls) (now := N) kW (ALL.out.oks (by omega) (fun y hy => by have := WS.out y hy; omega)) (by omega) (by omega) 1 hN1 (by omega) (by omega) k g1)
                          simp only [r1] at AK
                          have TU := Lib.hid (ALL.out.turn (f' := msk Mk j) (by omega) (Int.le_refl _) hk16 r2 (r3.trans hfk.symm) (fun _ _ => rfl))
                          have G2 := Lib.hid g2
                          clear g1 g2 hp hmm r1 r2 r3
                          generalize nl.pends = pp at *
                          have e1 : decide (pp < 1) = false := decide_eq_false (by omega)
                          have e2 : decide (x < pp) = false := decide_eq_false (by omega)
                          go_wp2_with (go_at_call 14; (with_reducible refine Calls.mono (AK _ (K4.out.below BV.out)).out ?_); rintro e w5 ⟨rfl, k5, o5⟩; have l5 := Blk.only (Blk.below L4.out BV.out L4.out.lt) o5 (fun h => h.2 rfl); have c5 : w5.cell? ⟨w3.heap.size, k, none⟩ = some (.int .i64 x) := ints_at l5 G2.out; have f5 : w5.frozen? ⟨w3.heap.size, k, none⟩ = false := l5.free k; have L5 := Lib.hid l5; have K5 := Lib.hid k5; have O5 := Lib.hid o5; clear k5 o5 l5)
                          have BB := Lib.hid ((Below.onlyF (Below.next (Below.next BEL.out O4.out) BV.out) O5.out (fun i hi => Nat.le_trans hwB hi.1)).setCell (p := ⟨w3.heap.size, k, none⟩) hwg (.int .i64 (x - pp)))
                          have LB := Lib.hid (show Blk (w5.setCell ⟨w3.heap.size, k, none⟩ (.int .i64 (x - pp))) w3.heap.size 3 (ints (ws.set k (x - pp))) from by rw [← ints_set]; exact L5.out.put k _)
                          go_roundw
                          case rel => exact ⟨ws.set k (x - pp), _, 1, by omega, by omega, TU.out, mem_set WS.out (by omega), K5.out.only (F := (· = w3.heap.size)) (Only.setCell (F := (· = w3.heap.size)) (Only.refl _ w5) (p := ⟨w3.heap.size, k, none⟩) (fun _ => rfl) _) (fun i hi h => h.2 hi), LB.out, BB.out⟩
                          case measure => exact meas_less BLK.out LB.out ALL.out.lenw G2.out (by omega) (by omega)
    · have d2 : decide (16 < (m : Int)) = true := decide_eq_true (by omega)
      go_enter Try.func7, Try.ntmps7
      go_wp2_with (go_at_call 9; (with_reducible refine Calls.mono (awake_any _) ?_); rintro e w1 ⟨rfl, b1⟩; have B1 := Lib.hid b1; clear b1)
      go_ret
      exact ⟨rfl, B1.out⟩
  · have d1 : decide (60 < (n : Int)) = true := decide_eq_true (by omega)
    go_enter Try.func7, Try.ntmps7
    go_wp2_with (go_at_call 9; (with_reducible refine Calls.mono (awake_any _) ?_); rintro e w1 ⟨rfl, b1⟩; have B1 := Lib.hid b1; clear b1)
    go_ret
    exact ⟨rfl, B1.out⟩
theorem walk (w : World) (A : Option Addr) (n cap : Nat) (D : Nat → List Value) (w2 : Elems w [some .u8] A n D) (hl : n * 1 ≤ 140737488351232) (A2 : Option Addr) (m cap2 : Nat) (D2 : Nat → List Value) (v2 : Elems w [none] A2 m D2) (hl2 : m * 1 ≤ 140737488351232) :
    Calls Try.prog 7 #[.slice A n cap, .slice A2 m cap2] w fun e w' => e = .returned (.bool true) ∧ Below w.heap.size w w' := by
  obtain ⟨U, hU, hw⟩ := ints_of w2
  obtain ⟨Mk, hM⟩ := bools_of v2
  exact walk2 w A n cap U hU (fun i hi => bounds_u8 (hw i hi)) A2 m cap2 Mk hM (by omega) (by omega)
end irqLeast
namespace irqLeast
theorem own : ownKnob Try.prog.godebug = none := by kernel_rfl
set_option maxRecDepth 100000 in
theorem lifted (os : Os) (started : os.Started) (H : Type) (enc : TypeId × Value → H) :
    ReturnsInHanded {} Try.checked os 7 .any (Rows.irqLeastSpec.pre6 enc Try.prog Try.f7 Rows.irqLeastRow.domain false) (Rows.irqLeastSpec.post enc Try.prog Try.f7 false true false false) := by
  refine returnsInHanded_of_change_sized (C := Try.checked) own started (by kernel_rfl) Try.func7
    (ChangeSpec.witness6 (enc := enc) (C := Try.checked) false ⟨#[], #[.slice none 0 0, .slice none 0 0], []⟩ 8 (by kernel_rfl) (by kernel_rfl) (by kernel_rfl) (by kernel_rfl)) ?_
  intro W base args ds gs before hval0 hW hcnd hsz0 _
  have hsz : (DataW.weightsEach Try.prog (Try.f7.params.toList ++ Rows.irqLeastSpec.plain.varTypes Try.prog) (ds ++ gs)).all (· ≤ reachBytes) = true := hsz0
  have hval : ∀ (j : Nat) t v, Try.f7.params[j]? = some t → args[j]? = some v → Value.okWide Try.prog W .any base t v := hval0
  have hW' := hW
  obtain ⟨p, q, hA0, hV, rfl, hfz, hnd⟩ := hW
  have hA : DataW.TrodAll enc Try.prog W 0 (fun _ => true) true Try.f7.params.toList args.toList ds p := hA0
  rw [Try.params7] at hA hval hsz
  obtain ⟨v0, vs0, d0, ds0, p0, q0, hargs, rfl, rfl, h0, r0⟩ := trodAll_cons hA
  obtain ⟨v1, vs1, d1, ds1, p1, q1, rfl, rfl, rfl, h1, r1⟩ := trodAll_cons r0
  obtain ⟨rfl, rfl, rfl⟩ := trodAll_nil r1
  obtain rfl : args = #[v0, v1] := by cases args; simp_all
  obtain ⟨rfl, rfl⟩ := trodVars_none hV
  obtain ⟨A0, n0, cap0, D0, rfl, w0, m0, z0⟩ := arg_slice [some .u8] Try.underlying25 6 (by kernel_rfl) (by kernel_rfl) (hval 0 25 v0 rfl rfl) h0
  have l0 : n0 * Try.prog.bytesOf 5 ≤ reachBytes := by
    rcases z0 with ⟨_, e⟩ | ⟨es, sp, e, el⟩
    · subst e; simp
    · subst e; subst el; exact Nat.le_trans (Nat.mul_le_mul_right _ (Nat.le_add_right _ _)) (sized_slice hsz (j := 0) (t := 25) (e := 5) rfl rfl Try.underlying25)
  have b0 : Try.prog.bytesOf 5 = 1 := by kernel_rfl
  rw [b0] at l0
  simp only [reachBytes] at l0
  clear z0 b0
  obtain ⟨A1, n1, cap1, D1, rfl, w1, m1, z1⟩ := arg_slice [none] Try.underlying62 6 (by kernel_rfl) (by kernel_rfl) (hval 1 62 v1 rfl rfl) h1
  have l1 : n1 * Try.prog.bytesOf 4 ≤ reachBytes := by
    rcases z1 with ⟨_, e⟩ | ⟨es, sp, e, el⟩
    · subst e; simp
    · subst e; subst el; exact Nat.le_trans (Nat.mul_le_mul_right _ (Nat.le_add_right _ _)) (sized_slice hsz (j := 1) (t := 62) (e := 4) rfl rfl Try.underlying62)
  have b1 : Try.prog.bytesOf 4 = 1 := by kernel_rfl
  rw [b1] at l1
  simp only [reachBytes] at l1
  clear z1 b1
  clear hA0 hval0 hsz0 hsz
  refine (walk W A0 n0 cap0 D0 w0 l0 A1 n1 cap1 D1 w1 l1).mono fun e W' ⟨he, bel⟩ => ?_
  subst he
  exact ⟨_, rfl, _, _, _, [], _, [], hW', trodAll_mk1 (shut_bool Try.underlying4 _), (trodAll_cons_mk (Below.trod laidOut (by kernel_rfl) (of_decide_eq_true (by kernel_rfl)) h0 bel (fun x hx => by simpa using hW'.lt x (by simp [hx]))) (trodAll_cons_mk (Below.trod laidOut (by kernel_rfl) (of_decide_eq_true (by kernel_rfl)) h1 bel (fun x hx => by simpa using hW'.lt x (by simp [hx]))) trodAll_mk0)), rfl, bel.frame _, fun h => by cases h⟩
theorem over : Rows.irqLeastRow.holds Try.pinned (OpenSpec.ofChange Rows.irqLeastSpec) :=
  OpenClaim.holds_of_wide 7 Try.f7 rfl rfl rfl rfl rfl rfl rfl ⟨rfl, rfl, rfl, rfl, rfl⟩ rfl rfl rfl rfl rfl (by kernel_rfl) Try.func7 (by kernel_rfl)
    (of_decide_eq_true (by kernel_rfl)) (by unfold Func.isWrapper; first | (rw [if_pos (by decide +kernel)]; kernel_rfl) | (rw [if_neg (by decide +kernel)]; exact ⟨rfl, rfl⟩))
    (fun os started H enc _ => lifted os started H enc)
end irqLeast
theorem irqLeast_holds : Rows.IrqLeastSaid := irqLeast.over
#print axioms irqLeast_holds
end Go.Proofs.Ytbdhmjlbogjkoaa
