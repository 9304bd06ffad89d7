/- BusAlone: who wants the bus alone has it as often as its share and its burst let, and is stalled else. No condition. -/
import Derived.Test.YtbfhohcimomphaaBusEight
import Derived.Test.YtbfhohcimomphaaBusWin
import Derived.Test.YtbfhohcimomphaaBusIds
import Derived.Test.YtbfhohcimomphaaArgs
import Derived.Test.YtbfhohcimomphaaStill
import Derived.Test.YtbfhohcimomphaaArg
import Derived.Test.YtbfhohcimomphaaRows
import Derived.ProofKit
import Derived.OpenShut
import Derived.ShutString
import Derived.ChangeOld
import Derived.Below
import Derived.SizedLaws
namespace Go.Proofs.Ytbfhohcimomphaa
open Go.ChangeShapes Go.WideShapes Go.ChangeAt Go.RowKit
open Go.ChangeMaps (open_string shut_string)
set_option linter.unusedVariables false
set_option linter.unusedSimpArgs false
namespace busAlone
/-- Behind t ticks: what the master has had in its window, how many in a row, how often it was stalled. -/
structure Al (m : Mp) (t : Nat) (had row st : Int) (B : Bu) : Prop where
  g : GoodB [m] 0 t t B
  hS : B.S[0]? = some st
  s0 : 0 ≤ st ∧ st ≤ t
  r0 : 0 ≤ row ∧ row ≤ t
  h0 : 0 ≤ had ∧ had ≤ t
  hr : B.row = row
  hw : 0 < row → B.who = 0
  hb : (t = 0 ∧ B.beg = false ∧ row = 0) ∨ (0 < t ∧ B.beg = true ∧ B.last = (t : Int) - 1)
  hm : ∃ s, B.M[0]? = some s ∧ ((t = 0 ∧ s.k = 0 ∧ had = 0) ∨ (0 < t ∧ s.t ≤ (t : Int) - 1 ∧ had = kap ((t : Int) - 1) s))
theorem win_beg (T : Int) (want : Nat → Bool) (B : Bu) : (winB T want (freshB T B)).2.beg = true ∧ (winB T want (freshB T B)).2.last = T := by
  unfold winB; split <;> exact ⟨rfl, rfl⟩
/-- What it has had, the window begun. -/
def hadN (m : Mp) (t : Nat) (had : Int) : Int := if (t : Int) % m.p = 0 then 0 else had
theorem Al.kp {m : Mp} {t : Nat} {had row st : Int} {B : Bu} (a : Al m t had row st B) (ok : m.ok) : ∃ s, B.M[0]? = some s ∧ NowM m.b m.p 0 t s ∧ kap t s = hadN m t had := by
  obtain ⟨s, e1, e2⟩ := a.hm
  obtain ⟨s', e3, n⟩ := a.g.met 0 m rfl
  rw [e1] at e3; cases e3
  refine ⟨s, e1, n, ?_⟩
  obtain ⟨m1, m2, m3, m4⟩ := mayM_iff.1 ok.may
  have hx := n.ok.x
  rw [n.hf, n.hp] at hx
  have st0 := n.ok.t0
  rw [n.hf] at st0
  unfold kap hadN
  rw [n.hf, n.hp]
  have d := Int.emod_add_mul_ediv (t : Int) m.p
  rcases e2 with ⟨rfl, k0, rfl⟩ | ⟨t0, st1, e4⟩
  · split <;> split <;> omega
  · unfold kap at e4
    rw [n.hf, n.hp] at e4
    by_cases z : (t : Int) % m.p = 0
    · rw [if_pos z, if_neg]
      intro h
      have h1 : s.t / m.p ≤ ((t : Int) - 1) / m.p := Int.ediv_le_ediv (by omega) (by omega)
      have h2 : ((t : Int) - 1) / m.p < (t : Int) / m.p := Int.ediv_lt_of_lt_mul (by omega) (by rw [Int.mul_comm]; omega)
      simp only [Int.sub_zero] at hx h
      omega
    · rw [if_neg z, e4]
      have h3 : ((t : Int) - 1 - 0) / m.p = ((t : Int) - 0) / m.p := by
        simp only [Int.sub_zero]
        have h5 := Int.emod_lt_of_pos (t : Int) (show 0 < m.p by omega)
        have h6 := Int.emod_nonneg (t : Int) (show m.p ≠ 0 by omega)
        have h7 : (t : Int) - 1 = ((t : Int) % m.p - 1) + m.p * ((t : Int) / m.p) := by omega
        rw [h7, Int.add_mul_ediv_left _ _ (by omega), Int.ediv_eq_zero_of_lt (by omega) (by omega)]; omega
      rw [h3]
def may (m : Mp) (t : Nat) (had row : Int) : Bool := decide (hadN m t had < m.b) && (decide (m.u = 0) || decide (row < m.u))
theorem Al.fresh {m : Mp} {t : Nat} {had row st : Int} {B : Bu} (a : Al m t had row st B) : (freshB t B).row = row ∧ (0 < row → (freshB t B).who = 0) := by
  unfold freshB
  rcases a.hb with ⟨e1, e2, e3⟩ | ⟨e1, e2, e3⟩
  · simp only [e2, true_or, if_true]
    exact ⟨e3.symm, fun h => by omega⟩
  · have h : ¬ (B.beg = false ∨ (t : Int) ≠ B.last + 1) := by rw [e2, e3]; simp
    simp only [if_neg h]
    exact ⟨a.hr, a.hw⟩
theorem Al.able {m : Mp} {t : Nat} {had row st : Int} {B : Bu} (a : Al m t had row st B) (ok : m.ok) (ht : t ≤ 200) (want : Nat → Bool) : ab t want (freshB t B) 0 = (want 0 && may m t had row) := by
  obtain ⟨s, e1, n, e2⟩ := a.kp ok
  obtain ⟨f1, f2⟩ := a.fresh
  have u0 := ok.u0
  rw [ab_some (B := freshB t B) (m := m) (s := s) (by show B.L[0]? = some m; rw [a.g.hL]; rfl) e1]
  congr 1
  have h := may_can (who := (freshB t B).who) (row := (freshB t B).row) (i := 0) (m := m) (T := (t : Int)) (by omega) n.t
  have h2 : can t (freshB t B).who (freshB t B).row 0 m s ↔ may m t had row = true := by
    unfold can may
    rw [e2, n.hb, f1]
    simp only [Bool.and_eq_true, Bool.or_eq_true, decide_eq_true_eq]
    have r0 := a.r0
    constructor
    · rintro ⟨h1, h2⟩
      refine ⟨h2, ?_⟩
      by_cases z : m.u = 0
      · exact .inl z
      · refine .inr (Decidable.byContradiction fun h3 => h1 ⟨by omega, ?_, by omega⟩)
        have := f2 (by omega)
        simpa using this
    · rintro ⟨h1, h2⟩
      exact ⟨fun h3 => by omega, h1⟩
  rw [Bool.eq_iff_iff]
  exact h.trans h2
theorem stallB_no (want : Nat → Bool) (id : Int) (S : List Int) (h : want 0 = false ∨ id = 0) : stallB want id S 1 = S := by
  show (if want 0 = true ∧ ((0 : Nat) : Int) ≠ id then _ else S) = S
  rw [if_neg]
  rintro ⟨h1, h2⟩
  rcases h with h | h
  · rw [h] at h1; cases h1
  · exact h2 (by rw [h]; rfl)
theorem stallB_yes (want : Nat → Bool) (id : Int) (S : List Int) (h : want 0 = true) (h2 : id ≠ 0) {x : Int} (hx : S[0]? = some x) : (stallB want id S 1)[0]? = some (x + 1) := by
  show (if want 0 = true ∧ ((0 : Nat) : Int) ≠ id then S.set 0 ((S[0]?.getD 0) + 1) else S)[0]? = _
  rw [if_pos ⟨h, fun e => h2 (by rw [← e]; rfl)⟩, List.getElem?_set_self (List.getElem?_eq_some_iff.1 hx).1, hx]; rfl
theorem Al.idle {m : Mp} {t : Nat} {had row st : Int} {B B' : Bu} (a : Al m t had row st B) (ok : m.ok) (hM : ∀ (j : Nat) (s : Ms), B.M[j]? = some s → ∃ s' : Ms, B'.M[j]? = some s' ∧ IdleM t s s') :
    ∃ s, B'.M[0]? = some s ∧ ((t + 1 = 0 ∧ s.k = 0 ∧ hadN m t had = 0) ∨ (0 < t + 1 ∧ s.t ≤ ((t + 1 : Nat) : Int) - 1 ∧ hadN m t had = kap (((t + 1 : Nat) : Int) - 1) s)) := by
  obtain ⟨s, e1, n, e2⟩ := a.kp ok
  obtain ⟨s', e3, e4⟩ := hM 0 s e1
  have nt := n.t
  have e : ((t + 1 : Nat) : Int) - 1 = t := by omega
  refine ⟨s', e3, .inr ⟨by omega, ?_, ?_⟩⟩
  · rw [e]
    rcases e4 with rfl | rfl
    · exact nt
    · exact Int.le_refl _
  · rw [e]
    rcases e4 with rfl | rfl
    · exact e2.symm
    · exact (e2.symm.trans (kap_on s t).symm)
theorem hadN_rng {m : Mp} {t : Nat} {had : Int} (h : 0 ≤ had ∧ had ≤ t) : 0 ≤ hadN m t had ∧ hadN m t had ≤ t := by unfold hadN; split <;> omega
/-- A tick without a want. -/
theorem Al.none {m : Mp} {t : Nat} {had row st : Int} {B : Bu} (a : Al m t had row st B) (ok : m.ok) (ht : t < 200) :
    ∃ B', winB t (wants []) (freshB t B) = ((0, 5), B') ∧ Al m (t + 1) (hadN m t had) 0 st B' := by
  obtain ⟨wn, g'⟩ := a.g.won (by omega) (by omega) (wants [])
  obtain ⟨b1, b2⟩ := win_beg t (wants []) B
  have w0 : ∀ k, wants [] k = false := fun k => by simp [wants]
  have ab0 : ab t (wants []) (freshB t B) 0 = false := by rw [a.able ok (by omega)]; simp [w0]
  have hh := hadN_rng (m := m) a.h0
  generalize hW : winB t (wants []) (freshB t B) = W at *
  cases wn with
  | @none B' h hw hr hS hM =>
    have hS : B'.S = stallB (wants []) (-1) B.S 1 := hS
    rw [stallB_no _ _ _ (.inl (w0 0))] at hS
    exact ⟨B', rfl, g', by rw [hS]; exact a.hS, by have := a.s0; omega, by omega, by omega, hr, fun h => by omega, .inr ⟨by omega, b1, by rw [b2]; omega⟩, a.idle ok hM⟩
  | @one id B' h hw hr hS hM =>
    have := h.able
    obtain rfl : id = 0 := by have := h.lt; simp at this; omega
    rw [ab0] at this; cases this
/-- A tick with a want. -/
theorem Al.want {m : Mp} {t : Nat} {had row st : Int} {B : Bu} (a : Al m t had row st B) (ok : m.ok) (ht : t < 200) :
    (may m t had row = true → ∃ B', winB t (wants [0]) (freshB t B) = ((0, 0), B') ∧ Al m (t + 1) (hadN m t had + 1) (row + 1) st B') ∧
    (may m t had row = false → ∃ B', winB t (wants [0]) (freshB t B) = ((0, 5), B') ∧ Al m (t + 1) (hadN m t had) 0 (st + 1) B') := by
  obtain ⟨wn, g'⟩ := a.g.won (by omega) (by omega) (wants [0])
  obtain ⟨b1, b2⟩ := win_beg t (wants [0]) B
  obtain ⟨f1, f2⟩ := a.fresh
  have w0 : wants [0] 0 = true := by simp [wants]
  have ab0 := a.able ok (by omega) (wants [0])
  rw [w0, Bool.true_and] at ab0
  have hh := hadN_rng (m := m) a.h0
  generalize hW : winB t (wants [0]) (freshB t B) = W at *
  cases wn with
  | @none B' h hw hr hS hM =>
    have h1 := h 0 (by simp)
    rw [ab0] at h1
    refine ⟨fun h2 => by rw [h1] at h2; (cases h2), fun _ => ⟨B', rfl, g', ?_, by have := a.s0; omega, by omega, by omega, hr, fun h => by omega, .inr ⟨by omega, b1, by rw [b2]; omega⟩, a.idle ok hM⟩⟩
    rw [hS]; exact stallB_yes _ _ _ w0 (by decide) a.hS
  | @one id B' h hw hr hS hM =>
    obtain rfl : id = 0 := by have := h.lt; simp at this; omega
    have h1 := h.able
    rw [ab0] at h1
    refine ⟨fun _ => ⟨B', rfl, g', ?_, by have := a.s0; omega, by have := a.r0; omega, by omega, ?_, fun _ => hw, .inr ⟨by omega, b1, by rw [b2]; omega⟩, ?_⟩, fun h2 => by rw [h1] at h2; cases h2⟩
    · have hS : B'.S = stallB (wants [0]) 0 B.S 1 := hS
      rw [hS, stallB_no _ _ _ (.inr rfl)]; exact a.hS
    · rw [hr, f1]
      by_cases z : 0 < row
      · rw [if_pos (by rw [f2 z]; rfl)]
      · have := a.r0
        split <;> omega
    · obtain ⟨s, e1, n, e2⟩ := a.kp ok
      obtain ⟨s', e3, -, e4⟩ := hM 0 s e1
      obtain ⟨e5, rfl⟩ := e4 rfl
      have e : ((t + 1 : Nat) : Int) - 1 = t := by omega
      refine ⟨_, e3, .inr ⟨by omega, by rw [e]; exact Int.le_refl _, ?_⟩⟩
      rw [e, ← e2]
      show kap t s + 1 = if ((t : Int) - s.f) / s.p = ((t : Int) - s.f) / s.p then kap t s + 1 else 0
      rw [if_pos rfl]
theorem Al.first {m : Mp} (ok : m.ok) : Al m 0 0 0 0 (newB [m] 0 1) := by
  refine ⟨⟨newB_at (L := [m]) (fun x hx => by simp at hx; subst hx; exact ok) (by simp) (by decide) (by decide), rfl, rfl, fun i x hx => ?_⟩, rfl, by simp, by simp, by simp, rfl, fun h => by omega, .inl ⟨rfl, rfl, rfl⟩, ⟨_, rfl, .inl ⟨rfl, rfl, rfl⟩⟩⟩
  have hi : i = 0 := by have := (List.getElem?_eq_some_iff.1 hx).1; simp at this; omega
  subst hi
  cases hx
  exact ⟨_, rfl, NowM.new ok.may (by decide) (by decide)⟩
theorem slotY {w : World} {A : Bl} {m : Mp} {t : Nat} {had row st : Int} {B : Bu} (k : IsB w A B) (a : Al m t had row st B) (ok : m.ok) (ht : t < 200) (h : may m t had row = true) :
    Calls Try.prog 12 #[.pointer (some ⟨A.p, 0, none⟩), .int .u64 t, .slice (some ⟨w.heap.size, 0, none⟩) 1 1] (w.alloc (.cells #[.int .i64 0] 3)) fun e w' =>
      e = .returned (.tuple #[.int .i64 0, .int .i64 0]) ∧ (∃ B', IsB w' A B' ∧ Al m (t + 1) (hadN m t had + 1) (row + 1) st B') ∧ Only A.own w w' := by
  obtain ⟨B', e, a'⟩ := (a.want ok ht).1 h
  have hl : B.L.length = 1 := by rw [a.g.hL]; rfl
  have c := slot_new (l := [0]) k a.g.at_ (by omega) (by omega) (by omega) (by decide) (by rw [hl]; decide) e 1
  exact Calls.mono c fun e w' ⟨e1, k1, _, o1⟩ => ⟨e1, ⟨B', k1, a'⟩, o1⟩
theorem slotN {w : World} {A : Bl} {m : Mp} {t : Nat} {had row st : Int} {B : Bu} (k : IsB w A B) (a : Al m t had row st B) (ok : m.ok) (ht : t < 200) (h : may m t had row = false) :
    Calls Try.prog 12 #[.pointer (some ⟨A.p, 0, none⟩), .int .u64 t, .slice (some ⟨w.heap.size, 0, none⟩) 1 1] (w.alloc (.cells #[.int .i64 0] 3)) fun e w' =>
      e = .returned (.tuple #[.int .i64 0, .int .i64 5]) ∧ (∃ B', IsB w' A B' ∧ Al m (t + 1) (hadN m t had) 0 (st + 1) B') ∧ Only A.own w w' := by
  obtain ⟨B', e, a'⟩ := (a.want ok ht).2 h
  have hl : B.L.length = 1 := by rw [a.g.hL]; rfl
  have c := slot_new (l := [0]) k a.g.at_ (by omega) (by omega) (by omega) (by decide) (by rw [hl]; decide) e 1
  exact Calls.mono c fun e w' ⟨e1, k1, _, o1⟩ => ⟨e1, ⟨B', k1, a'⟩, o1⟩
theorem slot0 {w : World} {A : Bl} {m : Mp} {t : Nat} {had row st : Int} {B : Bu} (k : IsB w A B) (a : Al m t had row st B) (ok : m.ok) (ht : t < 200) :
    Calls Try.prog 12 #[.pointer (some ⟨A.p, 0, none⟩), .int .u64 t, .slice none 0 0] w fun e w' =>
      e = .returned (.tuple #[.int .i64 0, .int .i64 5]) ∧ (∃ B', IsB w' A B' ∧ Al m (t + 1) (hadN m t had) 0 st B') ∧ Only A.own w w' := by
  obtain ⟨B', e, a'⟩ := a.none ok ht
  have c := slot_nil k a.g.at_ (by omega) (by omega) (by omega) e
  exact Calls.mono c fun e w' ⟨e1, k1, _, o1⟩ => ⟨e1, ⟨B', k1, a'⟩, o1⟩
theorem stallsA {w : World} {A : Bl} {m : Mp} {t : Nat} {had row st : Int} {B : Bu} (k : IsB w A B) (a : Al m t had row st B) :
    Calls Try.prog 16 #[.pointer (some ⟨A.p, 0, none⟩), .int .i64 0] w fun e w' => e = .returned (.int .i64 st) ∧ w = w' :=
  stalls_any (i := 0) k a.g.at_.l16 (by rw [a.g.hL]; simp) a.hS
def mcs (m : Mp) : Array Value := #[.int .i64 m.q, .int .i64 m.u, .int .u64 m.b, .int .u64 m.p]
theorem box1 (w : World) (m : Mp) (W : World) (h : Below (w.alloc (.cells (mcs m) 41)).heap.size (w.alloc (.cells (mcs m) 41)) W) :
    W.cell? ⟨w.heap.size, 0, none⟩ = some (.int .i64 m.q) ∧ W.cell? ⟨w.heap.size, 1, none⟩ = some (.int .i64 m.u) ∧ W.cell? ⟨w.heap.size, 2, none⟩ = some (.int .u64 m.b) ∧ W.cell? ⟨w.heap.size, 3, none⟩ = some (.int .u64 m.p) := by
  have k := (Blk.new w 41 [.int .i64 m.q, .int .i64 m.u, .int .u64 m.b, .int .u64 m.p]).below h (by simp)
  exact ⟨k.cell 0, k.cell 1, k.cell 2, k.cell 3⟩
theorem mps1 (m : Mp) (w : World) : Mps (w.alloc (.cells (mcs m) 41)) (some ⟨w.heap.size, 0, none⟩) [m] := by
  have k := Blk.new w 41 [.int .i64 m.q, .int .i64 m.u, .int .u64 m.b, .int .u64 m.p]
  intro i x hx
  have hi : i = 0 := by have := (List.getElem?_eq_some_iff.1 hx).1; simp at this; omega
  subst hi
  cases hx
  exact ⟨w.heap.size, 0, rfl, k.lt, k.cell 0, k.cell 1, k.cell 2, k.cell 3⟩
theorem made (w : World) {m : Mp} (ok : m.ok) :
    Calls Try.prog 10 #[.slice (some ⟨w.heap.size, 0, none⟩) 1 1, .int .u64 0] (w.alloc (.cells #[.int .i64 m.q, .int .i64 m.u, .int .u64 m.b, .int .u64 m.p] 41)) fun e w' =>
      ∃ A : Bl, e = .returned (.tuple #[.pointer (some ⟨A.p, 0, none⟩), .int .i64 0]) ∧ IsB w' A (newB [m] 0 1) ∧ (∀ a, A.own a → w.heap.size ≤ a) ∧ Below w.heap.size w w' := by
  have mm : ∀ x ∈ [m], x.ok := fun x hx => by simp at hx; subst hx; exact ok
  have c0 := newb_any (w.alloc (.cells (mcs m) 41)) (some ⟨w.heap.size, 0, none⟩) 1 [m] 0 (Lib.hid (mps1 m w)) (Lib.hid mm) (by simp) (by simp) (by decide) (by decide)
  rw [show [m].length = 1 from rfl] at c0
  refine Calls.mono c0 fun e w1 ⟨A, e1, k1, lo, b1⟩ => ⟨A, e1, k1, fun a ha => ?_, ?_⟩
  · have := lo a (.inl ha); simp only [World.alloc, Array.size_push] at this; omega
  · exact Below.trans ((Below.refl w.heap.size w).alloc (Nat.le_refl _) _) (Below.mono b1 (show w.heap.size ≤ _ from by simp only [World.alloc, Array.size_push]; omega))
def RelT (w : World) (A : Bl) (m : Mp) (rv hv sv tv : Value) (wr : World) : Prop :=
  ∃ (t : Nat) (had row st : Int) (B : Bu), tv = .int .u64 t ∧ hv = .int .u64 had ∧ rv = .int .i64 row ∧ sv = .int .i64 st ∧ t ≤ 200 ∧ IsB wr A B ∧ Al m t had row st B ∧ Below (w.alloc (.cells (mcs m) 41)).heap.size (w.alloc (.cells (mcs m) 41)) wr
set_option maxRecDepth 100000 in
set_option maxHeartbeats 40000000 in
theorem walk2 (w : World) (m : Mp) (r : m.rng) (A0 : Option Addr) (n cap : Nat) (U : Nat → Bool) (hA : Hid (BoolsAt w A0 n U)) (hn9 : n ≤ 140737488351232) :
    Calls Try.prog 4 #[.agg #[.int .i64 m.q, .int .i64 m.u, .int .u64 m.b, .int .u64 m.p], .slice A0 n cap] w fun e w' => e = .returned (.bool true) ∧ Below w.heap.size w w' := by
  have AW := fun W => Lib.hid (awake_any W)
  have BOX := Lib.hid (box1 w m)
  have c1 := fun W => mayBu_any m r W
  have c2 := fun W => rmayB_any m r W
  have w0s : w.heap.size ≤ (w.alloc (.cells (mcs m) 41)).heap.size := by simp
  cases h1 : mayBu m with
  | false =>
    rw [h1] at c1 c2
    have C1 := fun W => Lib.hid (c1 W)
    have C2 := fun W => Lib.hid (c2 W)
    clear c1 c2 h1
    go_enter Try.func4, Try.ntmps4
    go_wp2_with (first
      | (go_at_call 9; (with_reducible refine Calls.mono (AW _).out ?_); rintro e w0 ⟨rfl, bel0⟩; have HB := Lib.hid bel0; clear bel0; obtain ⟨q0, q1, q2, q3⟩ := BOX.out _ HB.out)
      | (go_at_call 14; (with_reducible refine Calls.mono (C2 _).out ?_); rintro e w0 ⟨rfl, bel0⟩; have HB := Lib.hid (Below.next HB.out bel0); clear bel0; obtain ⟨q0, q1, q2, q3⟩ := BOX.out _ HB.out))
    have hs0 := HB.out.size
    simp only [World.size_alloc] at hs0
    have g0 := SubW.cell q0 (by omega)
    have g1 := SubW.cell q1 (by omega)
    have g2 := SubW.cell q2 (by omega)
    have g3 := SubW.cell q3 (by omega)
    refine wp_region_sub (by kernel_rfl) (by kernel_rfl) ?_
    repeat (go_big_quiet_step (first | (go_at_call 15; exact sub_call _ (C1 _).out) | (go_at_call 14; exact sub_call _ (C2 _).out)))
    refine wpQuiet_nil ?_
    intro _ hw'
    obtain ⟨⟨w5, hw5⟩, rfl⟩ := hw'
    go_wp2_with fail
    go_ret
    exact ⟨rfl, Below.next ((Below.refl _ _).alloc (Nat.le_refl _) _) (Below.next HB.out hw5)⟩
  | true =>
    rw [h1] at c1 c2
    have C1 := fun W => Lib.hid (c1 W)
    have C2 := fun W => Lib.hid (c2 W)
    have OK := Lib.hid (mayBu_ok.1 h1)
    have M1 := fun W => Lib.hid (made W OK.out)
    clear c1 c2 h1
    by_cases hn : n = 0
    · have d1 : ((n : Int) == 0) = true := beq_iff_eq.2 (by omega)
      go_enter Try.func4, Try.ntmps4
      go_wp2_with (first
        | (go_at_call 9; (with_reducible refine Calls.mono (AW _).out ?_); rintro e w0 ⟨rfl, bel0⟩; have HB := Lib.hid bel0; clear bel0; obtain ⟨q0, q1, q2, q3⟩ := BOX.out _ HB.out)
        | (go_at_call 14; (with_reducible refine Calls.mono (C2 _).out ?_); rintro e w0 ⟨rfl, bel0⟩; have HB := Lib.hid (Below.next HB.out bel0); clear bel0; obtain ⟨q0, q1, q2, q3⟩ := BOX.out _ HB.out))
      have hs0 := HB.out.size
      simp only [World.size_alloc] at hs0
      have g0 := SubW.cell q0 (by omega)
      have g1 := SubW.cell q1 (by omega)
      have g2 := SubW.cell q2 (by omega)
      have g3 := SubW.cell q3 (by omega)
      refine wp_region_sub (by kernel_rfl) (by kernel_rfl) ?_
      repeat (go_big_quiet_step (first | (go_at_call 15; exact sub_call _ (C1 _).out) | (go_at_call 14; exact sub_call _ (C2 _).out)))
      refine wpQuiet_nil ?_
      intro _ hw'
      obtain ⟨⟨w5, hw5⟩, rfl⟩ := hw'
      go_wp2_with fail
      go_ret
      exact ⟨rfl, Below.next ((Below.refl _ _).alloc (Nat.le_refl _) _) (Below.next HB.out hw5)⟩
    · have d1 : ((n : Int) == 0) = false := beq_eq_false_iff_ne.2 (by omega)
      go_enter Try.func4, Try.ntmps4
      go_wp2_with (first
        | (go_at_call 9; (with_reducible refine Calls.mono (AW _).out ?_); rintro e w0 ⟨rfl, bel0⟩; have HB := Lib.hid bel0; clear bel0; obtain ⟨q0, q1, q2, q3⟩ := BOX.out _ HB.out)
        | (go_at_call 14; (with_reducible refine Calls.mono (C2 _).out ?_); rintro e w0 ⟨rfl, bel0⟩; have HB := Lib.hid (Below.next HB.out bel0); clear bel0; obtain ⟨q0, q1, q2, q3⟩ := BOX.out _ HB.out)
        | (go_at_call 10; (with_reducible refine Calls.mono (M1 _).out ?_); rintro e w1 ⟨A, rfl, k1, lo1, bel0⟩
           have K1 := Lib.hid k1
           have LO := Lib.hid (show ∀ a, A.own a → (w.alloc (.cells (mcs m) 41)).heap.size ≤ a from fun a ha => Nat.le_trans HB.out.size (lo1 a ha))
           have HB := Lib.hid (Below.next HB.out bel0); clear bel0 k1 lo1; obtain ⟨q0, q1, q2, q3⟩ := BOX.out _ HB.out))
      clear C1 C2 M1 AW
      obtain ⟨m1, m2, m3, m4⟩ := mayM_iff.1 OK.out.may
      have pz : ¬ m.p = 0 := by omega
      go_loopw [7, 8, 9, 10] (fun rv hv sv tv wr => Hid (RelT w A m rv hv sv tv wr)) (fun _ _ _ tv _ => 200 - (intOf tv).toNat)
      case atStart => exact ⟨0, 0, 0, 0, _, rfl, rfl, rfl, rfl, by omega, K1.out, Al.first OK.out, HB.out⟩
      case round =>
        clear K1 HB q0 q1 q2 q3
        obtain ⟨t, had, row, st, B, rfl, rfl, rfl, rfl, ht, ks, al, hbel⟩ := hrel
        have KS := Lib.hid ks
        have AL := Lib.hid al
        have BEL := Lib.hid hbel
        obtain ⟨q0, q1, q2, q3⟩ := BOX.out _ hbel
        have hh := al.h0
        have hr := al.r0
        have hs := al.s0
        have hn16 := al.g.at_.l16
        clear ks al hbel
        by_cases hi : t < 200
        · have hi2 : (t : Int) < 200 := by omega
          have hlt : t % n < n := Nat.mod_lt _ (by omega)
          obtain ⟨gb, off, rfl, hgb, hc⟩ := hA.out.at_ hlt
          have hc2 := (BEL.out.cell (p := ⟨gb, off + t % n, none⟩) (by simp; omega)).trans ((World.cell?_alloc_lt w _ _ hgb).trans hc)
          clear hc
          obtain ⟨x, hux⟩ : ∃ x, U (t % n) = x := ⟨_, rfl⟩
          rw [hux] at hc2
          clear hux
          have ST := fun W B' had' row' st' (k : IsB W A B') (a : Al m (t + 1) had' row' st' B') => Lib.hid (stallsA k a)
          have e3 : ((t + 1 : Nat) : Int) = (t : Int) + 1 := by omega
          by_cases z : (t : Int) % m.p = 0
          · have z1 : ((t : Int) % m.p == 0) = true := beq_iff_eq.2 z
            have hd : hadN m t had = 0 := if_pos z
            cases x with
            | false =>
              have c1 := slot0 KS.out AL.out OK.out hi
              rw [hd] at c1
              have S1 := Lib.hid c1
              clear c1 hd z
              go_wp2_with (go_at_call 12; (with_reducible refine Calls.mono S1.out ?_); rintro e w2 ⟨rfl, ⟨B', k2, a2⟩, o2⟩; have K2 := Lib.hid k2; have A2 := Lib.hid a2; have B2 := Lib.hid (Below.onlyF BEL.out o2 LO.out); clear k2 a2 o2)
              go_roundw
              case rel => exact ⟨t + 1, 0, 0, st, B', by go_num, rfl, rfl, rfl, by omega, K2.out, A2.out, B2.out⟩
              case measure => simp [intOf]; omega
            | true =>
              by_cases y1 : 0 < m.b
              · have y1' : decide (0 < m.b) = true := decide_eq_true y1
                by_cases y2 : m.u = 0
                · have y2' : (m.u == 0) = true := beq_iff_eq.2 y2
                  have c1 := slotY KS.out AL.out OK.out hi (by unfold may; rw [hd]; simp; omega)
                  rw [hd] at c1
                  have S1 := Lib.hid c1
                  clear c1 hd z y2
                  go_wp2_with (first
                    | (go_at_call 12; (with_reducible refine Calls.mono S1.out ?_); rintro e w2 ⟨rfl, ⟨B', k2, a2⟩, o2⟩; have S2 := ST _ _ _ _ _ k2 a2; have K2 := Lib.hid k2; have A2 := Lib.hid a2; have B2 := Lib.hid (Below.onlyF BEL.out o2 LO.out); have q := B2.out; obtain ⟨q0, q1, q2, q3⟩ := BOX.out _ q; clear k2 a2 o2 q)
                    | (go_at_call 16; (with_reducible refine Calls.mono S2.out ?_); rintro e w3 ⟨rfl, rfl⟩))
                  go_roundw
                  case rel => exact ⟨t + 1, 0 + 1, row + 1, st, B', by go_num, rfl, rfl, rfl, by omega, K2.out, A2.out, B2.out⟩
                  case measure => simp [intOf]; omega
                · have y2' : (m.u == 0) = false := beq_eq_false_iff_ne.2 y2
                  by_cases y3 : row < m.u
                  · have y3' : decide (row < m.u) = true := decide_eq_true y3
                    have c1 := slotY KS.out AL.out OK.out hi (by unfold may; rw [hd]; simp; omega)
                    rw [hd] at c1
                    have S1 := Lib.hid c1
                    clear c1 hd z
                    go_wp2_with (first
                      | (go_at_call 12; (with_reducible refine Calls.mono S1.out ?_); rintro e w2 ⟨rfl, ⟨B', k2, a2⟩, o2⟩; have S2 := ST _ _ _ _ _ k2 a2; have K2 := Lib.hid k2; have A2 := Lib.hid a2; have B2 := Lib.hid (Below.onlyF BEL.out o2 LO.out); have q := B2.out; obtain ⟨q0, q1, q2, q3⟩ := BOX.out _ q; clear k2 a2 o2 q)
                      | (go_at_call 16; (with_reducible refine Calls.mono S2.out ?_); rintro e w3 ⟨rfl, rfl⟩))
                    go_roundw
                    case rel => exact ⟨t + 1, 0 + 1, row + 1, st, B', by go_num, rfl, rfl, rfl, by omega, K2.out, A2.out, B2.out⟩
                    case measure => simp [intOf]; omega
                  · have y3' : decide (row < m.u) = false := decide_eq_false y3
                    have c1 := slotN KS.out AL.out OK.out hi (by unfold may; rw [hd]; simp; omega)
                    rw [hd] at c1
                    have S1 := Lib.hid c1
                    clear c1 hd z
                    go_wp2_with (first
                      | (go_at_call 12; (with_reducible refine Calls.mono S1.out ?_); rintro e w2 ⟨rfl, ⟨B', k2, a2⟩, o2⟩; have S2 := ST _ _ _ _ _ k2 a2; have K2 := Lib.hid k2; have A2 := Lib.hid a2; have B2 := Lib.hid (Below.onlyF BEL.out o2 LO.out); have q := B2.out; obtain ⟨q0, q1, q2, q3⟩ := BOX.out _ q; clear k2 a2 o2 q)
                      | (go_at_call 16; (with_reducible refine Calls.mono S2.out ?_); rintro e w3 ⟨rfl, rfl⟩))
                    go_roundw
                    case rel => exact ⟨t + 1, 0, 0, st + 1, B', by go_num, rfl, rfl, rfl, by omega, K2.out, A2.out, B2.out⟩
                    case measure => simp [intOf]; omega
              · exact absurd (show 0 < m.b by omega) y1
          · have z1 : ((t : Int) % m.p == 0) = false := beq_eq_false_iff_ne.2 z
            have hd : hadN m t had = had := if_neg z
            cases x with
            | false =>
              have c1 := slot0 KS.out AL.out OK.out hi
              rw [hd] at c1
              have S1 := Lib.hid c1
              clear c1 hd z
              go_wp2_with (go_at_call 12; (with_reducible refine Calls.mono S1.out ?_); rintro e w2 ⟨rfl, ⟨B', k2, a2⟩, o2⟩; have K2 := Lib.hid k2; have A2 := Lib.hid a2; have B2 := Lib.hid (Below.onlyF BEL.out o2 LO.out); clear k2 a2 o2)
              go_roundw
              case rel => exact ⟨t + 1, had, 0, st, B', by go_num, rfl, rfl, rfl, by omega, K2.out, A2.out, B2.out⟩
              case measure => simp [intOf]; omega
            | true =>
              by_cases y1 : had < m.b
              · have y1' : decide (had < m.b) = true := decide_eq_true y1
                by_cases y2 : m.u = 0
                · have y2' : (m.u == 0) = true := beq_iff_eq.2 y2
                  have c1 := slotY KS.out AL.out OK.out hi (by unfold may; rw [hd]; simp; omega)
                  rw [hd] at c1
                  have S1 := Lib.hid c1
                  clear c1 hd z y2
                  go_wp2_with (first
                    | (go_at_call 12; (with_reducible refine Calls.mono S1.out ?_); rintro e w2 ⟨rfl, ⟨B', k2, a2⟩, o2⟩; have S2 := ST _ _ _ _ _ k2 a2; have K2 := Lib.hid k2; have A2 := Lib.hid a2; have B2 := Lib.hid (Below.onlyF BEL.out o2 LO.out); have q := B2.out; obtain ⟨q0, q1, q2, q3⟩ := BOX.out _ q; clear k2 a2 o2 q)
                    | (go_at_call 16; (with_reducible refine Calls.mono S2.out ?_); rintro e w3 ⟨rfl, rfl⟩))
                  go_roundw
                  case rel => exact ⟨t + 1, had + 1, row + 1, st, B', by go_num, rfl, rfl, rfl, by omega, K2.out, A2.out, B2.out⟩
                  case measure => simp [intOf]; omega
                · have y2' : (m.u == 0) = false := beq_eq_false_iff_ne.2 y2
                  by_cases y3 : row < m.u
                  · have y3' : decide (row < m.u) = true := decide_eq_true y3
                    have c1 := slotY KS.out AL.out OK.out hi (by unfold may; rw [hd]; simp; omega)
                    rw [hd] at c1
                    have S1 := Lib.hid c1
                    clear c1 hd z
                    go_wp2_with (first
                      | (go_at_call 12; (with_reducible refine Calls.mono S1.out ?_); rintro e w2 ⟨rfl, ⟨B', k2, a2⟩, o2⟩; have S2 := ST _ _ _ _ _ k2 a2; have K2 := Lib.hid k2; have A2 := Lib.hid a2; have B2 := Lib.hid (Below.onlyF BEL.out o2 LO.out); have q := B2.out; obtain ⟨q0, q1, q2, q3⟩ := BOX.out _ q; clear k2 a2 o2 q)
                      | (go_at_call 16; (with_reducible refine Calls.mono S2.out ?_); rintro e w3 ⟨rfl, rfl⟩))
                    go_roundw
                    case rel => exact ⟨t + 1, had + 1, row + 1, st, B', by go_num, rfl, rfl, rfl, by omega, K2.out, A2.out, B2.out⟩
                    case measure => simp [intOf]; omega
                  · have y3' : decide (row < m.u) = false := decide_eq_false y3
                    have c1 := slotN KS.out AL.out OK.out hi (by unfold may; rw [hd]; simp; omega)
                    rw [hd] at c1
                    have S1 := Lib.hid c1
                    clear c1 hd z
                    go_wp2_with (first
                      | (go_at_call 12; (with_reducible refine Calls.mono S1.out ?_); rintro e w2 ⟨rfl, ⟨B', k2, a2⟩, o2⟩; have S2 := ST _ _ _ _ _ k2 a2; have K2 := Lib.hid k2; have A2 := Lib.hid a2; have B2 := Lib.hid (Below.onlyF BEL.out o2 LO.out); have q := B2.out; obtain ⟨q0, q1, q2, q3⟩ := BOX.out _ q; clear k2 a2 o2 q)
                      | (go_at_call 16; (with_reducible refine Calls.mono S2.out ?_); rintro e w3 ⟨rfl, rfl⟩))
                    go_roundw
                    case rel => exact ⟨t + 1, had, 0, st + 1, B', by go_num, rfl, rfl, rfl, by omega, K2.out, A2.out, B2.out⟩
                    case measure => simp [intOf]; omega
              · have y1' : decide (had < m.b) = false := decide_eq_false y1
                have c1 := slotN KS.out AL.out OK.out hi (by unfold may; rw [hd]; simp; omega)
                rw [hd] at c1
                have S1 := Lib.hid c1
                clear c1 hd z
                go_wp2_with (first
                  | (go_at_call 12; (with_reducible refine Calls.mono S1.out ?_); rintro e w2 ⟨rfl, ⟨B', k2, a2⟩, o2⟩; have S2 := ST _ _ _ _ _ k2 a2; have K2 := Lib.hid k2; have A2 := Lib.hid a2; have B2 := Lib.hid (Below.onlyF BEL.out o2 LO.out); have q := B2.out; obtain ⟨q0, q1, q2, q3⟩ := BOX.out _ q; clear k2 a2 o2 q)
                  | (go_at_call 16; (with_reducible refine Calls.mono S2.out ?_); rintro e w3 ⟨rfl, rfl⟩))
                go_roundw
                case rel => exact ⟨t + 1, had, 0, st + 1, B', by go_num, rfl, rfl, rfl, by omega, K2.out, A2.out, B2.out⟩
                case measure => simp [intOf]; omega
        · go_wp2_with fail
          go_ret
          exact ⟨rfl, Below.next ((Below.refl _ _).alloc (Nat.le_refl _) _) BEL.out⟩
theorem walk (w : World) (cs : List Value) (ws : AllOk [some .i64, some .i64, some .u64, some .u64] cs) (A : Option Addr) (n cap : Nat) (D : Nat → List Value) (w2 : Elems w [none] A n D) (hl : n * 1 ≤ 140737488351232) :
    Calls Try.prog 4 #[.agg ⟨cs⟩, .slice A n cap] w fun e w' => e = .returned (.bool true) ∧ Below w.heap.size w w' := by
  obtain ⟨m, rfl, r⟩ := mpOf ws
  obtain ⟨U, hU⟩ := bools_of w2
  exact walk2 w m r A n cap U (Lib.hid hU) (by omega)
end busAlone
namespace busAlone
theorem own : ownKnob Try.prog.godebug = none := by kernel_rfl
set_option maxRecDepth 100000 in
theorem lifted (os : Os) (started : os.Started) (H : Type) (enc : TypeId × Value → H) :
    ReturnsInHanded {} Try.checked os 4 .any (Rows.busAloneSpec.pre6 enc Try.prog Try.f4 Rows.busAloneRow.domain false) (Rows.busAloneSpec.post enc Try.prog Try.f4 false true false false) := by
  refine returnsInHanded_of_change_sized (C := Try.checked) own started (by kernel_rfl) Try.func4
    (ChangeSpec.witness6 (enc := enc) (C := Try.checked) false ⟨#[], #[.agg #[.int .i64 0, .int .i64 0, .int .u64 0, .int .u64 0], .slice none 0 0], []⟩ 8 (by kernel_rfl) (by kernel_rfl) (by kernel_rfl) (by kernel_rfl)) ?_
  intro W base args ds gs before hval0 hW hcnd hsz0 _
  have hsz : (DataW.weightsEach Try.prog (Try.f4.params.toList ++ Rows.busAloneSpec.plain.varTypes Try.prog) (ds ++ gs)).all (· ≤ reachBytes) = true := hsz0
  have hval : ∀ (j : Nat) t v, Try.f4.params[j]? = some t → args[j]? = some v → Value.okWide Try.prog W .any base t v := hval0
  have hW' := hW
  obtain ⟨p, q, hA0, hV, rfl, hfz, hnd⟩ := hW
  have hA : DataW.TrodAll enc Try.prog W 0 (fun _ => true) true Try.f4.params.toList args.toList ds p := hA0
  rw [Try.params4] at hA hval hsz
  obtain ⟨v0, vs0, d0, ds0, p0, q0, hargs, rfl, rfl, h0, r0⟩ := trodAll_cons hA
  obtain ⟨v1, vs1, d1, ds1, p1, q1, rfl, rfl, rfl, h1, r1⟩ := trodAll_cons r0
  obtain ⟨rfl, rfl, rfl⟩ := trodAll_nil r1
  obtain rfl : args = #[v0, v1] := by cases args; simp_all
  obtain ⟨rfl, rfl⟩ := trodVars_none hV
  obtain ⟨c0, rfl, w0⟩ := arg_agg [some .i64, some .i64, some .u64, some .u64] (by first | exact .inl ⟨_, Try.underlying41⟩ | exact .inr ⟨_, _, Try.underlying41⟩) 6 (by kernel_rfl) (by kernel_rfl) (hval 0 41 v0 rfl rfl) h0
  obtain ⟨A1, n1, cap1, D1, rfl, w1, m1, z1⟩ := arg_slice [none] Try.underlying44 6 (by kernel_rfl) (by kernel_rfl) (hval 1 44 v1 rfl rfl) h1
  have l1 : n1 * Try.prog.bytesOf 4 ≤ reachBytes := by
    rcases z1 with ⟨_, e⟩ | ⟨es, sp, e, el⟩
    · subst e; simp
    · subst e; subst el; exact Nat.le_trans (Nat.mul_le_mul_right _ (Nat.le_add_right _ _)) (sized_slice hsz (j := 1) (t := 44) (e := 4) rfl rfl Try.underlying44)
  have b1 : Try.prog.bytesOf 4 = 1 := by kernel_rfl
  rw [b1] at l1
  simp only [reachBytes] at l1
  clear z1 b1
  clear hA0 hval0 hsz0 hsz
  refine (walk W c0 w0 A1 n1 cap1 D1 w1 l1).mono fun e W' ⟨he, bel⟩ => ?_
  subst he
  exact ⟨_, rfl, _, _, _, [], _, [], hW', trodAll_mk1 (shut_bool Try.underlying4 _), (trodAll_cons_mk (Below.trod laidOut (by kernel_rfl) (of_decide_eq_true (by kernel_rfl)) h0 bel (fun x hx => by simpa using hW'.lt x (by simp [hx]))) (trodAll_cons_mk (Below.trod laidOut (by kernel_rfl) (of_decide_eq_true (by kernel_rfl)) h1 bel (fun x hx => by simpa using hW'.lt x (by simp [hx]))) trodAll_mk0)), rfl, bel.frame _, fun h => by cases h⟩
theorem over : Rows.busAloneRow.holds Try.pinned (OpenSpec.ofChange Rows.busAloneSpec) :=
  OpenClaim.holds_of_wide 4 Try.f4 rfl rfl rfl rfl rfl rfl rfl ⟨rfl, rfl, rfl, rfl, rfl⟩ rfl rfl rfl rfl rfl (by kernel_rfl) Try.func4 (by kernel_rfl)
    (of_decide_eq_true (by kernel_rfl)) (by unfold Func.isWrapper; first | (rw [if_pos (by decide +kernel)]; kernel_rfl) | (rw [if_neg (by decide +kernel)]; exact ⟨rfl, rfl⟩))
    (fun os started H enc _ => lifted os started H enc)
end busAlone
theorem busAlone_holds : Rows.BusAloneSaid := busAlone.over
#print axioms busAlone_holds
end Go.Proofs.Ytbfhohcimomphaa
