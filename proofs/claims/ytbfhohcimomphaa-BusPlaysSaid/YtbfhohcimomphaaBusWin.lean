/- Layer 6 (bus): plain laws of a slot: who has it, and how the meters turn. -/
import Derived.Test.YtbfhohcimomphaaBusSeven
namespace Go.Proofs.Ytbfhohcimomphaa
open Go.RowKit
set_option linter.unusedVariables false
set_option linter.unusedSimpArgs false
/-- Whether master j wants the slot at T, and may have it. -/
def ab (T : Int) (want : Nat → Bool) (B : Bu) (j : Nat) : Bool :=
  match B.L[j]?, B.M[j]? with
  | some m, some s => want j && (mayB T B.who B.row j m s).1
  | _, _ => false
theorem ab_some {T : Int} {want : Nat → Bool} {B : Bu} {j : Nat} {m : Mp} {s : Ms} (hm : B.L[j]? = some m) (hs : B.M[j]? = some s) : ab T want B j = (want j && (mayB T B.who B.row j m s).1) := by
  unfold ab; rw [hm, hs]
/-- Its meter behind the look. -/
def turned (T : Int) (want : Nat → Bool) (B : Bu) (j : Nat) (s : Ms) : Ms :=
  match B.L[j]? with
  | some m => if want j = true then (mayB T B.who B.row j m s).2 else s
  | none => s
theorem isB_at {T : Int} {want : Nat → Bool} {B : Bu} {M : List Ms} {i : Nat} (hl : B.M.length = B.L.length) (hi : i < B.L.length) (h : M[i]? = B.M[i]?) :
    (isB T want B M i).1 = ab T want B i ∧ ∃ s, B.M[i]? = some s ∧ (isB T want B M i).2 = M.set i (turned T want B i s) := by
  have hm : B.L[i]? = some B.L[i] := List.getElem?_eq_getElem hi
  have hs : B.M[i]? = some (B.M[i]'(by omega)) := List.getElem?_eq_getElem _
  rw [hs] at h
  rw [isB_some hm h, ab_some hm hs]
  refine ⟨?_, _, hs, ?_⟩
  · cases want i <;> simp
  · unfold turned
    rw [hm]
    cases hw : want i
    · simp
      obtain ⟨e1, e2⟩ := List.getElem?_eq_some_iff.1 h
      rw [← e2]; exact (List.set_getElem_self e1).symm
    · simp
/-- The one who has it: of all that want and may, the most urgent, the least of alike ones. -/
structure Least (T : Int) (want : Nat → Bool) (B : Bu) (i id : Nat) : Prop where
  lt : id < i
  able : ab T want B id = true
  best : ∀ j, j < i → ab T want B j = true → prB B id < prB B j ∨ (prB B id = prB B j ∧ id ≤ j)
theorem best_spec {T : Int} {want : Nat → Bool} {B : Bu} (hl : B.M.length = B.L.length) (i : Nat) (hi : i ≤ B.L.length) :
    (∀ j s, B.M[j]? = some s → (bestB T want B i).2[j]? = some (if j < i then turned T want B j s else s)) ∧
    (((bestB T want B i).1 = -1 ∧ ∀ j, j < i → ab T want B j = false) ∨ ∃ id : Nat, (bestB T want B i).1 = id ∧ Least T want B i id) := by
  induction i with
  | zero => exact ⟨fun j s hs => by simpa [bestB] using hs, .inl ⟨rfl, fun j h => by omega⟩⟩
  | succ i ih =>
    obtain ⟨h1, h2⟩ := ih (by omega)
    have hs : B.M[i]? = some (B.M[i]'(by omega)) := List.getElem?_eq_getElem _
    have hm := h1 i _ hs
    rw [if_neg (by omega)] at hm
    obtain ⟨a1, s, a2, a3⟩ := isB_at (T := T) (want := want) hl (show i < B.L.length by omega) (hm.trans hs.symm)
    rw [bestB_succ]
    simp only
    rw [a1, a3]
    refine ⟨fun j t ht => ?_, ?_⟩
    · by_cases e : i = j
      · subst e
        rw [a2] at ht; cases ht
        have hlt : i < (bestB T want B i).2.length := (List.getElem?_eq_some_iff.1 hm).1
        rw [List.getElem?_set_self hlt, if_pos (by omega)]
      · rw [List.getElem?_set_ne e, h1 j t ht]
        by_cases hj : j < i
        · rw [if_pos hj, if_pos (by omega)]
        · rw [if_neg hj, if_neg (by omega)]
    · cases hab : ab T want B i with
      | false =>
        rw [if_neg (by simp)]
        rcases h2 with ⟨b1, b2⟩ | ⟨id, b1, b2⟩
        · refine .inl ⟨b1, fun j hj => ?_⟩
          rcases Nat.lt_or_ge j i with h | h
          · exact b2 j h
          · rw [show j = i by omega]; exact hab
        · refine .inr ⟨id, b1, ⟨by have := b2.lt; omega, b2.able, fun j hj ha => ?_⟩⟩
          rcases Nat.lt_or_ge j i with h | h
          · exact b2.best j h ha
          · rw [show j = i by omega, hab] at ha; cases ha
      | true =>
        rcases h2 with ⟨b1, b2⟩ | ⟨id, b1, b2⟩
        · rw [if_pos ⟨rfl, .inl b1⟩]
          refine .inr ⟨i, rfl, by omega, hab, fun j hj ha => ?_⟩
          rcases Nat.lt_or_ge j i with h | h
          · rw [b2 j h] at ha; cases ha
          · obtain rfl : j = i := by omega
            exact .inr ⟨rfl, Nat.le_refl _⟩
        · have e : (bestB T want B i).1.toNat = id := by rw [b1]; rfl
          rw [e, b1]
          by_cases hp : prB B i < prB B id
          · rw [if_pos ⟨rfl, .inr hp⟩]
            refine .inr ⟨i, rfl, by omega, hab, fun j hj ha => ?_⟩
            rcases Nat.lt_or_ge j i with h | h
            · rcases b2.best j h ha with h | ⟨h, -⟩ <;> exact .inl (by omega)
            · obtain rfl : j = i := by omega
              exact .inr ⟨rfl, Nat.le_refl _⟩
          · rw [if_neg (fun h => h.2.elim (fun h => by omega) hp)]
            refine .inr ⟨id, rfl, by have := b2.lt; omega, b2.able, fun j hj ha => ?_⟩
            rcases Nat.lt_or_ge j i with h | h
            · exact b2.best j h ha
            · obtain rfl : j = i := by omega
              have := b2.lt
              by_cases h9 : prB B id < prB B j
              · exact .inl h9
              · exact .inr ⟨by omega, by omega⟩
/-- A meter of a share that is never ahead of the time. -/
structure NowM (b p f T : Int) (s : Ms) : Prop where
  ok : s.ok
  hb : s.b = b
  hp : s.p = p
  hf : s.f = f
  t : s.t ≤ T
/-- What was taken in T's window. -/
def kap (T : Int) (s : Ms) : Int := if (T - s.f) / s.p = s.x then s.k else 0
theorem on_at (s : Ms) (T : Int) (h1 : T < 4611686018427387904) (h2 : s.t ≤ T) : onM T s = (0, { s with t := T, x := (T - s.f) / s.p, k := kap T s }) := by
  unfold onM kap; rw [if_neg (by omega), if_neg (by omega)]
theorem left_at (s : Ms) (T : Int) (h1 : T < 4611686018427387904) (h2 : s.t ≤ T) : leftM T s = ((s.b - kap T s, 0), { s with t := T, x := (T - s.f) / s.p, k := kap T s }) := by
  unfold leftM; rw [on_at s T h1 h2]; rfl
theorem kap_rng {s : Ms} (ok : s.ok) (T : Int) : 0 ≤ kap T s ∧ kap T s ≤ s.b := by
  have := ok.k0; have := ok.k1; have := ok.b0
  unfold kap; split <;> omega
theorem kap_on (s : Ms) (T : Int) : kap T { s with t := T, x := (T - s.f) / s.p, k := kap T s } = kap T s := by
  show (if (T - s.f) / s.p = (T - s.f) / s.p then kap T s else 0) = kap T s
  rw [if_pos rfl]
theorem NowM.new {b p f : Int} (h : mayM b p = true) (h0 : 0 ≤ f) (h1 : f < 4611686018427387904) : NowM b p f f ⟨b, p, f, f, 0, 0⟩ := ⟨m0_ok h h0 h1, rfl, rfl, rfl, Int.le_refl _⟩
theorem NowM.later {b p f T T' : Int} {s : Ms} (n : NowM b p f T s) (h : T ≤ T') : NowM b p f T' s := ⟨n.ok, n.hb, n.hp, n.hf, Int.le_trans n.t h⟩
theorem NowM.on {b p f T : Int} {s : Ms} (n : NowM b p f T s) (h1 : T < 4611686018427387904) : NowM b p f T { s with t := T, x := (T - s.f) / s.p, k := kap T s } := by
  have o := onM_ok n.ok T
  rw [on_at s T h1 n.t] at o
  exact ⟨o, n.hb, n.hp, n.hf, Int.le_refl _⟩
/-- One unit more. -/
def tk (T : Int) (s : Ms) : Ms := { s with t := T, x := (T - s.f) / s.p, k := kap T s + 1 }
theorem take_tk {s : Ms} {T : Int} (h1 : T < 4611686018427387904) (h : kap T s < s.b) : (takeM T 1 { s with t := T, x := (T - s.f) / s.p, k := kap T s }).2 = tk T s := by
  unfold takeM
  rw [on_at _ T h1 (Int.le_refl _), kap_on, if_neg (by simp)]
  simp only [tk]
  rw [show min 1 (s.b - kap T s) = 1 by omega]
theorem NowM.tk {b p f T : Int} {s : Ms} (n : NowM b p f T s) (h1 : T < 4611686018427387904) (h : kap T s < s.b) : NowM b p f T (tk T s) := by
  have o := takeM_ok (n.on h1).ok T 1 (by decide)
  rw [take_tk h1 h] at o
  exact ⟨o, n.hb, n.hp, n.hf, Int.le_refl _⟩
/-- May master i have the slot at T. -/
def can (T who row : Int) (i : Nat) (m : Mp) (s : Ms) : Prop := ¬ (0 < m.u ∧ who = i ∧ m.u ≤ row) ∧ kap T s < s.b
theorem may_can {T who row : Int} {i : Nat} {m : Mp} {s : Ms} (h1 : T < 4611686018427387904) (h2 : s.t ≤ T) : (mayB T who row i m s).1 = true ↔ can T who row i m s := by
  unfold mayB can
  split
  · rename_i h; simp [h]
  · rename_i h
    rw [left_at s T h1 h2]
    simp
    exact fun _ a b => by have := fun c => h ⟨a, b, c⟩; omega
theorem may_turn {T who row : Int} {i : Nat} {m : Mp} {s : Ms} (h1 : T < 4611686018427387904) (h2 : s.t ≤ T) : (mayB T who row i m s).2 = s ∨ (mayB T who row i m s).2 = { s with t := T, x := (T - s.f) / s.p, k := kap T s } := by
  unfold mayB
  split
  · exact .inl rfl
  · rw [left_at s T h1 h2]; exact .inr rfl
theorem may_yes {T who row : Int} {i : Nat} {m : Mp} {s : Ms} (h1 : T < 4611686018427387904) (h2 : s.t ≤ T) (h : (mayB T who row i m s).1 = true) : (mayB T who row i m s).2 = { s with t := T, x := (T - s.f) / s.p, k := kap T s } := by
  unfold mayB at h ⊢
  split
  · rename_i h3; rw [if_pos h3] at h; cases h
  · rw [left_at s T h1 h2]
/-- What holds of a bus of masters L, from slot to slot. -/
structure GoodB (L : List Mp) (ph n T : Int) (B : Bu) : Prop where
  at_ : BuAt B n T
  hL : B.L = L
  hp : B.ph = ph
  met : ∀ (i : Nat) (m : Mp), L[i]? = some m → ∃ s, B.M[i]? = some s ∧ NowM m.b m.p ph T s
/-- How a meter may turn in a slot that isn't its own. -/
def IdleM (T : Int) (s s' : Ms) : Prop := s' = s ∨ s' = { s with t := T, x := (T - s.f) / s.p, k := kap T s }
inductive Won (L : List Mp) (T : Int) (want : Nat → Bool) (B : Bu) : (Int × Int) × Bu → Prop
  | none {B' : Bu} (h : ∀ j, j < L.length → ab T want B j = false) (hw : B'.who = -1) (hr : B'.row = 0) (hS : B'.S = stallB want (-1) B.S L.length)
      (hM : ∀ (j : Nat) (s : Ms), B.M[j]? = some s → ∃ s' : Ms, B'.M[j]? = some s' ∧ IdleM T s s') : Won L T want B ((0, 5), B')
  | one (id : Nat) {B' : Bu} (h : Least T want B L.length id) (hw : B'.who = id) (hr : B'.row = if (id : Int) = B.who then B.row + 1 else 1) (hS : B'.S = stallB want id B.S L.length)
      (hM : ∀ (j : Nat) (s : Ms), B.M[j]? = some s → ∃ s' : Ms, B'.M[j]? = some s' ∧ (j ≠ id → IdleM T s s') ∧ (j = id → kap T s < s.b ∧ s' = tk T s)) : Won L T want B (((id : Int), 0), B')
theorem turned_idle {T : Int} {want : Nat → Bool} {B : Bu} {j : Nat} {s : Ms} (h1 : T < 4611686018427387904) (h2 : s.t ≤ T) : IdleM T s (turned T want B j s) := by
  unfold turned
  split
  · split
    · exact may_turn h1 h2
    · exact .inl rfl
  · exact .inl rfl
theorem GoodB.won {L : List Mp} {ph n T : Int} {B : Bu} (g : GoodB L ph n T B) (h0 : 0 ≤ T) (h1 : T < 4611686018427387904) (want : Nat → Bool) :
    Won L T want (freshB T B) (winB T want (freshB T B)) ∧ GoodB L ph (n + 1) (T + 1) (winB T want (freshB T B)).2 := by
  have ga := g.at_.win h0 h1 want
  have fM : (freshB T B).M = B.M := rfl
  have fL : (freshB T B).L = L := g.hL
  have hl : (freshB T B).M.length = (freshB T B).L.length := g.at_.lm
  have hlen : B.L.length = L.length := by rw [g.hL]
  have st : ∀ (j : Nat) (s : Ms), B.M[j]? = some s → s.t ≤ T := fun j s hs => by
    have hj := (List.getElem?_eq_some_iff.1 hs).1
    rw [g.at_.lm, hlen] at hj
    obtain ⟨s', e1, e2⟩ := g.met j _ (List.getElem?_eq_getElem hj)
    rw [hs] at e1; cases e1; exact e2.t
  obtain ⟨m1, m2⟩ := best_spec (T := T) (want := want) hl (freshB T B).L.length (Nat.le_refl _)
  have good : ∀ B' : Bu, BuAt B' (n + 1) (T + 1) → B'.L = B.L → B'.ph = B.ph → (∀ (j : Nat) (s : Ms), B.M[j]? = some s → ∃ s' : Ms, B'.M[j]? = some s' ∧ (IdleM T s s' ∨ (kap T s < s.b ∧ s' = tk T s))) → GoodB L ph (n + 1) (T + 1) B' := fun B' h hL hph hM => by
    refine ⟨h, hL.trans g.hL, hph.trans g.hp, fun i m hm => ?_⟩
    obtain ⟨s, e1, e2⟩ := g.met i m hm
    obtain ⟨s', e3, e4⟩ := hM i s e1
    refine ⟨s', e3, ?_⟩
    rcases e4 with (rfl | rfl) | ⟨e5, rfl⟩
    · exact e2.later (by omega)
    · exact (e2.on h1).later (by omega)
    · exact (e2.tk h1 e5).later (by omega)
  rcases m2 with ⟨b1, b2⟩ | ⟨id, b1, b2⟩
  · have e : winB T want (freshB T B) = ((0, 5), { freshB T B with M := (bestB T want (freshB T B) (freshB T B).L.length).2, S := stallB want (-1) (freshB T B).S (freshB T B).L.length, who := -1, row := 0 }) := by
      unfold winB; rw [if_pos b1]
    rw [e] at ga ⊢
    have hM : ∀ j s, B.M[j]? = some s → ∃ s', (bestB T want (freshB T B) (freshB T B).L.length).2[j]? = some s' ∧ IdleM T s s' := fun j s hs => by
      refine ⟨_, m1 j s hs, ?_⟩
      split
      · exact turned_idle h1 (st j s hs)
      · exact .inl rfl
    refine ⟨.none (fun j hj => b2 j (by rw [fL]; exact hj)) rfl rfl (by rw [fL]) hM, ?_⟩
    refine good _ ga rfl rfl fun j s hs => ?_
    obtain ⟨s', e1, e2⟩ := hM j s hs
    exact ⟨s', e1, .inl e2⟩
  · have bl := b2.lt
    have hm : (freshB T B).L[id]? = some ((freshB T B).L[id]'bl) := List.getElem?_eq_getElem bl
    have hs : (freshB T B).M[id]? = some ((freshB T B).M[id]'(by omega)) := List.getElem?_eq_getElem _
    have hab := b2.able
    rw [ab_some hm hs] at hab
    simp only [Bool.and_eq_true] at hab
    have hkap := ((may_can h1 (st id _ hs)).1 hab.2).2
    have e : winB T want (freshB T B) = (((id : Int), 0), { freshB T B with M := takeAt T id (bestB T want (freshB T B) (freshB T B).L.length).2, S := stallB want id (freshB T B).S (freshB T B).L.length, who := id, row := if (id : Int) = (freshB T B).who then (freshB T B).row + 1 else 1 }) := by
      unfold winB; rw [b1, if_neg (by omega)]; rfl
    rw [e] at ga ⊢
    have hM : ∀ j s, B.M[j]? = some s → ∃ s', (takeAt T id (bestB T want (freshB T B) (freshB T B).L.length).2)[j]? = some s' ∧ (j ≠ id → IdleM T s s') ∧ (j = id → kap T s < s.b ∧ s' = tk T s) := fun j s hs' => by
      have m3 := m1 id _ hs
      rw [if_pos bl] at m3
      have ht : turned T want (freshB T B) id ((freshB T B).M[id]'(by omega)) = { (freshB T B).M[id]'(by omega) with t := T, x := (T - ((freshB T B).M[id]'(by omega)).f) / ((freshB T B).M[id]'(by omega)).p, k := kap T ((freshB T B).M[id]'(by omega)) } := by
        unfold turned; rw [hm]; simp only [hab.1, if_true]; exact may_yes h1 (st id _ hs) hab.2
      rw [ht] at m3
      unfold takeAt
      rw [m3]
      simp only
      rw [take_tk h1 hkap]
      by_cases ej : j = id
      · subst ej
        rw [← fM, hs] at hs'; cases hs'
        rw [List.getElem?_set_self (List.getElem?_eq_some_iff.1 m3).1]
        exact ⟨_, rfl, fun h => absurd rfl h, fun _ => ⟨hkap, rfl⟩⟩
      · rw [List.getElem?_set_ne (fun h => ej h.symm), m1 j s hs']
        refine ⟨_, rfl, fun _ => ?_, fun h => absurd h ej⟩
        split
        · exact turned_idle h1 (st j s hs')
        · exact .inl rfl
    refine ⟨.one id (by rw [← fL]; exact b2) rfl rfl (by rw [fL]) hM, ?_⟩
    refine good _ ga rfl rfl fun j s hs' => ?_
    obtain ⟨s', e1, e2, e3⟩ := hM j s hs'
    by_cases ej : j = id
    · exact ⟨s', e1, .inr (e3 ej)⟩
    · exact ⟨s', e1, .inl (e2 ej)⟩
end Go.Proofs.Ytbfhohcimomphaa
