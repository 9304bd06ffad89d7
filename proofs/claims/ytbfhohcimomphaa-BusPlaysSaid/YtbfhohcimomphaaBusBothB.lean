/- Layer 6 (bus): the program's bus and the reference's, side by side, at whatever times (plain laws). -/
import Derived.Test.YtbfhohcimomphaaBusBoth
import Derived.Test.YtbfhohcimomphaaBusRefE
namespace Go.Proofs.Ytbfhohcimomphaa
open Go.RowKit
set_option linter.unusedVariables false
set_option linter.unusedSimpArgs false
namespace busPlay
open busBoth
/-- The two stand alike behind n slots; T: the least time of the next one. -/
structure Al (L : List Mp) (ph : Int) (n : Nat) (T : Int) (B : Bu) (M : Nat → Ms) (c : Nat → Int) (H : List (Int × Int)) : Prop where
  g : GoodB L ph n T B
  T0 : 0 ≤ T
  hb : (B.beg = false ∧ B.who = -1 ∧ B.row = 0 ∧ H = [] ∧ T = ph) ∨ (B.beg = true ∧ T = B.last + 1 ∧ ∃ b r, H.reverse = (B.last, b) :: r ∧ B.who = b ∧ -1 ≤ b)
  m : ∀ i m, L[i]? = some m → ∃ s, B.M[i]? = some s ∧ NowM m.b m.p ph T (M i) ∧ (∀ T', T ≤ T' → kap T' (M i) = kap T' s)
  rows : ∀ id : Nat, rowR H.reverse id T 0 = if (id : Int) = B.who then B.row else 0
  hH : ∀ e ∈ H, 0 ≤ e.1 ∧ e.1 < T
  hl : H.length = n
  c : ∀ k, k < L.length → B.S[k]? = some (c k)
  who : B.who = -1 → B.row = 0
theorem Al.fresh {L : List Mp} {ph T T' : Int} {n : Nat} {B : Bu} {M : Nat → Ms} {c : Nat → Int} {H : List (Int × Int)} (h : Al L ph n T B M c H) (hT : T ≤ T') (id : Nat) :
    rowR H.reverse id T' 0 = if (id : Int) = (freshB T' B).who then (freshB T' B).row else 0 := by
  unfold freshB
  rcases h.hb with ⟨e1, e2, e3, e4, e5⟩ | ⟨e1, e2, b, r, e3, e4, e5⟩
  · simp only [e1, true_or, if_true]
    subst e4
    show (0 : Int) = _
    split <;> rfl
  · by_cases e : T' = B.last + 1
    · have hn : ¬ (B.beg = false ∨ T' ≠ B.last + 1) := by rw [e1, e]; simp
      simp only [if_neg hn]
      rw [e, ← e2]
      exact h.rows id
    · have hn : B.beg = false ∨ T' ≠ B.last + 1 := .inr e
      simp only [if_pos hn]
      rw [e3, rowR_cons, if_pos (.inr (by simp only; omega))]
      split <;> rfl
theorem Al.can {L : List Mp} {ph T T' : Int} {n : Nat} {B : Bu} {M : Nat → Ms} {c : Nat → Int} {H : List (Int × Int)} (h : Al L ph n T B M c H) (hT : T ≤ T') (hT2 : T' < 4611686018427387904) (want : Nat → Bool) {j : Nat} (hj : j < L.length) :
    canR T' want L M H j = ab T' want (freshB T' B) j := by
  have hm : L[j]? = some L[j] := List.getElem?_eq_getElem hj
  obtain ⟨s, e1, nw, ek⟩ := h.m j _ hm
  obtain ⟨s', e2, n2⟩ := h.g.met j _ hm
  rw [e1] at e2; cases e2
  have hmf : (freshB T' B).L[j]? = some L[j] := by show B.L[j]? = _; rw [h.g.hL]; exact hm
  rw [ab_some hmf (s := s) e1]
  unfold canR
  rw [hm]
  simp only
  have k := may_can (who := (freshB T' B).who) (row := (freshB T' B).row) (i := j) (m := L[j]) (s := s) (T := T') hT2 (Int.le_trans n2.t hT)
  rw [h.fresh hT j, ek T' hT, nw.hb, Bool.and_assoc]
  congr 1
  rw [Bool.eq_iff_iff, k]
  unfold Go.Proofs.Ytbfhohcimomphaa.can
  rw [n2.hb]
  simp only [Bool.and_eq_true, decide_eq_true_eq, Bool.not_eq_true', Bool.and_eq_false_iff, decide_eq_false_iff_not]
  by_cases e : (j : Int) = (freshB T' B).who
  · rw [if_pos e]
    constructor
    · rintro ⟨h1, h2⟩; exact ⟨fun h3 => by rcases h2 with h2 | h2 <;> omega, h1⟩
    · rintro ⟨h1, h2⟩
      refine ⟨h2, ?_⟩
      by_cases h3 : 0 < L[j].u
      · exact .inr fun h4 => h1 ⟨h3, e.symm, h4⟩
      · exact .inl h3
  · rw [if_neg e]
    constructor
    · rintro ⟨h1, h2⟩; exact ⟨fun h3 => e h3.2.1.symm, h1⟩
    · rintro ⟨h1, h2⟩; exact ⟨h2, by omega⟩
/-- A slot, of both. -/
theorem Al.step {L : List Mp} {ph T T' : Int} {n : Nat} {B : Bu} {M : Nat → Ms} {c : Nat → Int} {H : List (Int × Int)} (h : Al L ph n T B M c H) (ok : ∀ m ∈ L, m.ok) (hT : T ≤ T') (hT2 : T' < 4611686018427387904) (want : Nat → Bool) {b : Int} (hb : BestR (canR T' want L M H) (priR L) L.length b) {M' : Nat → Ms}
    (hM : ∀ j, j < L.length → M' j = if (j : Int) = b then tk T' (M j) else onS T' (M j)) :
    ∃ B', winB T' want (freshB T' B) = ((if b < 0 then 0 else b, if b < 0 then 5 else 0), B') ∧ Al L ph (n + 1) (T' + 1) B' M' (stallR want b c L.length) (H ++ [(T', b)]) := by
  have g0 : GoodB L ph n T' B := ⟨⟨h.g.at_.ok, h.g.at_.l16, h.g.at_.lm, h.g.at_.st, h.g.at_.row, h.g.at_.last, fun hb => by have := h.g.at_.next hb; omega, by have := h.g.at_.ph; omega, h.g.at_.n0⟩, h.g.hL, h.g.hp, fun i m hm => by
    obtain ⟨s, e1, e2⟩ := h.g.met i m hm
    exact ⟨s, e1, e2.later hT⟩⟩
  have T0 := h.T0
  obtain ⟨wn, g'⟩ := g0.won (by omega) hT2 want
  obtain ⟨b1, b2⟩ := busShare.win_beg T' want B
  have eN : (n : Int) + 1 = ((n + 1 : Nat) : Int) := by omega
  rw [eN] at g'
  have pri : ∀ j, priR L j = prB (freshB T' B) j := fun j => by
    unfold priR prB
    show _ = match B.L[j]? with | some m => m.q | none => 0
    rw [h.g.hL]
    cases L[j]? <;> rfl
  have hl : (H ++ [(T', b)]).length = n + 1 := by simp [h.hl]
  have hH' : ∀ e ∈ H ++ [(T', b)], 0 ≤ e.1 ∧ e.1 < T' + 1 := fun e he => by
    rcases List.mem_append.1 he with he | he
    · have := h.hH e he; omega
    · rw [List.mem_singleton] at he; subst he; simp only; omega
  have rev : (H ++ [(T', b)]).reverse = (T', b) :: H.reverse := by rw [List.reverse_append]; rfl
  have rowS : ∀ id : Nat, rowR (H ++ [(T', b)]).reverse id (T' + 1) 0 = if b = (id : Int) then rowR H.reverse id T' 0 + 1 else 0 := fun id => by
    rw [rev, rowR_cons]
    simp only
    by_cases e : b = (id : Int)
    · rw [if_neg (by omega), if_pos e]
      exact rowR_shift H.reverse id T' 0
    · rw [if_pos (.inl e), if_neg e]
  have stl : ∀ S', S' = stallB want b B.S L.length → ∀ k, k < L.length → S'[k]? = some (stallR want b c L.length k) := fun S' e k hk => by
    rw [e, stallB_spec _ _ _ _ (h.c k hk)]
    rfl
  have mets : ∀ (B' : Bu), (∀ (j : Nat) (s : Ms), B.M[j]? = some s → ∃ s' : Ms, B'.M[j]? = some s' ∧ ((j : Int) ≠ b → IdleM T' s s') ∧ ((j : Int) = b → kap T' s < s.b ∧ s' = tk T' s)) →
      ∀ i m, L[i]? = some m → ∃ s, B'.M[i]? = some s ∧ NowM m.b m.p ph (T' + 1) (M' i) ∧ (∀ T2, T' + 1 ≤ T2 → kap T2 (M' i) = kap T2 s) := fun B' hB i m hm => by
    have hi := (List.getElem?_eq_some_iff.1 hm).1
    obtain ⟨s, e1, nw, ek⟩ := h.m i m hm
    obtain ⟨s2, e2, n2⟩ := h.g.met i m hm
    rw [e1] at e2; cases e2
    obtain ⟨s', e3, e4, e5⟩ := hB i s e1
    have nw := nw.later hT
    have n2 := n2.later hT
    rw [hM i hi]
    by_cases e : (i : Int) = b
    · obtain ⟨k1, rfl⟩ := e5 e
      rw [if_pos e]
      have kM : kap T' (M i) < (M i).b := by rw [ek T' hT, nw.hb, ← n2.hb]; exact k1
      refine ⟨_, e3, (nw.tk hT2 kM).later (by omega), fun T2 h2 => ?_⟩
      rw [kap_tk, kap_tk, nw.hf, nw.hp, n2.hf, n2.hp, ek T' hT]
    · rw [if_neg e]
      have hs : ∀ T2, T' + 1 ≤ T2 → kap T2 s' = kap T2 s := fun T2 h2 => by
        rcases e4 e with rfl | rfl
        · rfl
        · exact kap_later n2.ok n2.t (by omega)
      refine ⟨s', e3, (nw.on hT2).later (by omega), fun T2 h2 => ?_⟩
      rw [kap_later nw.ok nw.t (by omega), hs T2 h2]
      exact ek T2 (by omega)
  generalize hW : winB T' want (freshB T' B) = W at *
  cases wn with
  | @none B' hh hw hr hS hM2 =>
    have eb : b = -1 := hb.uniq (.inl ⟨rfl, fun j hj => by rw [h.can hT hT2 want hj]; exact hh j hj⟩)
    subst eb
    refine ⟨B', by simp, ⟨g', by omega, .inr ⟨b1, by rw [b2], -1, H.reverse, by rw [rev, b2], hw, by omega⟩, mets B' (fun j s hs => ?_), fun id => ?_, hH', hl, stl _ hS, fun _ => hr⟩⟩
    · obtain ⟨s', e1, e2⟩ := hM2 j s hs
      exact ⟨s', e1, fun _ => e2, fun h => by omega⟩
    · rw [rowS, if_neg (by omega), hw, if_neg (by omega)]
  | @one id B' hl2 hw hr hS hM2 =>
    have eb : b = id := hb.uniq (.inr ⟨id, rfl, hl2.lt, by rw [h.can hT hT2 want hl2.lt]; exact hl2.able, fun j hj ha => by
      rw [pri, pri]
      exact hl2.best j hj (by rw [← h.can hT hT2 want hj]; exact ha)⟩)
    subst eb
    refine ⟨B', by rw [if_neg (show ¬ ((id : Int) < 0) by omega), if_neg (show ¬ ((id : Int) < 0) by omega)], ⟨g', by omega, .inr ⟨b1, by rw [b2], id, H.reverse, by rw [rev, b2], hw, by omega⟩, mets B' (fun j s hs => ?_), fun k => ?_, hH', hl, stl _ hS, fun h => by rw [hw] at h; omega⟩⟩
    · obtain ⟨s', e1, e2, e3⟩ := hM2 j s hs
      exact ⟨s', e1, fun h => e2 (by omega), fun h => e3 (by omega)⟩
    · rw [rowS, hw, hr]
      by_cases e : (k : Int) = id
      · have e' : k = id := by omega
        subst e'
        rw [if_pos rfl, if_pos rfl, h.fresh hT k]
        split <;> omega
      · rw [if_neg (by omega), if_neg e]
theorem Al.row {L : List Mp} {ph T : Int} {n : Nat} {B : Bu} {M : Nat → Ms} {c : Nat → Int} {H : List (Int × Int)} (h : Al L ph n T B M c H) : rowOf H = (B.who, B.row) := by
  unfold rowOf
  rcases h.hb with ⟨e1, e2, e3, e4, e5⟩ | ⟨e1, e2, b, r, e3, e4, e5⟩
  · subst e4
    show ((-1 : Int), (0 : Int)) = _
    rw [e2, e3]
  · rw [e3]
    simp only
    by_cases hb : b < 0
    · have eb : b = -1 := by omega
      rw [if_pos hb, h.who (by rw [e4, eb]), e4, eb]
    · rw [if_neg hb, ← e3]
      obtain ⟨id, rfl⟩ : ∃ id : Nat, b = id := ⟨b.toNat, by omega⟩
      have := h.rows id
      rw [e2, e4, if_pos rfl] at this
      rw [this, e4]
end busPlay
end Go.Proofs.Ytbfhohcimomphaa
