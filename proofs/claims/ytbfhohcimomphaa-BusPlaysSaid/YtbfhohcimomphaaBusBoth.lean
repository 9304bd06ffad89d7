/- Layer 6 (bus): the program's bus and the reference's, side by side, slot by slot (plain laws). -/
import Derived.Test.YtbfhohcimomphaaBusRefD
import Derived.Test.YtbfhohcimomphaaBusShare
namespace Go.Proofs.Ytbfhohcimomphaa
open Go.RowKit
set_option linter.unusedVariables false
set_option linter.unusedSimpArgs false
namespace busBoth
theorem kap_later {s : Ms} {T T' : Int} (ok : s.ok) (h1 : s.t ≤ T) (h2 : T ≤ T') : kap T' (onS T s) = kap T' s := by
  have b0 := ok.b0; have b1 := ok.b1
  have hx : s.x ≤ (T - s.f) / s.p := by rw [ok.x]; exact Int.ediv_le_ediv (by omega) (by omega)
  have hy : (T - s.f) / s.p ≤ (T' - s.f) / s.p := Int.ediv_le_ediv (by omega) (by omega)
  show (if (T' - s.f) / s.p = (T - s.f) / s.p then kap T s else 0) = if (T' - s.f) / s.p = s.x then s.k else 0
  unfold kap
  by_cases e1 : (T' - s.f) / s.p = (T - s.f) / s.p
  · rw [if_pos e1, e1]
  · rw [if_neg e1]
    by_cases e2 : (T' - s.f) / s.p = s.x
    · omega
    · rw [if_neg e2]
theorem kap_tk (s : Ms) (T T' : Int) : kap T' (tk T s) = if (T' - s.f) / s.p = (T - s.f) / s.p then kap T s + 1 else 0 := rfl
/-- The two stand alike, ahead of slot t (from nought on). -/
structure Both (L : List Mp) (t : Nat) (B : Bu) (M : Nat → Ms) (c : Nat → Int) (H : List (Int × Int)) : Prop where
  g : GoodB L 0 t t B
  hb : (t = 0 ∧ B.beg = false ∧ B.who = -1 ∧ B.row = 0) ∨ (0 < t ∧ B.beg = true ∧ B.last = (t : Int) - 1)
  m : ∀ i m, L[i]? = some m → ∃ s, B.M[i]? = some s ∧ NowM m.b m.p 0 t (M i) ∧ (∀ T', (t : Int) ≤ T' → kap T' (M i) = kap T' s) ∧ ∀ T', (t : Int) ≤ T' → kap T' s ≤ T' % m.p
  rows : ∀ id : Nat, rowR H.reverse id t 0 = if (id : Int) = B.who then B.row else 0
  hH : ∀ e ∈ H, 0 ≤ e.1 ∧ e.1 < t
  hl : H.length = t
  c : ∀ k, k < L.length → B.S[k]? = some (c k)
theorem Both.fresh {L : List Mp} {t : Nat} {B : Bu} {M : Nat → Ms} {c : Nat → Int} {H : List (Int × Int)} (h : Both L t B M c H) : (freshB t B).who = B.who ∧ (freshB t B).row = B.row := by
  unfold freshB
  rcases h.hb with ⟨e1, e2, e3, e4⟩ | ⟨e1, e2, e3⟩
  · simp only [e2, true_or, if_true]
    exact ⟨e3.symm, e4.symm⟩
  · have h : ¬ (B.beg = false ∨ (t : Int) ≠ B.last + 1) := by rw [e2, e3]; simp
    simp only [if_neg h]
    exact ⟨trivial, trivial⟩
theorem Both.can {L : List Mp} {t : Nat} {B : Bu} {M : Nat → Ms} {c : Nat → Int} {H : List (Int × Int)} (h : Both L t B M c H) (ht : t < 1000) (want : Nat → Bool) {j : Nat} (hj : j < L.length) :
    canR t want L M H j = ab t want (freshB t B) j := by
  have hm : L[j]? = some L[j] := List.getElem?_eq_getElem hj
  obtain ⟨s, e1, nw, ek, -⟩ := h.m j _ hm
  obtain ⟨s', e2, n2⟩ := h.g.met j _ hm
  rw [e1] at e2; cases e2
  obtain ⟨f1, f2⟩ := h.fresh
  have hmf : (freshB t B).L[j]? = some L[j] := by show B.L[j]? = _; rw [h.g.hL]; exact hm
  rw [ab_some hmf (s := s) e1]
  unfold canR
  rw [hm]
  simp only
  have k := may_can (who := (freshB t B).who) (row := (freshB t B).row) (i := j) (m := L[j]) (s := s) (T := (t : Int)) (by omega) n2.t
  rw [h.rows j, ek t (Int.le_refl _), nw.hb, Bool.and_assoc]
  congr 1
  rw [Bool.eq_iff_iff, k]
  unfold Go.Proofs.Ytbfhohcimomphaa.can
  rw [f1, f2, n2.hb]
  simp only [Bool.and_eq_true, decide_eq_true_eq, Bool.not_eq_true', Bool.and_eq_false_iff, decide_eq_false_iff_not]
  by_cases e : (j : Int) = B.who
  · rw [if_pos e]
    constructor
    · rintro ⟨h1, h2⟩; exact ⟨fun h3 => by rcases h2 with h2 | h2 <;> omega, h1⟩
    · rintro ⟨h1, h2⟩
      refine ⟨h2, ?_⟩
      by_cases h3 : 0 < L[j].u
      · exact .inr fun h4 => h1 ⟨h3, e.symm, h4⟩
      · exact .inl h3
  · rw [if_neg e]
    constructor
    · rintro ⟨h1, h2⟩; exact ⟨fun h3 => e h3.2.1.symm, h1⟩
    · rintro ⟨h1, h2⟩; exact ⟨h2, by omega⟩
theorem mod_next {p T T' : Int} (hp : 0 < p) (h0 : 0 ≤ T) (h : T + 1 ≤ T') (e : T' / p = T / p) : T % p + 1 ≤ T' % p := by
  have a := Int.emod_add_mul_ediv T p
  have b := Int.emod_add_mul_ediv T' p
  rw [e] at b
  omega
/-- A slot, of both. -/
theorem Both.step {L : List Mp} {t : Nat} {B : Bu} {M : Nat → Ms} {c : Nat → Int} {H : List (Int × Int)} (h : Both L t B M c H) (ok : ∀ m ∈ L, m.ok) (ht : t < 1000) (want : Nat → Bool) {b : Int} (hb : BestR (canR t want L M H) (priR L) L.length b) {M' : Nat → Ms}
    (hM : ∀ j, j < L.length → M' j = if (j : Int) = b then tk t (M j) else onS t (M j)) :
    ∃ B', winB t want (freshB t B) = ((if b < 0 then 0 else b, if b < 0 then 5 else 0), B') ∧ Both L (t + 1) B' M' (stallR want b c L.length) (H ++ [((t : Int), b)]) ∧ (0 ≤ b → ∃ id : Nat, b = id ∧ Least t want (freshB t B) L.length id) := by
  obtain ⟨wn, g'⟩ := h.g.won (by omega) (by omega) want
  obtain ⟨b1, b2⟩ := busShare.win_beg t want B
  obtain ⟨f1, f2⟩ := h.fresh
  have eN : (t : Int) + 1 = ((t + 1 : Nat) : Int) := by omega
  rw [eN] at g'
  have pri : ∀ j, priR L j = prB (freshB t B) j := fun j => by
    unfold priR prB
    show _ = match B.L[j]? with | some m => m.q | none => 0
    rw [h.g.hL]
    cases L[j]? <;> rfl
  have hl : (H ++ [((t : Int), b)]).length = t + 1 := by simp [h.hl]
  have hH' : ∀ e ∈ H ++ [((t : Int), b)], 0 ≤ e.1 ∧ e.1 < ((t + 1 : Nat) : Int) := fun e he => by
    rcases List.mem_append.1 he with he | he
    · have := h.hH e he; omega
    · rw [List.mem_singleton] at he; subst he; simp only; omega
  have rowS : ∀ id : Nat, rowR (H ++ [((t : Int), b)]).reverse id ((t + 1 : Nat) : Int) 0 = if b = (id : Int) then rowR H.reverse id t 0 + 1 else 0 := fun id => by
    rw [List.reverse_append]
    show rowR (((t : Int), b) :: H.reverse) id ((t + 1 : Nat) : Int) 0 = _
    rw [rowR_cons]
    simp only
    by_cases e : b = (id : Int)
    · rw [if_neg (by omega), if_pos e]
      have := rowR_shift H.reverse id t 0
      rw [← eN]
      exact this
    · rw [if_pos (.inl e), if_neg e]
  have stl : ∀ S', S' = stallB want b B.S L.length → ∀ k, k < L.length → S'[k]? = some (stallR want b c L.length k) := fun S' e k hk => by
    rw [e, stallB_spec _ _ _ _ (h.c k hk)]
    rfl
  have mets : ∀ (B' : Bu), (∀ (j : Nat) (s : Ms), B.M[j]? = some s → ∃ s' : Ms, B'.M[j]? = some s' ∧ ((j : Int) ≠ b → IdleM t s s') ∧ ((j : Int) = b → kap t s < s.b ∧ s' = tk t s)) →
      ∀ i m, L[i]? = some m → ∃ s, B'.M[i]? = some s ∧ NowM m.b m.p 0 ((t + 1 : Nat) : Int) (M' i) ∧ (∀ T', ((t + 1 : Nat) : Int) ≤ T' → kap T' (M' i) = kap T' s) ∧ ∀ T', ((t + 1 : Nat) : Int) ≤ T' → kap T' s ≤ T' % m.p := fun B' hB i m hm => by
    have hi := (List.getElem?_eq_some_iff.1 hm).1
    obtain ⟨s, e1, nw, ek, em⟩ := h.m i m hm
    obtain ⟨s2, e2, n2⟩ := h.g.met i m hm
    rw [e1] at e2; cases e2
    obtain ⟨s', e3, e4, e5⟩ := hB i s e1
    have okm := (mayM_iff.1 (ok m (List.mem_of_getElem? hm)).may)
    rw [hM i hi]
    by_cases e : (i : Int) = b
    · obtain ⟨k1, rfl⟩ := e5 e
      rw [if_pos e]
      have kM : kap t (M i) < (M i).b := by rw [ek t (Int.le_refl _), nw.hb, ← n2.hb]; exact k1
      refine ⟨_, e3, (nw.tk (by omega) kM).later (by omega), fun T' hT => ?_, fun T' hT => ?_⟩
      · rw [kap_tk, kap_tk, nw.hf, nw.hp, n2.hf, n2.hp, ek t (Int.le_refl _)]
      · rw [kap_tk, n2.hf, n2.hp]
        split
        · rename_i eq
          have := em t (Int.le_refl _)
          have := mod_next (p := m.p) (T := (t : Int)) (T' := T') (by omega) (by omega) (by omega) (by simpa using eq)
          omega
        · exact Int.emod_nonneg _ (by omega)
    · rw [if_neg e]
      have hs : ∀ T', ((t + 1 : Nat) : Int) ≤ T' → kap T' s' = kap T' s := fun T' hT => by
        rcases e4 e with rfl | rfl
        · rfl
        · exact kap_later n2.ok n2.t (by omega)
      refine ⟨s', e3, (nw.on (by omega)).later (by omega), fun T' hT => ?_, fun T' hT => ?_⟩
      · rw [kap_later nw.ok nw.t (by omega), hs T' hT]; exact ek T' (by omega)
      · rw [hs T' hT]; exact em T' (by omega)
  generalize hW : winB t want (freshB t B) = W at *
  cases wn with
  | @none B' hh hw hr hS hM2 =>
    have eb : b = -1 := hb.uniq (.inl ⟨rfl, fun j hj => by rw [h.can ht want hj]; exact hh j hj⟩)
    subst eb
    refine ⟨B', by simp, ⟨g', .inr ⟨by omega, b1, by rw [b2]; omega⟩, mets B' (fun j s hs => ?_), fun id => ?_, hH', hl, stl _ hS⟩, fun h => by omega⟩
    · obtain ⟨s', e1, e2⟩ := hM2 j s hs
      exact ⟨s', e1, fun _ => e2, fun h => by omega⟩
    · rw [rowS, if_neg (by omega), hw, if_neg (by omega)]
  | @one id B' hl2 hw hr hS hM2 =>
    have eb : b = id := hb.uniq (.inr ⟨id, rfl, hl2.lt, by rw [h.can ht want hl2.lt]; exact hl2.able, fun j hj ha => by
      rw [pri, pri]
      exact hl2.best j hj (by rw [← h.can ht want hj]; exact ha)⟩)
    subst eb
    refine ⟨B', by rw [if_neg (show ¬ ((id : Int) < 0) by omega), if_neg (show ¬ ((id : Int) < 0) by omega)], ⟨g', .inr ⟨by omega, b1, by rw [b2]; omega⟩, mets B' (fun j s hs => ?_), fun k => ?_, hH', hl, stl _ hS⟩, fun _ => ⟨id, rfl, hl2⟩⟩
    · obtain ⟨s', e1, e2, e3⟩ := hM2 j s hs
      exact ⟨s', e1, fun h => e2 (by omega), fun h => e3 (by omega)⟩
    · rw [rowS, hw, hr, f1, f2]
      by_cases e : (k : Int) = id
      · have e' : k = id := by omega
        subst e'
        rw [if_pos rfl, if_pos rfl, h.rows k]
        split <;> omega
      · rw [if_neg (by omega), if_neg e]
theorem Both.first {L : List Mp} (ok : ∀ m ∈ L, m.ok) (h16 : L.length ≤ 16) : Both L 0 (newB L 0 L.length) (ML L 0) (fun _ => 0) [] := by
  have ht : L.take L.length = L := List.take_length
  refine ⟨⟨newB_at ok h16 (by decide) (by decide), by simp [newB], rfl, fun i m hm => ?_⟩, .inl ⟨rfl, rfl, rfl, rfl⟩, fun i m hm => ?_, fun id => ?_, (fun e he => by cases he), rfl, fun k hk => ?_⟩
  · have okm := ok m (List.mem_of_getElem? hm)
    exact ⟨⟨m.b, m.p, 0, 0, 0, 0⟩, by simp only [newB, ht, List.getElem?_map, hm]; rfl, NowM.new okm.may (by decide) (by decide)⟩
  · have okm := ok m (List.mem_of_getElem? hm)
    have e : ML L 0 i = m0 m 0 := by unfold ML; rw [hm]
    have kz : ∀ T', kap T' (m0 m 0) = 0 := fun T' => by
      show (if (T' - 0) / m.p = 0 then (0 : Int) else 0) = 0
      split <;> rfl
    refine ⟨m0 m 0, by simp only [newB, ht, List.getElem?_map, hm]; rfl, by rw [e]; exact NowM.new okm.may (by decide) (by decide), fun T' _ => by rw [e], fun T' _ => ?_⟩
    rw [kz]
    exact Int.emod_nonneg _ (by have := mayM_iff.1 okm.may; omega)
  · show (0 : Int) = if (id : Int) = -1 then 0 else 0
    split <;> rfl
  · show (List.replicate 16 (0 : Int))[k]? = some 0
    rw [List.getElem?_replicate, if_pos (by omega)]
/-- A master with no burst and a whole share may have any slot that it wants. -/
theorem Both.whole {L : List Mp} {t : Nat} {B : Bu} {M : Nat → Ms} {c : Nat → Int} {H : List (Int × Int)} (h : Both L t B M c H) (ok : ∀ m ∈ L, m.ok) (ht : t < 1000) (want : Nat → Bool) {j : Nat} {m : Mp} (hm : L[j]? = some m) (hw : want j = true) (hu : m.u = 0) (hp : m.b = m.p) : ab t want (freshB t B) j = true := by
  obtain ⟨s, e1, nw, ek, em⟩ := h.m j m hm
  obtain ⟨s', e2, n2⟩ := h.g.met j m hm
  rw [e1] at e2; cases e2
  have okm := (mayM_iff.1 (ok m (List.mem_of_getElem? hm)).may)
  have hmf : (freshB t B).L[j]? = some m := by show B.L[j]? = _; rw [h.g.hL]; exact hm
  rw [ab_some hmf (s := s) e1, hw, Bool.true_and]
  refine (may_can (by omega) n2.t).2 ⟨fun h3 => by omega, ?_⟩
  have h1 := em t (Int.le_refl _)
  have h2 := Int.emod_lt_of_pos (t : Int) (show 0 < m.p by omega)
  rw [n2.hb]
  omega
end busBoth
end Go.Proofs.Ytbfhohcimomphaa
