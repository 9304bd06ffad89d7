/- Layer 23 (lock), LockCeils: of plain keepers, and what 'first' tells. -/
import Derived.Test.YthmcgbjkbcogkaaLockLaw
namespace Go.Proofs.Ythmcgbjkbcogkaa
open Go.RowKit
set_option linter.unusedVariables false
set_option linter.unusedSimpArgs false
namespace lockCeils
/-- A member's urgency as it is now. -/
def pr (cs : List Int) (ms : Int → Option Mm) (i : Nat) : Int := (prioM cs (ms i)).1
/-- What is kept: the known ones; and of two members that hold something one is more urgent, by its own, than the other as it is now. -/
structure CI (cs : List Int) (M : Nat) (q : Nat → Int) (ms : Int → Option Mm) (kn : Nat → Bool) : Prop where
  known : ∀ i : Nat, i < M → (kn i = true ↔ (ms i).isSome = true)
  dom : ∀ i m, ms i = some m → ∃ j : Nat, i = j ∧ j < M ∧ m.prio = q j
  ord : ∀ i j mi mj, i ≠ j → ms i = some mi → ms j = some mj → mi.held ≠ [] → mj.held ≠ [] → mi.prio < prioL cs mj.prio mj.held ∨ mj.prio < prioL cs mi.prio mi.held
/-- At least as urgent; of alike ones it holds something, or the other one doesn't. -/
def Bet (cs : List Int) (ms : Int → Option Mm) (b j : Nat) : Prop := pr cs ms b < pr cs ms j ∨ (pr cs ms b = pr cs ms j ∧ (heldM (ms b) ≠ [] ∨ heldM (ms j) = []))
structure Best (cs : List Int) (M : Nat) (ms : Int → Option Mm) (kn : Nat → Bool) (i b : Nat) : Prop where
  lt : b < i
  live : kn b = true
  bet : ∀ j, j < i → kn j = true → j ≠ b → Bet cs ms b j
theorem Bet.trans {cs : List Int} {ms : Int → Option Mm} {a b j : Nat} (h : Bet cs ms a b) (k : Bet cs ms b j) : Bet cs ms a j := by
  rcases h with h | ⟨h, h1⟩ <;> rcases k with k | ⟨k, k1⟩
  · exact .inl (by omega)
  · exact .inl (by omega)
  · exact .inl (by omega)
  · refine .inr ⟨by omega, ?_⟩
    rcases h1 with h1 | h1
    · exact .inl h1
    · rcases k1 with k1 | k1
      · exact absurd h1 k1
      · exact .inr k1
theorem Bet.not {cs : List Int} {ms : Int → Option Mm} {a b : Nat} (h : ¬ (pr cs ms a < pr cs ms b ∨ (pr cs ms a = pr cs ms b ∧ heldM (ms a) ≠ [] ∧ heldM (ms b) = []))) : Bet cs ms b a := by
  by_cases h1 : pr cs ms b < pr cs ms a
  · exact .inl h1
  · refine .inr ⟨by omega, ?_⟩
    by_cases h2 : heldM (ms b) = []
    · right
      by_cases h3 : heldM (ms a) = []
      · exact h3
      · exact absurd (.inr ⟨by omega, h3, h2⟩) h
    · exact .inl h2
theorem prioL_le_mem (cs : List Int) : ∀ (L : List Int) (p l : Int), l ∈ L → prioL cs p L ≤ cs.getD l.toNat 0 := by
  intro L
  induction L with
  | nil => intro p l h; cases h
  | cons x L ih =>
    intro p l h
    show prioL cs (min p (cs.getD x.toNat 0)) L ≤ _
    rcases List.mem_cons.1 h with rfl | h
    · have := prioL_le cs L (min p (cs.getD l.toNat 0))
      omega
    · exact ih _ _ h
section
variable {cs : List Int} {M : Nat} {q : Nat → Int} {ms : Int → Option Mm} {kn : Nat → Bool}
theorem CI.start (cs : List Int) (M : Nat) (q : Nat → Int) : CI cs M q m0 (fun _ => false) :=
  ⟨fun i _ => by simp [m0], fun i m h => (by cases h), fun i j mi mj _ h => (by cases h)⟩
/-- Whoever is the best one is more urgent, by its own, than whoever else holds something. -/
theorem CI.best (h : CI cs M q ms kn) {b : Nat} (hb : Best cs M ms kn M b) {mb : Mm} (hm : ms b = some mb) {x : Int} {mx : Mm} (hx : ms x = some mx) (hne : x ≠ b) (hh : mx.held ≠ []) : mb.prio < prioL cs mx.prio mx.held := by
  obtain ⟨j, rfl, hj, -⟩ := h.dom x mx hx
  have hk : kn j = true := (h.known j hj).2 (by rw [hx]; rfl)
  have bet := hb.bet j hj hk (by omega)
  have e1 : pr cs ms b = prioL cs mb.prio mb.held := by unfold pr; rw [hm]; rfl
  have e2 : pr cs ms j = prioL cs mx.prio mx.held := by unfold pr; rw [hx]; rfl
  have e3 : heldM (ms b) = mb.held := by rw [hm]; rfl
  have e4 : heldM (ms j) = mx.held := by rw [hx]; rfl
  unfold Bet at bet
  rw [e1, e2, e3, e4] at bet
  have l1 := prioL_le cs mx.held mx.prio
  by_cases h0 : mb.held = []
  · have e5 : prioL cs mb.prio mb.held = mb.prio := by rw [h0]; rfl
    rcases bet with b1 | ⟨b1, b2⟩
    · omega
    · rcases b2 with b2 | b2
      · exact absurd h0 b2
      · exact absurd b2 hh
  · rcases h.ord b j mb mx (by omega) hm hx h0 hh with o | o
    · exact o
    · rcases bet with b1 | ⟨b1, -⟩ <;> omega
/-- The best one turned: what it holds now is another list. -/
theorem CI.turn (h : CI cs M q ms kn) {b : Nat} (hb : Best cs M ms kn M b) {mb : Mm} (hm : ms b = some mb) (L : List Int) : CI cs M q (upd ms b ⟨mb.prio, L⟩) kn := by
  refine ⟨fun i hi => ?_, fun i m hi => ?_, fun i j mi mj hne hi hj hhi hhj => ?_⟩
  · rw [h.known i hi]
    by_cases e : (i : Int) = b
    · rw [e, upd_self, hm]; simp
    · rw [upd_other e]
  · by_cases e : i = b
    · rw [e, upd_self] at hi
      injection hi with hi
      subst hi
      exact e ▸ h.dom b mb hm
    · rw [upd_other e] at hi
      exact h.dom i m hi
  · by_cases e : i = b
    · rw [e, upd_self] at hi
      injection hi with hi
      subst hi
      rw [upd_other (fun e2 => hne (by rw [e, e2]))] at hj
      exact .inl (h.best hb hm hj (fun e2 => hne (by rw [e, e2])) hhj)
    · rw [upd_other e] at hi
      by_cases e2 : j = b
      · rw [e2, upd_self] at hj
        injection hj with hj
        subst hj
        exact .inr (h.best hb hm hi e hhi)
      · rw [upd_other e2] at hj
        exact h.ord i j mi mj hne hi hj hhi hhj
theorem CI.has (h : CI cs M q ms kn) {b : Nat} (hb : Best cs M ms kn M b) : ∃ mb, ms b = some mb ∧ mb.prio = q b := by
  obtain ⟨mb, hm⟩ := Option.isSome_iff_exists.1 ((h.known b hb.lt).1 hb.live)
  obtain ⟨j, e, -, hp⟩ := h.dom b mb hm
  obtain rfl : b = j := by omega
  exact ⟨mb, hm, hp⟩
/-- The best one takes: never is it busy. -/
theorem CI.take (h : CI cs M q ms kn) {b : Nat} (hb : Best cs M ms kn M b) (l : Int) : (takeF cs ms b l).1 ≠ 10 ∧ CI cs M q (takeF cs ms b l).2 kn := by
  obtain ⟨mb, hm, -⟩ := h.has hb
  unfold takeF
  split
  · exact ⟨by omega, h⟩
  · rw [hm]
    simp only
    split
    · exact ⟨by show (7 : Int) ≠ 10; omega, h⟩
    · rename_i hl
      split
      · exact ⟨by show (11 : Int) ≠ 10; omega, h⟩
      · rename_i hp
        split
        · rename_i hw
          exfalso
          obtain ⟨j, hj⟩ := Option.isSome_iff_exists.1 hw
          obtain ⟨mx, hx, hlx⟩ := who_some hj
          have hne : (j : Int) ≠ b := fun e => by
            rw [e, hm] at hx
            injection hx with hx
            subst hx
            exact hl hlx
          have h1 := h.best hb hm hx hne (List.ne_nil_of_mem hlx)
          have h2 := prioL_le_mem cs mx.held mx.prio l hlx
          omega
        · exact ⟨by show (0 : Int) ≠ 10; omega, h.turn hb hm _⟩
/-- The best one gives its last lock back. -/
theorem CI.back (h : CI cs M q ms kn) {b : Nat} (hb : Best cs M ms kn M b) {mb : Mm} (hm : ms b = some mb) (nd : mb.held.Nodup) (inr : ∀ l ∈ mb.held, 0 ≤ l ∧ l < cs.length) {l : Int} {p : Nat} (hp : mb.held.length = p + 1) (hl : mb.held[p]? = some l) :
    backF cs ms b l = (0, upd ms b ⟨mb.prio, mb.held.take p⟩) ∧ CI cs M q (upd ms b ⟨mb.prio, mb.held.take p⟩) kn := by
  refine ⟨?_, h.turn hb hm _⟩
  have hi : idxP mb.held l = p := by
    refine idxP_at hl fun k y hk hy e => ?_
    subst e
    obtain ⟨h1, e1⟩ := List.getElem?_eq_some_iff.1 hl
    obtain ⟨h2, e2⟩ := List.getElem?_eq_some_iff.1 hy
    exact (List.pairwise_iff_getElem.1 nd) k p h2 h1 hk (e2.trans e1.symm)
  have hb2 := inr l (List.mem_of_getElem? hl)
  unfold backF
  rw [if_neg (by omega), hm]
  simp only
  rw [hi, hp, if_neg (by omega), if_neg (by omega)]
  rfl
/-- Whoever holds nothing goes. -/
theorem CI.gone (h : CI cs M q ms kn) {b : Nat} : CI cs M q (without ms b) (fun j => if j = b then false else kn j) := by
  refine ⟨fun i hi => ?_, fun i m hi => h.dom i m (without_some hi).2, fun i j mi mj hne hi hj hhi hhj => h.ord i j mi mj hne (without_some hi).2 (without_some hj).2 hhi hhj⟩
  unfold without
  by_cases e : i = b
  · subst e; rw [if_pos rfl, if_pos rfl]; simp
  · rw [if_neg e, if_neg (by omega)]; exact h.known i hi
/-- Whoever holds nothing is known, anew or again. -/
theorem CI.know (h : CI cs M q ms kn) {b : Nat} (hb : b < M) (h0 : heldM (ms b) = []) : knowF ms b (q b) = (0, upd ms b ⟨q b, []⟩) ∧ CI cs M q (upd ms b ⟨q b, []⟩) (fun j => if j = b then true else kn j) := by
  refine ⟨if_pos h0, fun i hi => ?_, fun i m hi => ?_, fun i j mi mj hne hi hj hhi hhj => ?_⟩
  · by_cases e : i = b
    · subst e; rw [if_pos rfl, upd_self]; simp
    · rw [if_neg e, upd_other (by omega)]; exact h.known i hi
  · by_cases e : i = b
    · rw [e, upd_self] at hi
      injection hi with hi
      subst hi
      exact ⟨b, e, hb, rfl⟩
    · rw [upd_other e] at hi
      exact h.dom i m hi
  · by_cases e : i = b
    · rw [e, upd_self] at hi
      injection hi with hi
      subst hi
      exact absurd rfl hhi
    · rw [upd_other e] at hi
      by_cases e2 : j = b
      · rw [e2, upd_self] at hj
        injection hj with hj
        subst hj
        exact absurd rfl hhj
      · rw [upd_other e2] at hj
        exact h.ord i j mi mj hne hi hj hhi hhj
end
def bl (M : Nat) (kn : Nat → Bool) : List Value := (List.range M).map fun i => .bool (kn i)
theorem bl_len (M : Nat) (kn : Nat → Bool) : (bl M kn).length = M := by simp [bl]
theorem bl_at {M : Nat} (kn : Nat → Bool) {i : Nat} (h : i < M) : (bl M kn)[i]? = some (.bool (kn i)) := by simp [bl, h]
theorem bl_set {M : Nat} (kn : Nat → Bool) {i : Nat} (h : i < M) (v : Bool) : (bl M kn).set i (.bool v) = bl M (fun j => if j = i then v else kn j) := by
  apply List.ext_getElem?
  intro j
  by_cases hj : j < M
  · rw [bl_at _ hj, List.getElem?_set]
    by_cases e : i = j
    · subst e; rw [if_pos rfl, if_pos (by rw [bl_len]; exact h), if_pos rfl]
    · rw [if_neg e, if_neg (fun e2 => e e2.symm), bl_at _ hj]
  · rw [List.getElem?_eq_none (by rw [List.length_set, bl_len]; omega), List.getElem?_eq_none (by rw [bl_len]; omega)]
end lockCeils
end Go.Proofs.Ythmcgbjkbcogkaa
