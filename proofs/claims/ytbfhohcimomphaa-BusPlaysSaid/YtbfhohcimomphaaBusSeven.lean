/- Layer 6 (bus): what holds of a bus from slot to slot. -/
import Derived.Test.YtbfhohcimomphaaBusE
namespace Go.Proofs.Ytbfhohcimomphaa
open Go.RowKit
set_option linter.unusedVariables false
set_option linter.unusedSimpArgs false
structure BuAt (B : Bu) (n T : Int) : Prop where
  ok : ∀ s ∈ B.M, s.ok
  l16 : B.L.length ≤ 16
  lm : B.M.length = B.L.length
  st : ∀ x ∈ B.S, 0 ≤ x ∧ x ≤ n
  row : 0 ≤ B.row ∧ B.row ≤ n
  last : 0 ≤ B.last ∧ B.last < 4611686018427387904
  next : B.beg = true → B.last < T
  ph : B.ph ≤ T
  n0 : 0 ≤ n
theorem stallB_rng {want : Nat → Bool} {id n : Int} {S : List Int} (hn : 0 ≤ n) (h : ∀ x ∈ S, 0 ≤ x ∧ x ≤ n) (k : Nat) : ∀ x ∈ stallB want id S k, 0 ≤ x ∧ x ≤ n + 1 := by
  have key : ∀ (k j : Nat) (x : Int), (stallB want id S k)[j]? = some x → 0 ≤ x ∧ x ≤ n + 1 := by
    intro k
    induction k with
    | zero =>
      intro j x hx
      have := h x (List.mem_of_getElem? hx)
      omega
    | succ k ih =>
      intro j x hx
      unfold stallB at hx
      split at hx
      · by_cases e : k = j
        · subst e
          rw [List.getElem?_set] at hx
          simp only [if_true] at hx
          split at hx
          · cases hx
            rw [stallB_at want id S (Nat.le_refl k)]
            cases hs : S[k]? with
            | none => simp; omega
            | some y =>
              have := h y (List.mem_of_getElem? hs)
              simp; omega
          · cases hx
        · rw [List.getElem?_set_ne e] at hx
          exact ih j x hx
      · exact ih j x hx
  intro x hx
  obtain ⟨j, hj⟩ := List.mem_iff_getElem?.1 hx
  exact key k j x hj
theorem takeAt_ok {T : Int} {M : List Ms} (h : ∀ s ∈ M, s.ok) (i : Nat) : ∀ s ∈ takeAt T i M, s.ok := by
  unfold takeAt
  split
  · rename_i s hs
    intro t ht
    rcases List.mem_or_eq_of_mem_set ht with h1 | rfl
    · exact h t h1
    · exact takeM_ok (h s (List.mem_of_getElem? hs)) T 1 (by decide)
  · exact h
theorem takeAt_len (T : Int) (i : Nat) (M : List Ms) : (takeAt T i M).length = M.length := by
  unfold takeAt; split <;> simp
theorem BuAt.win {B : Bu} {n T : Int} (h : BuAt B n T) (h0 : 0 ≤ T) (h1 : T < 4611686018427387904) (want : Nat → Bool) : BuAt (winB T want (freshB T B)).2 (n + 1) (T + 1) := by
  have hM : ∀ s ∈ (freshB T B).M, s.ok := h.ok
  have n0 := h.n0
  have hr : 0 ≤ (freshB T B).row ∧ (freshB T B).row ≤ n := by
    have := h.row
    unfold freshB
    dsimp only
    split <;> omega
  have hb := bestB_ok (T := T) (want := want) (B := freshB T B) hM (freshB T B).L.length
  have hbl := bestB_len T want (freshB T B) (freshB T B).L.length
  have hp := h.ph
  unfold winB
  split
  · exact ⟨hb, h.l16, hbl.trans h.lm, stallB_rng n0 h.st _, ⟨by simp, by simp; omega⟩, ⟨h0, h1⟩, fun _ => by show T < T + 1; omega, by show B.ph ≤ T + 1; omega, by omega⟩
  · refine ⟨takeAt_ok hb _, h.l16, (takeAt_len _ _ _).trans (hbl.trans h.lm), stallB_rng n0 h.st _, ?_, ⟨h0, h1⟩, fun _ => by show T < T + 1; omega, by show B.ph ≤ T + 1; omega, by omega⟩
    dsimp only
    split <;> omega
theorem slot_run {w : World} {A : Bl} {B : Bu} {n T : Int} (k : IsB w A B) (h : BuAt B n T) (hn : n ≤ 1000000000) (h0 : 0 ≤ T) (h1 : T < 4611686018427387904) (l : List Int) (Aw : Option Addr) (c : Nat) (hs : Src w 1 Aw l.length (intCells l)) (hl : l.length ≤ 140737488351232) (g1 : okWants l B.L.length = true) :
    Calls Try.prog 12 #[.pointer (some ⟨A.p, 0, none⟩), .int .u64 T, .slice Aw l.length c] w fun e w' => e = .returned (.tuple #[.int .i64 (winB T (wants l) (freshB T B)).1.1, .int .i64 (winB T (wants l) (freshB T B)).1.2]) ∧ IsB w' A (winB T (wants l) (freshB T B)).2 ∧ BuAt (winB T (wants l) (freshB T B)).2 (n + 1) (T + 1) ∧ Only A.own w w' := by
  have c := slot_ok k h.ok T h0 h1 h.l16 l Aw c hs hl g1 h.ph h.next h.last ⟨h.row.1, by have := h.row.2; omega⟩ (fun x hx => ⟨(h.st x hx).1, by have := (h.st x hx).2; omega⟩)
  exact Calls.mono c fun e w' ⟨e1, k1, o1⟩ => ⟨e1, k1, h.win h0 h1 _, o1⟩
end Go.Proofs.Ytbfhohcimomphaa
