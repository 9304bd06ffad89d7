/- Words that the laws of layer 14 share: servers and scripts as they come in; budgets beside one another. -/
import Derived.Test.YthfnaeppolgpaaaSporAwake
import Derived.Test.YthfnaeppolgpaaaArgs
namespace Go.Proofs.Ythfnaeppolgpaaa
open Go.RowKit
set_option linter.unusedVariables false
set_option linter.unusedSimpArgs false
theorem pair_of {k l : Option IntKind} {cs : List Value} (h : AllOk [k, l] cs) : ∃ a b, cs = [a, b] ∧ CellOk k a ∧ CellOk l b := by
  match cs, h with
  | [a, b], ⟨ha, hb, _⟩ => exact ⟨a, b, rfl, ha, hb⟩
theorem serverOf0 {cs : List Value} (h : AllOk [some .i64, some .u64] cs) : ∃ u p, cs = [.int .i64 u, .int .u64 p] ∧ (Lit.int .i64 u).wf = true ∧ (Lit.int .u64 p).wf = true := by
  obtain ⟨a, b, e, ⟨u, hu, wu⟩, ⟨p, hp, wp⟩⟩ := pair_of h
  exact ⟨u, p, by rw [e, hu, hp], wu, wp⟩
theorem serverOf {cs : List Value} (h : AllOk [some .i64, some .u64] cs) : ∃ u p, cs = [.int .i64 u, .int .u64 p] ∧ -9223372036854775808 ≤ u ∧ u ≤ 9223372036854775807 ∧ 0 ≤ p ∧ p ≤ 18446744073709551615 := by
  obtain ⟨u, p, e, hu, hp⟩ := serverOf0 h
  exact ⟨u, p, e, (bounds_i64 hu).1, (bounds_i64 hu).2, (bounds_u64 hp).1, (bounds_u64 hp).2⟩
/-- The script: of each step whether it is a use, and how much later. -/
def Script (w : World) (A : Option Addr) (n : Nat) (R : Nat → Bool) (Wt : Nat → Int) : Prop :=
  ∀ i, i < n → ∃ b off, A = some ⟨b, off, none⟩ ∧ b < w.heap.size ∧ w.cell? ⟨b, off + i * 2, none⟩ = some (.bool (R i)) ∧ w.cell? ⟨b, off + i * 2 + 1, none⟩ = some (.int .u64 (Wt i)) ∧ 0 ≤ Wt i ∧ Wt i ≤ 18446744073709551615
theorem script_of {w : World} {A : Option Addr} {n : Nat} {D : Nat → List Value} (h : Elems w [none, some .u64] A n D) : ∃ R Wt, Script w A n R Wt := by
  have key : ∀ i, i < n → ∃ r x, D i = [.bool r, .int .u64 x] ∧ (Lit.int .u64 x).wf = true := by
    intro i hi
    obtain ⟨hok, _⟩ := h i hi
    match hD : D i, hok with
    | [_, _], ⟨⟨r, rfl⟩, ⟨x, rfl, hw⟩, _⟩ => exact ⟨r, x, rfl, hw⟩
  refine ⟨fun i => if hi : i < n then (key i hi).choose else false, fun i => if hi : i < n then (key i hi).choose_spec.choose else 0, fun i hi => ?_⟩
  simp only [hi, dif_pos]
  have hD := (key i hi).choose_spec.choose_spec
  obtain ⟨b, off, e, hb, hc⟩ := rows_of h (by simp) i hi
  refine ⟨b, off, e, hb, ?_, ?_, (bounds_u64 hD.2).1, (bounds_u64 hD.2).2⟩
  · have := hc i 0 hi (by simp)
    rw [hD.1] at this
    simpa using this
  · have := hc i 1 hi (by simp)
    rw [hD.1] at this
    simpa [Nat.add_assoc] using this
theorem IsB.blk {w : World} {b : Nat} {s : Bs} {t : Bool} (h : IsB w b s t) : ∃ cs, Blk w b 51 cs := by
  obtain ⟨v, k, _⟩ := h
  exact ⟨_, k⟩
/-- Another's budget is not touched. -/
theorem IsB.keep {w w' : World} {b c : Nat} {s z : Bs} {t y : Bool} (h : IsB w b s t) (k : IsB w c z y) (hn : b ≠ c) (o : Only (· = c) w w') : IsB w' b s t := by
  obtain ⟨v, h1, h2, h3⟩ := h
  obtain ⟨cs, kc⟩ := k.blk
  exact ⟨v, h1.only o hn, h2.only o (fun g hg hgc => by subst hgc; exact h2.ne kc (by decide) hg), h3⟩
theorem IsB.below {w w' : World} {b : Nat} {s : Bs} {t : Bool} (h : IsB w b s t) (k : Below w.heap.size w w') : IsB w' b s t := by
  obtain ⟨v, h1, h2, h3⟩ := h
  exact ⟨v, h1.below k h1.lt, h2.below k (fun g hg => h2.lt hg), h3⟩
theorem IsB.lt {w : World} {b : Nat} {s : Bs} {t : Bool} (h : IsB w b s t) : b < w.heap.size := by
  obtain ⟨v, h1, _⟩ := h
  exact h1.lt
theorem leftB_u (now : Int) (s : Bs) : (leftB now s).2.u = s.u := by unfold leftB; split <;> (try split) <;> rfl
theorem useB_u (now : Int) (s : Bs) : (useB now s).2.u = s.u := by unfold useB; split <;> simp [leftB_u]
theorem useB_p (now : Int) (s : Bs) : (useB now s).2.p = s.p := by unfold useB; split <;> simp [leftB_p]
theorem nextB_2 (now : Int) (s : Bs) : (nextB now s).2 = (leftB now s).2 := by unfold nextB; (repeat' split) <;> rfl
theorem leftB_rng {s : Bs} (ok : s.ok) (now : Int) : 0 ≤ (leftB now s).1.1 ∧ (leftB now s).1.1 ≤ s.u := by
  have h1 := ok.u0
  have h2 := ok.len
  have h3 := (List.dropWhile_sublist (p := fun x => decide (x ≤ now)) (l := s.back)).length_le
  unfold leftB
  split
  · simp only; omega
  · split <;> simp only <;> omega
end Go.Proofs.Ythfnaeppolgpaaa
