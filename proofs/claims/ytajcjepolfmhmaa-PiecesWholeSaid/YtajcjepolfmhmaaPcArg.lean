/- Layer 8 (pieces): the laws' arguments. -/
import Derived.Test.YtajcjepolfmhmaaPcAwakeB
import Derived.Test.YtajcjepolfmhmaaArgs
namespace Go.Proofs.Ytajcjepolfmhmaa
open Go.ChangeShapes Go.WideShapes Go.ChangeAt Go.RowKit
set_option linter.unusedVariables false
set_option linter.unusedSimpArgs false
/-- A slice that came in: no longer than its room, in a block that is there. -/
def CapOk (w : World) (A : Option Addr) (len cap : Nat) : Prop := len ≤ cap ∧ ∀ a, A = some a → a.spot = none ∧ a.block < w.heap.size
theorem arg_cap {P : Program} {w : World} {r : Reach} {b0 : Nat} {t e : TypeId} {v : Value} (ht : P.underlying t = some (.slice e)) (hv : Value.okWide P w r b0 t v) : ∀ A len cap, v = .slice A len cap → CapOk w A len cap := by
  rintro A len cap rfl
  simp only [Value.okWide, ht, Cell.okWide] at hv
  cases A with
  | none =>
    simp only [Cell.ok, ht] at hv
    split at hv
    all_goals first
      | (rename_i h1 h2; simp at h2; obtain ⟨rfl, rfl⟩ := h2; exact ⟨Nat.le_refl _, fun a e => by cases e⟩)
      | exact ⟨by simp_all, fun a e => by cases e⟩
  | some a =>
    simp only [Cell.ok, ht] at hv
    obtain ⟨h1, -, -, hs, row, cells, hsh, -⟩ := hv
    refine ⟨h1, fun a' e => ?_⟩
    injection e with e
    subst e
    refine ⟨hs, ?_⟩
    rcases Nat.lt_or_ge a.block w.heap.size with h | h
    · exact h
    · simp [World.shape?, Array.getElem?_eq_none h] at hsh
theorem quad_of {a b c d : Option IntKind} {cs : List Value} (h : AllOk [a, b, c, d] cs) : ∃ x y z u, cs = [x, y, z, u] ∧ CellOk a x ∧ CellOk b y ∧ CellOk c z ∧ CellOk d u := by
  match cs, h with
  | [x, y, z, u], ⟨hx, hy, hz, hu, _⟩ => exact ⟨x, y, z, u, rfl, hx, hy, hz, hu⟩
theorem ps_of {w : World} {A : Option Addr} {n : Nat} {D : Nat → List Value} (h : Elems w [some .i64, some .u64, some .i64, some .i64] A n D) : ∃ ps : List Pc, ps.length = n ∧ PsAt w A ps ∧ ∀ x ∈ ps, x.ok := by
  have key : ∀ i, i < n → ∃ x : Pc, D i = pcc x ∧ x.ok := by
    intro i hi
    obtain ⟨hok, _⟩ := h i hi
    obtain ⟨x, y, z, u, e, ⟨a, rfl, ha⟩, ⟨b, rfl, hb⟩, ⟨c, rfl, hc⟩, ⟨d, rfl, hd⟩⟩ := quad_of hok
    exact ⟨⟨a, b, c, d⟩, e, bounds_i64 ha, bounds_u64 hb, bounds_i64 hc, bounds_i64 hd⟩
  obtain ⟨U, hU⟩ : ∃ U : Nat → Pc, ∀ i, i < n → D i = pcc (U i) ∧ (U i).ok :=
    ⟨fun i => if hi : i < n then (key i hi).choose else ⟨0, 0, 0, 0⟩, fun i hi => by simp only [hi, dif_pos]; exact (key i hi).choose_spec⟩
  refine ⟨(List.range n).map U, by simp, fun i x hx => ?_, fun x hx => ?_⟩
  · have hi := (List.getElem?_eq_some_iff.1 hx).1
    simp at hi
    have hx2 : x = U i := by simp [hi] at hx; exact hx.symm
    subst hx2
    obtain ⟨b, off, e, hb, hc⟩ := rows_of h (by simp) i hi
    have h0 := hc i 0 hi (by simp)
    have h1 := hc i 1 hi (by simp)
    have h2 := hc i 2 hi (by simp)
    have h3 := hc i 3 hi (by simp)
    rw [(hU i hi).1] at h0 h1 h2 h3
    refine ⟨b, off, e, hb, by simpa [pcc] using h0, ?_, ?_, ?_⟩
    · rw [Nat.add_assoc]; simpa [pcc] using h1
    · rw [Nat.add_assoc]; simpa [pcc] using h2
    · rw [Nat.add_assoc]; simpa [pcc] using h3
  · obtain ⟨i, hi, rfl⟩ := List.mem_map.1 hx
    exact (hU i (List.mem_range.1 hi)).2
end Go.Proofs.Ytajcjepolfmhmaa
