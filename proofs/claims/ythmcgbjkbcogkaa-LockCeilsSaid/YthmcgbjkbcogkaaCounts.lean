/- A row of numbers (a slice of int that was made by its length) of which the first ones are known: reads and stores. -/
import Derived.Test.YthmcgbjkbcogkaaMem
namespace Go.Proofs.Ythmcgbjkbcogkaa
open Go.RowKit
set_option linter.unusedVariables false
/-- n cells of nought. -/
def zeros (n : Nat) : List Value := List.replicate n (.int .i64 0)
def row (n : Nat) : Array Value := ⟨zeros n⟩
/-- A row of m counts in block g, of which the first t + 1 are known. -/
def Counts (w : World) (g m t : Nat) (f : Nat → Int) : Prop :=
  ∃ cs, Blk w g 3 cs ∧ cs.length = m ∧ ∀ k, k ≤ t → cs[k]? = some (.int .i64 (f k))
section
variable {w w' : World} {g m t b : Nat} {f : Nat → Int}
theorem Counts.at_ (h : Counts w g m t f) {k : Nat} (hk : k ≤ t) : w.cell? ⟨g, k, none⟩ = some (.int .i64 (f k)) := by
  obtain ⟨cs, h1, h2, h3⟩ := h
  exact (h1.cell k).trans (h3 k hk)
theorem Counts.free (h : Counts w g m t f) (k : Nat) : w.frozen? ⟨g, k, none⟩ = false := by
  obtain ⟨cs, h1, h2, h3⟩ := h
  exact h1.free k
theorem Counts.lt (h : Counts w g m t f) : g < w.heap.size := by
  obtain ⟨cs, h1, h2, h3⟩ := h
  exact h1.lt
theorem Counts.has (h : Counts w g m t f) {k : Nat} (hk : k < m) : ∃ v, w.cell? ⟨g, k, none⟩ = some v := by
  obtain ⟨cs, h1, h2, h3⟩ := h
  exact ⟨cs[k], (h1.cell k).trans (List.getElem?_eq_getElem (by omega))⟩
theorem Counts.put (h : Counts w g m t f) (ht : t + 1 < m) {x : Int} (hx : x = f (t + 1)) : Counts (w.setCell ⟨g, t + 1, none⟩ (.int .i64 x)) g m (t + 1) f := by
  obtain ⟨cs, h1, h2, h3⟩ := h
  refine ⟨_, h1.put (t + 1) (.int .i64 x), by simp [h2], fun k hk => ?_⟩
  rcases Nat.lt_or_ge t k with h4 | h4
  · obtain rfl : k = t + 1 := by omega
    rw [List.getElem?_set_self (by omega), hx]
  · rw [List.getElem?_set_ne (by omega)]; exact h3 k h4
theorem Counts.put0 (h : Counts w g m t f) (x : Value) : Counts (w.setCell ⟨g, t + 1, none⟩ x) g m t f := by
  obtain ⟨cs, h1, h2, h3⟩ := h
  exact ⟨_, h1.put (t + 1) x, by simp [h2], fun k hk => by rw [List.getElem?_set_ne (by omega)]; exact h3 k hk⟩
theorem Counts.more (h : Counts w g m t f) {x : Int} (hc : w.cell? ⟨g, t + 1, none⟩ = some (.int .i64 x)) (hx : x = f (t + 1)) : Counts w g m (t + 1) f := by
  obtain ⟨cs, h1, h2, h3⟩ := h
  refine ⟨cs, h1, h2, fun k hk => ?_⟩
  rcases Nat.lt_or_ge t k with h4 | h4
  · obtain rfl : k = t + 1 := by omega
    rw [← hx, ← h1.cell]; exact hc
  · exact h3 k h4
theorem Counts.keep (h : Counts w g m t f) (o : Only (· = b) w w') (hb : g ≠ b) : Counts w' g m t f := by
  obtain ⟨cs, h1, h2, h3⟩ := h
  exact ⟨cs, h1.only o hb, h2, h3⟩
theorem Counts.below (h : Counts w g m t f) (o : Below w.heap.size w w') : Counts w' g m t f := by
  obtain ⟨cs, h1, h2, h3⟩ := h
  exact ⟨cs, h1.below o h1.lt, h2, h3⟩
theorem Counts.drewN (h : Counts w g m t f) (k : Nat) : Counts (w.drewN k) g m t f := h
theorem Counts.ne {ty : TypeId} {ds : List Value} (h : Counts w g m t f) (k : Blk w b ty ds) (hy : 3 ≠ ty) : g ≠ b := by
  obtain ⟨cs, h1, h2, h3⟩ := h
  exact h1.ne k hy
theorem Counts.first (w : World) (m : Nat) (hm : 0 < m) (f : Nat → Int) (h : f 0 = 0) : Counts (w.alloc (.cells (row m) 3)) w.heap.size m 0 f :=
  ⟨_, Blk.new w 3 (zeros m), List.length_replicate, fun k hk => (show k = 0 by omega) ▸ (by rw [h]; obtain ⟨j, rfl⟩ : ∃ j, m = j + 1 := ⟨m - 1, by omega⟩; rfl)⟩
end
end Go.Proofs.Ythmcgbjkbcogkaa
