/- Slices that came in, as functions of the index: numbers of one kind; rows of cells. -/
import Derived.Test.YtbdhmjlbogjkoaaArg
import Derived.Test.YtbdhmjlbogjkoaaMem
namespace Go.Proofs.Ytbdhmjlbogjkoaa
open Go.ChangeShapes Go.WideShapes Go.ChangeAt Go.RowKit
set_option linter.unusedVariables false

/-- The n rows of m cells behind A read as D (where there is one at all). -/
def RowsAt (w : World) (m : Nat) (A : Option Addr) (n : Nat) (D : Nat → List Value) : Prop :=
  ∀ i, i < n → ∃ b off, A = some ⟨b, off, none⟩ ∧ b < w.heap.size ∧ ∀ i j, i < n → j < m → w.cell? ⟨b, off + (i * m + j), none⟩ = (D i)[j]?
theorem AllOk.length : ∀ {ks : List (Option IntKind)} {cs : List Value}, AllOk ks cs → cs.length = ks.length
  | [], [], _ => rfl
  | _ :: _, _ :: _, h => by simp [AllOk.length h.2]
  | [], _ :: _, h => h.elim
  | _ :: _, [], h => h.elim
theorem rows_of {w : World} {ks : List (Option IntKind)} {A : Option Addr} {n : Nat} {D : Nat → List Value} (h : Elems w ks A n D) (hk : 0 < ks.length) : RowsAt w ks.length A n D := by
  intro i hi
  obtain ⟨hok, ad, rfl, hc⟩ := h 0 (by omega)
  obtain ⟨b, off, spot⟩ := ad
  have hx : ∃ v, (D 0)[0]? = some v := ⟨_, List.getElem?_eq_getElem (by rw [hok.length]; exact hk)⟩
  obtain ⟨v, hv⟩ := hx
  have h0 := (hc 0 hk).trans hv
  have hspot : spot = none := by simpa [Addr.add] using World.cell?_spot h0
  subst hspot
  have hlt : b < w.heap.size := by
    have := World.block_lt_of_cell? w _ h0
    simpa [Addr.add] using this
  refine ⟨b, off, rfl, hlt, fun i j hi hj => ?_⟩
  obtain ⟨_, ad', e, hc'⟩ := h i hi
  injection e with e
  subst e
  have := hc' j hj
  rwa [Go.WideShapes.add_plain] at this
theorem RowsAt.below {w w' : World} {m : Nat} {A : Option Addr} {n : Nat} {D : Nat → List Value} (h : RowsAt w m A n D) (k : Below w.heap.size w w') : RowsAt w' m A n D := by
  intro i hi
  obtain ⟨b, off, e, hb, hc⟩ := h i hi
  exact ⟨b, off, e, Nat.lt_of_lt_of_le hb k.size, fun i j hi hj => (k.cell (p := ⟨b, _, none⟩) hb).trans (hc i j hi hj)⟩

/-- The n numbers of a kind behind A. -/
def IntsAt (w : World) (k : IntKind) (A : Option Addr) (n : Nat) (U : Nat → Int) : Prop :=
  ∀ i, i < n → ∃ b off, A = some ⟨b, off, none⟩ ∧ b < w.heap.size ∧ ∀ j, j < n → w.cell? ⟨b, off + j, none⟩ = some (.int k (U j))
theorem ints_of {w : World} {k : IntKind} {A : Option Addr} {n : Nat} {D : Nat → List Value} (h : Elems w [some k] A n D) : ∃ U : Nat → Int, IntsAt w k A n U ∧ ∀ i, i < n → (Lit.int k (U i)).wf = true := by
  have key : ∀ i, i < n → ∃ x, D i = [.int k x] ∧ (Lit.int k x).wf = true := by
    intro i hi
    obtain ⟨hok, _⟩ := h i hi
    match hD : D i, hok with
    | [_], ⟨⟨x, rfl, hw⟩, _⟩ => exact ⟨x, rfl, hw⟩
  obtain ⟨U, hU⟩ : ∃ U : Nat → Int, ∀ i, i < n → D i = [.int k (U i)] ∧ (Lit.int k (U i)).wf = true :=
    ⟨fun i => if hi : i < n then (key i hi).choose else 0, fun i hi => by simp only [hi, dif_pos]; exact (key i hi).choose_spec⟩
  refine ⟨U, fun i hi => ?_, fun i hi => (hU i hi).2⟩
  obtain ⟨b, off, e, hb, hc⟩ := rows_of h (by simp) i hi
  refine ⟨b, off, e, hb, fun j hj => ?_⟩
  have := hc j 0 hj (by simp)
  rw [(hU j hj).1] at this
  simpa using this
theorem IntsAt.below {w w' : World} {k : IntKind} {A : Option Addr} {n : Nat} {U : Nat → Int} (h : IntsAt w k A n U) (l : Below w.heap.size w w') : IntsAt w' k A n U := by
  intro i hi
  obtain ⟨b, off, e, hb, hc⟩ := h i hi
  exact ⟨b, off, e, Nat.lt_of_lt_of_le hb l.size, fun j hj => (l.cell (p := ⟨b, _, none⟩) hb).trans (hc j hj)⟩
theorem IntsAt.at_ {w : World} {k : IntKind} {A : Option Addr} {n : Nat} {U : Nat → Int} (h : IntsAt w k A n U) {i : Nat} (hi : i < n) : ∃ b off, A = some ⟨b, off, none⟩ ∧ b < w.heap.size ∧ w.cell? ⟨b, off + i, none⟩ = some (.int k (U i)) := by
  obtain ⟨b, off, e, hb, hc⟩ := h i hi
  exact ⟨b, off, e, hb, hc i hi⟩
/-- The n bools behind A. -/
def BoolsAt (w : World) (A : Option Addr) (n : Nat) (U : Nat → Bool) : Prop :=
  ∀ i, i < n → ∃ b off, A = some ⟨b, off, none⟩ ∧ b < w.heap.size ∧ ∀ j, j < n → w.cell? ⟨b, off + j, none⟩ = some (.bool (U j))
theorem bools_of {w : World} {A : Option Addr} {n : Nat} {D : Nat → List Value} (h : Elems w [none] A n D) : ∃ U : Nat → Bool, BoolsAt w A n U := by
  have key : ∀ i, i < n → ∃ x, D i = [.bool x] := by
    intro i hi
    obtain ⟨hok, _⟩ := h i hi
    match hD : D i, hok with
    | [_], ⟨⟨x, rfl⟩, _⟩ => exact ⟨x, rfl⟩
  obtain ⟨U, hU⟩ : ∃ U : Nat → Bool, ∀ i, i < n → D i = [.bool (U i)] :=
    ⟨fun i => if hi : i < n then (key i hi).choose else false, fun i hi => by simp only [hi, dif_pos]; exact (key i hi).choose_spec⟩
  refine ⟨U, fun i hi => ?_⟩
  obtain ⟨b, off, e, hb, hc⟩ := rows_of h (by simp) i hi
  refine ⟨b, off, e, hb, fun j hj => ?_⟩
  have := hc j 0 hj (by simp)
  rw [hU j hj] at this
  simpa using this
theorem BoolsAt.below {w w' : World} {A : Option Addr} {n : Nat} {U : Nat → Bool} (h : BoolsAt w A n U) (l : Below w.heap.size w w') : BoolsAt w' A n U := by
  intro i hi
  obtain ⟨b, off, e, hb, hc⟩ := h i hi
  exact ⟨b, off, e, Nat.lt_of_lt_of_le hb l.size, fun j hj => (l.cell (p := ⟨b, _, none⟩) hb).trans (hc j hj)⟩
theorem BoolsAt.at_ {w : World} {A : Option Addr} {n : Nat} {U : Nat → Bool} (h : BoolsAt w A n U) {i : Nat} (hi : i < n) : ∃ b off, A = some ⟨b, off, none⟩ ∧ b < w.heap.size ∧ w.cell? ⟨b, off + i, none⟩ = some (.bool (U i)) := by
  obtain ⟨b, off, e, hb, hc⟩ := h i hi
  exact ⟨b, off, e, hb, hc i hi⟩
end Go.Proofs.Ytbdhmjlbogjkoaa
