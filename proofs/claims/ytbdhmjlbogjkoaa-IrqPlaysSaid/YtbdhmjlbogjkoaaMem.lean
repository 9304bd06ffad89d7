/- Words for memory: a block that is known whole; a world in which only certain blocks have turned. -/
import Derived.Test.YtbdhmjlbogjkoaaBase
import Derived.Below
import Derived.Laws.OwnMore
import Derived.Deep.Draws
import Derived.Laws.Rows
namespace Go.Proofs.Ytbdhmjlbogjkoaa
open Go.RowKit
set_option linter.unusedVariables false

/-- Block g holds just the cells cs, none frozen. -/
def Blk (w : World) (g : Nat) (t : TypeId) (cs : List Value) : Prop := w.heap[g]? = some (.cells ⟨cs⟩ t (0, 0))
/-- Of the blocks that w has only those in F may have turned in w'. -/
structure Only (F : Nat → Prop) (w w' : World) : Prop where
  os : w'.os = w.os
  tape : w'.tape = w.tape
  output : w'.output = w.output
  size : w.heap.size ≤ w'.heap.size
  block : ∀ i, i < w.heap.size → ¬ F i → w'.heap[i]? = w.heap[i]?

section
variable {w w' a b c : World} {F G : Nat → Prop} {g : Nat} {t : TypeId} {cs : List Value}
theorem Only.refl (F : Nat → Prop) (w : World) : Only F w w := ⟨rfl, rfl, rfl, Nat.le_refl _, fun _ _ _ => rfl⟩
theorem Only.trans (h : Only F a b) (k : Only G b c) (hG : ∀ i, i < a.heap.size → G i → F i) : Only F a c :=
  ⟨k.os.trans h.os, k.tape.trans h.tape, k.output.trans h.output, Nat.le_trans h.size k.size, fun i hi hF => (k.block i (Nat.lt_of_lt_of_le hi h.size) (fun x => hF (hG i hi x))).trans (h.block i hi hF)⟩
theorem Only.mono (h : Only F a b) (k : ∀ i, i < a.heap.size → F i → G i) : Only G a b := ⟨h.os, h.tape, h.output, h.size, fun i hi hG => h.block i hi (fun x => hG (k i hi x))⟩
theorem Only.alloc (h : Only F a w) (o : Obj) : Only F a (w.alloc o) :=
  ⟨h.os, h.tape, h.output, Nat.le_trans h.size (by simp), fun i hi hF => (Below.heap_alloc w o i (Nat.lt_of_lt_of_le hi h.size)).trans (h.block i hi hF)⟩
theorem Only.setCell (h : Only F a w) {p : Addr} (hp : p.block < a.heap.size → F p.block) (u : Value) : Only F a (w.setCell p u) :=
  ⟨h.os, h.tape, h.output, by simpa [World.setCell] using h.size, fun i hi hF => (Below.heap_setCell w p u i (by rintro rfl; exact hF (hp hi))).trans (h.block i hi hF)⟩
theorem Only.drewN (h : Only F a w) (n : Nat) : Only F a (w.drewN n) := ⟨h.os, h.tape, h.output, h.size, h.block⟩
theorem Only.drew (h : Only F a w) : Only F a w.drew := ⟨h.os, h.tape, h.output, h.size, h.block⟩
theorem Only.of_below (h : Below a.heap.size a b) : Only F a b := ⟨h.os, h.tape, h.output, h.size, fun i hi _ => h.block i hi⟩
theorem Only.below {B : Nat} (h : Only F a b) (hB : B ≤ a.heap.size) (k : ∀ i, i < B → ¬ F i) : Below B a b := ⟨h.os, h.tape, h.output, h.size, fun i hi => h.block i (by omega) (k i hi)⟩
theorem Only.of_grown {row : Option Nat} (h : a.grownBy b row) (k : ∀ r, row = some r → r < a.heap.size → F r) : Only F a b :=
  ⟨h.os, h.tape, h.output, h.size, fun i hi hF => h.block i hi (fun e => hF (k i e.symm hi))⟩

/-- Behind a call that turned blocks of the call's own alone: what was there when it began is as it was. -/
theorem Below.only {g : Nat} (h : Below a.heap.size a w) (k : Only (· = g) w w') (hg : a.heap.size ≤ g) : Below a.heap.size a w' :=
  h.trans (k.below h.size (fun i hi e => by omega))
theorem Below.onlyF (h : Below a.heap.size a w) (k : Only F w w') (hF : ∀ i, F i → a.heap.size ≤ i) : Below a.heap.size a w' :=
  h.trans (k.below h.size (fun i hi e => by have := hF i e; omega))
theorem Below.next (h : Below a.heap.size a w) (k : Below w.heap.size w w') : Below a.heap.size a w' := h.trans (k.mono h.size)
theorem Below.drewN' {B : Nat} (h : Below B a w) (n : Nat) : Below B a (w.drewN n) := ⟨h.os, h.tape, h.output, h.size, h.block⟩

theorem Blk.lt (h : Blk w g t cs) : g < w.heap.size := by
  rcases Nat.lt_or_ge g w.heap.size with hlt | hge
  · exact hlt
  · unfold Blk at h; rw [Array.getElem?_eq_none hge] at h; cases h
theorem Blk.cell (h : Blk w g t cs) (i : Nat) : w.cell? ⟨g, i, none⟩ = cs[i]? := by
  have := cell_of_row w g i ⟨cs⟩ t (0, 0) h
  simpa using this
theorem Blk.free (h : Blk w g t cs) (i : Nat) : w.frozen? ⟨g, i, none⟩ = false := by
  unfold Blk at h
  simp [World.frozen?, h]
theorem Blk.new (w : World) (t : TypeId) (cs : List Value) : Blk (w.alloc (.cells ⟨cs⟩ t)) w.heap.size t cs := heap_alloc_new w _
theorem Blk.drewN (h : Blk w g t cs) (n : Nat) : Blk (w.drewN n) g t cs := h
theorem Blk.drew (h : Blk w g t cs) : Blk w.drew g t cs := h
theorem Blk.alloc (h : Blk w g t cs) (o : Obj) : Blk (w.alloc o) g t cs := (Below.heap_alloc w o g h.lt).trans h
theorem Blk.put (h : Blk w g t cs) (i : Nat) (u : Value) : Blk (w.setCell ⟨g, i, none⟩ u) g t (cs.set i u) := by
  unfold Blk at h ⊢
  simp [World.setCell, Array.getElem?_modify, h]
theorem Blk.far (h : Blk w g t cs) {p : Addr} (hp : g ≠ p.block) (u : Value) : Blk (w.setCell p u) g t cs := (Below.heap_setCell w p u g hp).trans h
theorem Blk.only (h : Blk w g t cs) (k : Only F w w') (hg : ¬ F g) : Blk w' g t cs := (k.block g h.lt hg).trans h
theorem Blk.below {B : Nat} (h : Blk w g t cs) (k : Below B w w') (hg : g < B) : Blk w' g t cs := (k.block g hg).trans h
theorem Blk.ne {g' : Nat} {t' : TypeId} {cs' : List Value} (h : Blk w g t cs) (h' : Blk w g' t' cs') (hne : t ≠ t') : g ≠ g' := by
  rintro rfl
  unfold Blk at h h'
  rw [h] at h'
  injection h' with h'
  injection h' with _ ht
  exact hne ht
end
end Go.Proofs.Ytbdhmjlbogjkoaa
