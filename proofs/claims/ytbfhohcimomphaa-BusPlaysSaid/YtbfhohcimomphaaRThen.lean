/- A region that draws its order: first some moves, then a call that everything else waits for, then reads: one walk in the order of the text. -/
import Derived.Test.YtbfhohcimomphaaMem
import Derived.Deep.QuietTactic
import Derived.BigQuiet
import Derived.BigRegion
import Derived.RegionTactic
import Derived.Deep.RegionHeld3
namespace Go.Proofs.Ytbfhohcimomphaa
open Go.RowKit
set_option linter.unusedVariables false
section
variable {P : Program} {ops : Array Oper}
/-- The operations ahead of the call: each yields its value in whatever world. -/
def wpHead (P : Program) (ops : Array Oper) (L : Act → Prop) : List Oper → Act → Prop
  | [], a => L a
  | o :: r, a => ∃ v, Yields P ops o v a ∧ wpHead P ops L r (a.put o.dst v)
def thenFrom (ops : Array Oper) (g : Nat) : Nat → Nat → Array Bool → Bool
  | 0, k, listed => decide (Region.ready .any ops listed = [k]) && Region.lexFrom .any ops g (k + 1) (listed.setIfInBounds k true)
  | f + 1, k, listed => (Region.ready .any ops listed).contains k && Region.free .any ops listed k && thenFrom ops g f (k + 1) (listed.setIfInBounds k true)
def thenB (ops : Array Oper) (n : Nat) : Bool := Region.noSelect ops && thenFrom ops (ops.size - n - 1) n 0 (Array.replicate ops.size false)
def restW (P : Program) (ops : Array Oper) (Q : Exit → Act → World → Prop) (rest : List Oper) (a : Act) (w : World) : Prop :=
  wpQuiet P ops (fun w' => ∃ m, w' = w.drewN m) (fun a' => ∀ w', (∃ m, w' = w.drewN m) → Q .normal a' w') rest a
theorem wpAny_then {Q : Exit → Act → World → Prop} (hs : Region.noSelect ops = true) (hQ : ∀ c a d v w, Q (.panic c) (a.put d v) w → Q (.panic c) a w) (o : Oper) (rest : List Oper) (hg : o.guard = none) {w : World} :
    ∀ (l : List Oper) (k : Nat) (listed : Array Bool) (a : Act), (∀ j, (l ++ o :: rest)[j]? = ops[k + j]?) → thenFrom ops rest.length l.length k listed = true →
      wpHead P ops (fun a1 => ∀ K : Act → World → Prop, (∀ a2 w2, restW P ops Q rest a2 w2 → K a2 w2) → Oper.wp P o a1 w K Q) l a → wpAny P .any ops Q (l.length + (rest.length + 1)) listed a w
  | [], k, listed, a, hl, hB, h => by
    simp only [List.length_nil, thenFrom, Bool.and_eq_true, decide_eq_true_eq] at hB
    obtain ⟨hr, hB⟩ := hB
    have h0 : ops[k]? = some o := by simpa using (hl 0).symm
    rw [List.length_nil, Nat.zero_add]
    refine wpAny_all hr (by simp) fun i hi => ?_
    have hik : i = k := by simpa using hi
    subst hik
    refine wpOp_step h0 fun K' hK' => ?_
    rw [if_pos (by simp [Region.wanted, hg])]
    refine h K' fun a2 w2 hq => hK' a2 w2 ?_
    have h1 := wpAnyQ_lex (md := .any) hs rest (i + 1) (listed.setIfInBounds i true) a2 (fun j => by have := hl (j + 1); simpa [Nat.add_assoc, Nat.add_comm 1 j] using this) hB hq
    exact wpAny_of_quiet (C := fun w' => ∃ m, w' = w2.drewN m) (fun a w' hw' h => h w' hw') _ _ _ _ ⟨0, rfl⟩ h1
  | o' :: l, k, listed, a, hl, hB, h => by
    simp only [List.length_cons, thenFrom, Bool.and_eq_true] at hB
    obtain ⟨⟨hr, hf⟩, hB⟩ := hB
    obtain ⟨v, hy, h⟩ := h
    have h0 : ops[k]? = some o' := by simpa using (hl 0).symm
    have ih := wpAny_then hs hQ o rest hg l (k + 1) (listed.setIfInBounds k true) (a.put o'.dst v) (fun j => by have := hl (j + 1); simpa [Nat.add_assoc, Nat.add_comm 1 j] using this) hB h
    have := wpAny_take (Q := Q) h0 hs hf hr (fun c a w h => hQ c a _ _ w h) hy ih
    rw [List.length_cons, show l.length + 1 + (rest.length + 1) = l.length + (rest.length + 1) + 1 by omega]
    exact this
theorem wp_region_then {id : Nat} {Q : Exit → Act → World → Prop} {a : Act} {w : World} (l : List Oper) (o : Oper) (rest : List Oper) (hm : P.follows .mixedOrders = true) (hg : o.guard = none)
    (hB : thenB (l ++ o :: rest).toArray l.length = true) (hQ : ∀ c a d v w, Q (.panic c) (a.put d v) w → Q (.panic c) a w)
    (h : wpHead P (l ++ o :: rest).toArray (fun a1 => ∀ K : Act → World → Prop, (∀ a2 w2, restW P (l ++ o :: rest).toArray Q rest a2 w2 → K a2 w2) → Oper.wp P o a1 w.drew K Q) l a) : (Code.region id (l ++ o :: rest).toArray true).wp P Q a w := by
  simp only [thenB, Bool.and_eq_true] at hB
  obtain ⟨hs, hB⟩ := hB
  have hsz : (l ++ o :: rest).toArray.size = l.length + (rest.length + 1) := by simp
  refine wp_region_any hm ?_
  rw [hsz] at hB ⊢
  have e : l.length + (rest.length + 1) - l.length - 1 = rest.length := by omega
  rw [e] at hB
  exact wpAny_then hs hQ o rest hg l 0 _ a (fun j => by simp) hB h
/-- The same, cut at operation n of a region that is written out, and is shown not to panic. -/
theorem wp_region_cut {id : Nat} {Q : Exit → Act → World → Prop} {a : Act} {w : World} {ops : List Oper} (n : Nat) {o : Oper} (hm : P.follows .mixedOrders = true) (ho : ops[n]? = some o) (hg : o.guard = none)
    (hB : thenB ops.toArray n = true)
    (h : wpHead P ops.toArray (fun a1 => ∀ K : Act → World → Prop, (∀ a2 w2, restW P ops.toArray Q (ops.drop (n + 1)) a2 w2 → K a2 w2) → Oper.wp P o a1 w.drew K (NoPanic Q)) (ops.take n) a) : (Code.region id ops.toArray true).wp P Q a w := by
  obtain ⟨hl, e⟩ := List.getElem?_eq_some_iff.1 ho
  have he : ops = ops.take n ++ o :: ops.drop (n + 1) := by
    rw [← e, ← List.drop_eq_getElem_cons hl, List.take_append_drop]
  have hn : (ops.take n).length = n := by simp; omega
  refine wp_region_noPanic ?_
  have := wp_region_then (id := id) (Q := NoPanic Q) (a := a) (w := w) (ops.take n) o (ops.drop (n + 1)) hm hg (by rw [← he, hn]; exact hB) (fun c a d v w h => h) (by rw [← he]; exact h)
  rwa [← he] at this
end
end Go.Proofs.Ytbfhohcimomphaa
