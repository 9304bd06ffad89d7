/- Many cells of one block set at once (clear, copy): what turns, and what the block holds then. -/
import Derived.Test.YtajcjepolfmhmaaMem
import Derived.Laws.IdiomCopy
namespace Go.Proofs.Ytajcjepolfmhmaa
open Go.RowKit
set_option linter.unusedVariables false
set_option linter.unusedSimpArgs false
def putMany : List Value → Nat → List Value → List Value
  | cs, _, [] => cs
  | cs, o, v :: vs => putMany (cs.set o v) (o + 1) vs
theorem putMany_length (vs : List Value) : ∀ (cs : List Value) (o : Nat), (putMany cs o vs).length = cs.length := by
  induction vs with
  | nil => intro cs o; rfl
  | cons v vs ih => intro cs o; simp [putMany, ih]
theorem putMany_eq (vs : List Value) : ∀ (cs : List Value) (o : Nat), o + vs.length ≤ cs.length → putMany cs o vs = cs.take o ++ vs ++ cs.drop (o + vs.length) := by
  induction vs with
  | nil => intro cs o h; simp [putMany]
  | cons v vs ih =>
    intro cs o h
    simp only [List.length_cons] at h
    rw [putMany, ih (cs.set o v) (o + 1) (by rw [List.length_set]; omega)]
    have h1 : (cs.set o v).take (o + 1) = cs.take o ++ [v] := by
      rw [List.take_add_one, List.take_set_of_le (Nat.le_refl _), List.getElem?_set_self (by omega)]; rfl
    have h2 : (cs.set o v).drop (o + 1 + vs.length) = cs.drop (o + (v :: vs).length) := by
      rw [List.drop_set_of_lt (by omega)]
      congr 1
      simp; omega
    rw [h1, h2]
    simp
theorem putMany_all (n : Nat) (z : Value) (cs : List Value) (h : cs.length = n) : putMany cs 0 (List.replicate n z) = List.replicate n z := by
  rw [putMany_eq _ _ _ (by simp [h])]
  simp [h]
theorem setCells_only (b : Nat) (vs : List Value) : ∀ (o : Nat) (w : World), Only (· = b) w (w.setCells b o vs) := by
  induction vs with
  | nil => intro o w; exact Only.refl _ _
  | cons v vs ih =>
    intro o w
    exact (Only.setCell (Only.refl (· = b) w) (p := ⟨b, o, none⟩) (fun _ => rfl) v).trans (ih (o + 1) _) (fun _ _ h => h)
theorem Blk.many {b : Nat} {t : TypeId} (vs : List Value) : ∀ {w : World} {cs : List Value} (o : Nat), Blk w b t cs → Blk (w.setCells b o vs) b t (putMany cs o vs) := by
  induction vs with
  | nil => intro w cs o h; exact h
  | cons v vs ih => intro w cs o h; exact ih (o + 1) (h.put o v)
end Go.Proofs.Ytajcjepolfmhmaa
