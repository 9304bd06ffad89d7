/- A region that draws its order, whose operations read and whose calls only make new memory: one walk in the order of the text, in every world that is as this one below its size. -/
import Derived.Test.YtinpaplpgoljpaaMem
import Derived.Deep.QuietTactic
import Derived.BigQuiet
namespace Go.Proofs.Ytinpaplpgoljpaa
open Go.RowKit
set_option linter.unusedVariables false

/-- A world in which nothing that w has has turned. -/
def SubW (w : World) : Type := { W : World // Below w.heap.size w W }
theorem wp_region_sub {P : Program} {id : Nat} {Q : Exit → Act → World → Prop} {a : Act} {w : World} {l : List Oper} (hm : P.follows .mixedOrders = true) (hB : Region.lexB .any l.toArray = true)
    (h : wpQuiet P l.toArray (fun w' => ∃ X : SubW w, w' = X.1) (fun a' => ∀ w', (∃ X : SubW w, w' = X.1) → Q .normal a' w') l a) : (Code.region id l.toArray true).wp P Q a w :=
  wp_region_quiet (C := fun w' => ∃ X : SubW w, w' = X.1) hm hB ⟨⟨_, (Below.refl w.heap.size w).drew⟩, rfl⟩ (by simpa using h)
theorem SubW.cell {w : World} {b o : Nat} {v : Value} (h : w.cell? ⟨b, o, none⟩ = some v) (hb : b < w.heap.size) : ∀ X : SubW w, X.1.cell? ⟨b, o, none⟩ = some v := fun X => (X.2.cell (p := ⟨b, o, none⟩) hb).trans h
instance (w : World) : Nonempty (SubW w) := ⟨⟨w, Below.refl _ _⟩⟩
/-- A call that only makes new memory, met in such a region. -/
theorem sub_call {P : Program} {f : FuncId} {args : Array Value} {w : World} {v : Value} (X : SubW w) (h : Calls P f args X.1 fun e w' => e = .returned v ∧ Below X.1.heap.size X.1 w') :
    Calls P f args X.1 fun e w'' => e = .returned v ∧ ∃ Y : SubW w, w'' = Y.1 := h.mono fun _ w'' ⟨he, hb⟩ => ⟨he, ⟨w'', Below.next X.2 hb⟩, rfl⟩
end Go.Proofs.Ytinpaplpgoljpaa
