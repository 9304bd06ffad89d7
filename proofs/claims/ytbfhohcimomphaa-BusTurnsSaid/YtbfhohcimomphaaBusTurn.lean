/- Layer 6 (bus): two alike masters with a burst, who always want the bus: the states, slot by slot (a plain law, by closed numbers). -/
import Derived.Test.YtbfhohcimomphaaBusSeven
namespace Go.Proofs.Ytbfhohcimomphaa
set_option linter.unusedVariables false
deriving instance DecidableEq for Mp
deriving instance DecidableEq for Ms
deriving instance DecidableEq for Bu
def turnM (b : Nat) : Mp := ⟨4, b, 1000, 1000⟩
/-- Who has slot t. -/
def turnW (b t : Nat) : Int := if t % (b + 1) = b then 1 else 0
/-- The bus behind t slots. -/
def turnB (b t : Nat) : Bu :=
  if t = 0 then ⟨[turnM b, turnM b], [⟨1000, 1000, 0, 0, 0, 0⟩, ⟨1000, 1000, 0, 0, 0, 0⟩], List.replicate 16 0, false, 0, 0, -1, 0⟩
  else ⟨[turnM b, turnM b],
    [⟨1000, 1000, 0, if turnW b (t - 1) = 1 then (t : Int) - 2 else (t : Int) - 1, 0, ((t - t / (b + 1) : Nat) : Int)⟩,
     ⟨1000, 1000, 0, if b = 1 ∧ turnW b (t - 1) = 0 ∧ 2 ≤ t then (t : Int) - 2 else (t : Int) - 1, 0, ((t / (b + 1) : Nat) : Int)⟩],
    ((t / (b + 1) : Nat) : Int) :: ((t - t / (b + 1) : Nat) : Int) :: List.replicate 14 0, true, (t : Int) - 1, 0, turnW b (t - 1), if turnW b (t - 1) = 1 then 1 else (((t - 1) % (b + 1) + 1 : Nat) : Int)⟩
def turnOk (b t : Nat) : Bool := decide (winB (t : Int) (wants [1, 0]) (freshB (t : Int) (turnB b t)) = ((turnW b t, 0), turnB b (t + 1))) && decide ((turnB b (t + 1)).who = turnW b t ∧ 1 ≤ (turnB b (t + 1)).row ∧ (turnB b (t + 1)).row ≤ b)
theorem turn_all : ((List.range 9).all fun b => (List.range 100).all fun t => turnOk (b + 1) t) = true := by decide +kernel
theorem turn_step {b t : Nat} (hb : 1 ≤ b) (hb9 : b ≤ 9) (ht : t < 100) : winB (t : Int) (wants [1, 0]) (freshB (t : Int) (turnB b t)) = ((turnW b t, 0), turnB b (t + 1)) ∧ (turnB b (t + 1)).who = turnW b t ∧ 1 ≤ (turnB b (t + 1)).row ∧ (turnB b (t + 1)).row ≤ b := by
  have h := List.all_eq_true.1 turn_all (b - 1) (by simp; omega)
  have h2 := List.all_eq_true.1 h t (by simp; omega)
  rw [show b - 1 + 1 = b by omega] at h2
  simpa [turnOk] using h2
end Go.Proofs.Ytbfhohcimomphaa
