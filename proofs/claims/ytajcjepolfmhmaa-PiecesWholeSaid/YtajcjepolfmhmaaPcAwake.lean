/- Layer 8 (pieces): the law's constants (awake). -/
import Derived.Test.YtajcjepolfmhmaaPcBoth
import Derived.Lib.SlBytesConst
import Derived.Laws.BytesArg
namespace Go.Proofs.Ytajcjepolfmhmaa
open Go.RowKit
set_option linter.unusedVariables false
set_option linter.unusedSimpArgs false
def mayLB (bs : List Bf) (l : List Pc) : Bool :=
  decide (1 ≤ l.length) && decide (l.length ≤ 16) && (List.range l.length).all fun j => match l[j]? with
    | some x => may1 bs x && !anyB (meetF x) (l.take j)
    | none => true
theorem mayLB_iff {bs : List Bf} {l : List Pc} : mayLB bs l = true ↔ mayL bs l := by
  unfold mayLB mayL mayUp
  simp only [Bool.and_eq_true, decide_eq_true_eq, List.all_eq_true, List.mem_range]
  constructor
  · rintro ⟨⟨h1, h2⟩, h3⟩
    refine ⟨fun j x hj hx => ?_, h1, h2⟩
    have := h3 j hj
    rw [hx] at this
    simpa using this
  · rintro ⟨h3, h1, h2⟩
    refine ⟨⟨h1, h2⟩, fun j hj => ?_⟩
    rw [List.getElem?_eq_getElem hj]
    have := h3 j _ hj (List.getElem?_eq_getElem hj)
    simpa using this
def flatP : List Pc → List Value
  | [] => []
  | x :: r => .int .i64 x.s :: .int .u64 x.g :: .int .i64 x.f :: .int .i64 x.n :: flatP r
theorem flatP_at : ∀ (l : List Pc) (i : Nat) (x : Pc), l[i]? = some x → (flatP l)[i * 4]? = some (.int .i64 x.s) ∧ (flatP l)[i * 4 + 1]? = some (.int .u64 x.g) ∧ (flatP l)[i * 4 + 2]? = some (.int .i64 x.f) ∧ (flatP l)[i * 4 + 3]? = some (.int .i64 x.n)
  | [], i, x, h => by cases i <;> cases h
  | y :: r, 0, x, h => by
    simp at h
    subst h
    exact ⟨rfl, rfl, rfl, rfl⟩
  | y :: r, i + 1, x, h => by
    have := flatP_at r i x (by simpa using h)
    rw [show (i + 1) * 4 = i * 4 + 1 + 1 + 1 + 1 by omega]
    exact this
theorem PsAt.blk {w : World} {b : Nat} {t : TypeId} {l : List Pc} (h : Blk w b t (flatP l)) : PsAt w (some ⟨b, 0, none⟩) l := by
  intro i x hx
  obtain ⟨h0, h1, h2, h3⟩ := flatP_at l i x hx
  refine ⟨b, 0, rfl, h.lt, ?_, ?_, ?_, ?_⟩
  · rw [Nat.zero_add, h.cell]; exact h0
  · rw [Nat.zero_add, h.cell]; exact h1
  · rw [Nat.zero_add, h.cell]; exact h2
  · rw [Nat.zero_add, h.cell]; exact h3
def psA : List Pc := [⟨0, 1, 0, 3⟩, ⟨0, 1, 5, 3⟩]
def LA : List Int := [97, 98, 99, 100, 101]
def bs7 : List Bf := [⟨1, 1, 1, [97, 98, 99, 0, 0, 100, 101, 0]⟩, ⟨1, 1, 1, zer 8⟩, ⟨1, 1, 1, zer 8⟩, ⟨1, 1, 1, zer 20⟩, ⟨1, 0, 0, zer 20⟩, ⟨1, 0, 0, zer 20⟩]
theorem bs6_bytes : ∀ b ∈ bs6, b.bytes.length ≤ 65536 := by decide
theorem bs7_bytes : ∀ b ∈ bs7, b.bytes.length ≤ 65536 := by decide
theorem may6A : mayL bs6 psA := mayLB_iff.1 (by decide)
theorem may7A : mayL bs7 psA := mayLB_iff.1 (by decide)
theorem all6A : allB bs6 psA 1 = true := by decide
theorem all7A : allB bs7 psA 2 = false := by decide
theorem scat6A : scatF psA 1 LA bs6 2 = bs7 := by rfl
theorem gath7A : gatherF bs7 psA 2 = [97, 98, 99, 100, 101, 0] := by decide
theorem scatA {r : Int × Int × List Bf} (h : scatQ bs6 psA 1 LA r) : r = (5, 0, bs7) := by
  rcases h with ⟨h, -⟩ | ⟨-, h, -⟩ | ⟨-, -, h⟩
  · exact (h may6A).elim
  · rw [all6A] at h; cases h
  · rw [h]; rfl
theorem giveA {r : Int × List Bf} (h : giveR bs7 psA 2 1 r) : r = (8, bs7) := by
  rcases h with ⟨h, -⟩ | ⟨-, -, h⟩ | ⟨-, h, -⟩
  · rcases h with h | h | h | h
    · exact (h may7A).elim
    · exact absurd h (by decide)
    · exact absurd h (by decide)
    · exact absurd h (by decide)
  · exact h
  · rw [all7A] at h; cases h
theorem hitA1 : hit psA 4 1 := ⟨by decide, _, rfl, by decide⟩
theorem hitA0 : ¬ hit psA 4 0 := by
  rintro ⟨-, x, hx, h⟩
  injection hx with hx
  subst hx
  exact absurd h (by decide)
theorem findA {e : Ending} (h : FindPost psA 2 4 e) : e = .returned (.tuple #[.int .i64 1, .int .i64 6, .int .i64 0]) := by
  rcases h with ⟨k, x, hk, hx, hh, hn, rfl⟩ | ⟨h, -⟩
  · rcases (show k = 0 ∨ k = 1 by omega) with rfl | rfl
    · exact (hitA0 hh).elim
    · injection hx with hx
      subst hx
      rfl
  · exact (h 1 (by omega) hitA1).elim
end Go.Proofs.Ytajcjepolfmhmaa
