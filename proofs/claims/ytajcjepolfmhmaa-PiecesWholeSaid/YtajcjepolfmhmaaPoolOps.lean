/- Layer 7 (pool): what each function does to one buffer; the contracts of Share, Drop, Give. -/
import Derived.Test.YtajcjepolfmhmaaPoolWith
namespace Go.Proofs.Ytajcjepolfmhmaa
open Go.RowKit
set_option linter.unusedVariables false
set_option linter.unusedSimpArgs false
/-- What a run keeps of each buffer. -/
structure Bf.ok (G : Int) (b : Bf) : Prop where
  g0 : 0 ≤ b.gen
  g1 : b.gen ≤ G
  o0 : 0 ≤ b.own
  o1 : b.own ≤ 3
  r0 : 0 ≤ b.refs
  r1 : b.refs ≤ 100
  live : b.own ≠ 0 → 1 ≤ b.refs
  len : b.bytes.length ≤ 65536
  el : ∀ x ∈ b.bytes, 0 ≤ x ∧ x ≤ 255
theorem set_same {bs : List Bf} {i : Nat} {b : Bf} (h : bs[i]? = some b) : bs.set i b = bs := by
  obtain ⟨h1, h2⟩ := List.getElem?_eq_some_iff.1 h
  rw [← h2]; exact List.set_getElem_self h1
theorem set_set_ {bs : List Bf} {i : Nat} {b c : Bf} : (bs.set i b).set i c = bs.set i c := by simp
section
variable {w w' : World} {P : Pl} {bs : List Bf}
theorem IsP.xy (h : IsP w P bs) {i : Nat} {b : Bf} (hb : bs[i]? = some b) : ∃ x y, P.xs[i]? = some x ∧ P.ys[i]? = some y ∧ x ∈ P.xs ∧ y ∈ P.ys ∧ Blk w x 75 (bufCells b y) ∧ Blk w y 5 (byteCells b.bytes) ∧ i < bs.length := by
  obtain ⟨hl, -⟩ := List.getElem?_eq_some_iff.1 hb
  obtain ⟨b0, x, y, hb0, hx, hy, h1, h2, k1, k2⟩ := h.at_ hl
  rw [hb] at hb0
  injection hb0 with hb0
  subst hb0
  exact ⟨x, y, hx, hy, h1, h2, k1, k2, hl⟩
theorem IsP.nil (h : IsP w P bs) {i : Nat} {b : Bf} (hb : bs[i]? = some b) : IsP w P (bs.set i b) := by rw [set_same hb]; exact h
theorem own_of {x y : Nat} (hx : x ∈ P.xs) (hy : y ∈ P.ys) (o : Only (fun g => g = x ∨ g = y) w w') : Only P.own w w' := o.mono fun i _ h => h.elim (fun e => .inl (e ▸ hx)) (fun e => .inr (e ▸ hy))
end
/-- A reference more, of what is a task's. -/
def shareB (b : Bf) : Int × Bf := if b.own ≠ 1 then (8, b) else if 100 ≤ b.refs then (4, b) else (0, { b with refs := b.refs + 1 })
def shareQ (s g : Int) (bs : List Bf) : Int × List Bf := match look bs s g with
  | none => (3, bs)
  | some (i, b) => ((shareB b).1, bs.set i (shareB b).2)
/-- A reference less, of what is a task's: the last one frees it. -/
def dropB (b : Bf) : Int × Bf := if b.own ≠ 1 then (8, b) else if b.refs = 1 then (0, { b with refs := 0, own := 0, gen := b.gen + 1 }) else (0, { b with refs := b.refs - 1 })
def dropQ (s g : Int) (bs : List Bf) : Int × List Bf := match look bs s g with
  | none => (3, bs)
  | some (i, b) => ((dropB b).1, bs.set i (dropB b).2)
end Go.Proofs.Ytajcjepolfmhmaa
