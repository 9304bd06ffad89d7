/- Layer 7 (pool) in memory: a pool is a block, a row of pointers, for each buffer a block of four cells and one of bytes; what a store into one buffer does. -/
import Derived.Test.YtajcjepolfmhmaaMem
import Derived.Test.YtajcjepolfmhmaaSlc
namespace Go.Proofs.Ytajcjepolfmhmaa
open Go.RowKit
set_option linter.unusedVariables false
set_option linter.unusedSimpArgs false
/-- A buffer: its generation, owner, references, bytes. -/
structure Bf where
  gen : Int
  own : Int
  refs : Int
  bytes : List Int
/-- Where a pool lies: its block, its row, the buffers' blocks, their bytes' blocks. -/
structure Pl where
  p : Nat
  v : Value
  xs : List Nat
  ys : List Nat
def ptr (x : Nat) : Value := .pointer (some ⟨x, 0, none⟩)
def bufCells (b : Bf) (y : Nat) : List Value := [.int .u64 b.gen, .int .i64 b.own, .int .i64 b.refs, .slice (some ⟨y, 0, none⟩) b.bytes.length b.bytes.length]
def byteCells (l : List Int) : List Value := l.map (Value.int .u8)
structure IsP (w : World) (P : Pl) (bs : List Bf) : Prop where
  blk : Blk w P.p 72 [P.v]
  row : Slc w 73 1 P.v bs.length (P.xs.map ptr)
  lx : P.xs.length = bs.length
  ly : P.ys.length = bs.length
  buf : ∀ (i : Nat) (b : Bf) (x y : Nat), bs[i]? = some b → P.xs[i]? = some x → P.ys[i]? = some y → Blk w x 75 (bufCells b y) ∧ Blk w y 5 (byteCells b.bytes)
  nx : P.xs.Nodup
  ny : P.ys.Nodup
/-- The blocks that a pool's functions turn; all that it has. -/
def Pl.own (P : Pl) (i : Nat) : Prop := i ∈ P.xs ∨ i ∈ P.ys
def Pl.all (P : Pl) (i : Nat) : Prop := i = P.p ∨ P.v.ownBlock = some i ∨ P.own i
theorem nodup_ne {l : List Nat} (h : l.Nodup) {i j : Nat} {a b : Nat} (hi : l[i]? = some a) (hj : l[j]? = some b) (hne : i ≠ j) : a ≠ b := by
  intro e
  subst e
  obtain ⟨h1, e1⟩ := List.getElem?_eq_some_iff.1 hi
  obtain ⟨h2, e2⟩ := List.getElem?_eq_some_iff.1 hj
  have hp := List.pairwise_iff_getElem.1 h
  rcases Nat.lt_or_gt_of_ne hne with hlt | hgt
  · exact hp i j h1 h2 hlt (e1.trans e2.symm)
  · exact hp j i h2 h1 hgt (e2.trans e1.symm)
section
variable {w w' : World} {P : Pl} {bs : List Bf} {F : Nat → Prop}
theorem IsP.at_ (h : IsP w P bs) {i : Nat} (hi : i < bs.length) : ∃ b x y, bs[i]? = some b ∧ P.xs[i]? = some x ∧ P.ys[i]? = some y ∧ x ∈ P.xs ∧ y ∈ P.ys ∧ Blk w x 75 (bufCells b y) ∧ Blk w y 5 (byteCells b.bytes) := by
  have h1 : P.xs[i]? = some (P.xs[i]'(by rw [h.lx]; exact hi)) := List.getElem?_eq_getElem _
  have h2 : P.ys[i]? = some (P.ys[i]'(by rw [h.ly]; exact hi)) := List.getElem?_eq_getElem _
  have h3 : bs[i]? = some bs[i] := List.getElem?_eq_getElem hi
  obtain ⟨k1, k2⟩ := h.buf i _ _ _ h3 h1 h2
  exact ⟨_, _, _, h3, h1, h2, List.mem_of_getElem? h1, List.mem_of_getElem? h2, k1, k2⟩
theorem IsP.only (h : IsP w P bs) (o : Only F w w') (hF : ∀ i, F i → ¬ P.all i) : IsP w' P bs := by
  refine ⟨h.blk.only o fun f => hF _ f (.inl rfl), h.row.only o fun g hg f => hF _ f (.inr (.inl hg)), h.lx, h.ly, fun i b x y hb hx hy => ?_, h.nx, h.ny⟩
  obtain ⟨k1, k2⟩ := h.buf i b x y hb hx hy
  exact ⟨k1.only o fun f => hF _ f (.inr (.inr (.inl (List.mem_of_getElem? hx)))), k2.only o fun f => hF _ f (.inr (.inr (.inr (List.mem_of_getElem? hy))))⟩
theorem IsP.below (h : IsP w P bs) (o : Below w.heap.size w w') : IsP w' P bs := by
  refine ⟨h.blk.below o h.blk.lt, h.row.below o fun g hg => h.row.lt hg, h.lx, h.ly, fun i b x y hb hx hy => ?_, h.nx, h.ny⟩
  obtain ⟨k1, k2⟩ := h.buf i b x y hb hx hy
  exact ⟨k1.below o k1.lt, k2.below o k2.lt⟩
theorem IsP.drewN (h : IsP w P bs) (n : Nat) : IsP (w.drewN n) P bs := ⟨h.blk, h.row, h.lx, h.ly, h.buf, h.nx, h.ny⟩
theorem IsP.drew (h : IsP w P bs) : IsP w.drew P bs := ⟨h.blk, h.row, h.lx, h.ly, h.buf, h.nx, h.ny⟩
theorem IsP.alloc (h : IsP w P bs) (o : Obj) : IsP (w.alloc o) P bs := h.below ((Below.refl _ _).alloc (Nat.le_refl _) _)
/-- One buffer's block turned: the others are as they were. -/
theorem IsP.turn (h : IsP w P bs) {i x y : Nat} {b' : Bf} (hi : i < bs.length) (hx : P.xs[i]? = some x) (hy : P.ys[i]? = some y) (o : Only (fun g => g = x ∨ g = y) w w')
    (kx : Blk w' x 75 (bufCells b' y)) (ky : Blk w' y 5 (byteCells b'.bytes)) : IsP w' P (bs.set i b') := by
  obtain ⟨b0, x0, y0, hb0, hx0, hy0, -, -, k1, k2⟩ := h.at_ hi
  rw [hx] at hx0
  rw [hy] at hy0
  injection hx0 with hx0
  injection hy0 with hy0
  subst hx0
  subst hy0
  have np : ¬ (P.p = x ∨ P.p = y) := fun e => e.elim (fun e => (h.blk.ne k1 (by decide)) e) (fun e => (h.blk.ne k2 (by decide)) e)
  refine ⟨h.blk.only o np, ?_, by simp [h.lx], by simp [h.ly], fun j b z u hb hz hu => ?_, h.nx, h.ny⟩
  · rw [List.length_set]
    exact h.row.only o fun g hg f => by
      rcases f with rfl | rfl
      · exact h.row.ne k1 (by decide) hg
      · exact h.row.ne k2 (by decide) hg
  · by_cases e : i = j
    · subst e
      rw [hx] at hz
      rw [hy] at hu
      injection hz with hz
      injection hu with hu
      subst hz
      subst hu
      rw [List.getElem?_set_self hi] at hb
      injection hb with hb
      subst hb
      exact ⟨kx, ky⟩
    · rw [List.getElem?_set_ne e] at hb
      obtain ⟨l1, l2⟩ := h.buf j b z u hb hz hu
      have hzx := nodup_ne h.nx hz hx (fun e' => e e'.symm)
      have huy := nodup_ne h.ny hu hy (fun e' => e e'.symm)
      have hzy : z ≠ y := l1.ne k2 (by decide)
      have hux : u ≠ x := l2.ne k1 (by decide)
      exact ⟨l1.only o (fun f => f.elim hzx hzy), l2.only o (fun f => f.elim hux huy)⟩
end
/-- The buffer that a handle names, if it is one of a buffer that isn't free. -/
def look (bs : List Bf) (s g : Int) : Option (Nat × Bf) :=
  if 0 ≤ s then match bs[s.toNat]? with
    | some b => if b.own ≠ 0 ∧ b.gen = g then some (s.toNat, b) else none
    | none => none
  else none
theorem look_some {bs : List Bf} {s g : Int} {i : Nat} {b : Bf} (h : look bs s g = some (i, b)) : s = i ∧ i < bs.length ∧ bs[i]? = some b ∧ b.own ≠ 0 ∧ b.gen = g := by
  unfold look at h
  split at h
  · rename_i h0
    split at h
    · rename_i b' hb
      split at h
      · rename_i hc
        injection h with h
        injection h with h1 h2
        subst h1
        subst h2
        obtain ⟨hl, -⟩ := List.getElem?_eq_some_iff.1 hb
        exact ⟨by omega, hl, hb, hc.1, hc.2⟩
      · cases h
    · cases h
  · cases h
theorem look_none {bs : List Bf} {s g : Int} (h : look bs s g = none) : s < 0 ∨ (bs.length : Int) ≤ s ∨ ∃ (i : Nat) (b : Bf), s = i ∧ i < bs.length ∧ bs[i]? = some b ∧ (b.own = 0 ∨ b.gen ≠ g) := by
  by_cases h0 : 0 ≤ s
  · by_cases h1 : s < bs.length
    · have hl : s.toNat < bs.length := by omega
      have hb : bs[s.toNat]? = some (bs[s.toNat]) := List.getElem?_eq_getElem hl
      refine .inr (.inr ⟨s.toNat, _, by omega, hl, hb, ?_⟩)
      unfold look at h
      rw [if_pos h0, hb] at h
      simp only at h
      split at h
      · cases h
      · rename_i hc
        by_cases h2 : (bs[s.toNat]).own = 0
        · exact .inl h2
        · exact .inr fun h3 => hc ⟨h2, h3⟩
    · exact .inr (.inl (by omega))
  · exact .inl (by omega)
def shareP (s g : Int) (bs : List Bf) : Int × List Bf := match look bs s g with
  | none => (3, bs)
  | some (i, b) => if b.own ≠ 1 then (8, bs) else if 100 ≤ b.refs then (4, bs) else (0, bs.set i { b with refs := b.refs + 1 })
def dropP (s g : Int) (bs : List Bf) : Int × List Bf := match look bs s g with
  | none => (3, bs)
  | some (i, b) => if b.own ≠ 1 then (8, bs) else if b.refs = 1 then (0, bs.set i { b with refs := 0, own := 0, gen := b.gen + 1 }) else (0, bs.set i { b with refs := b.refs - 1 })
def mayOwn (o : Int) : Bool := decide (1 ≤ o ∧ o ≤ 3)
def giveP (s g f t : Int) (bs : List Bf) : Int × List Bf := match look bs s g with
  | none => (3, bs)
  | some (i, b) => if mayOwn f = false ∨ mayOwn t = false ∨ f = t then (1, bs) else if b.own ≠ f then (8, bs) else (0, bs.set i { b with own := t })
def ownerP (s g : Int) (bs : List Bf) : Int × Int × Int := match look bs s g with
  | none => (0, 0, 3)
  | some (i, b) => (b.own, b.refs, 0)
def sizeP (s g : Int) (bs : List Bf) : Int × Int := match look bs s g with
  | none => (0, 3)
  | some (i, b) => (b.bytes.length, 0)
/-- The bytes k from at on, over those that were there. -/
def over (l : List Int) (at_ : Nat) (k : List Int) : List Int := l.take at_ ++ k ++ l.drop (at_ + k.length)
def writeP (s g by_ at_ : Int) (k : List Int) (bs : List Bf) : Int × List Bf := match look bs s g with
  | none => (3, bs)
  | some (i, b) => if mayOwn by_ = false then (1, bs) else if b.own ≠ by_ then (8, bs) else if at_ < 0 ∨ b.bytes.length < at_ ∨ (b.bytes.length : Int) - at_ < k.length then (1, bs) else (0, bs.set i { b with bytes := over b.bytes at_.toNat k })
def readP (s g at_ n : Int) (bs : List Bf) : Option (List Int) × Int := match look bs s g with
  | none => (none, 3)
  | some (i, b) => if at_ < 0 ∨ n < 0 ∨ b.bytes.length < at_ ∨ (b.bytes.length : Int) - at_ < n then (none, 1) else (some ((b.bytes.drop at_.toNat).take n.toNat), 0)
def freeP (bs : List Bf) : Int := ((bs.filter (fun b => b.own == 0)).length : Int)
/-- The first free one that is great enough. -/
def firstP (size : Int) (bs : List Bf) : Option Nat := bs.findIdx? (fun b => b.own == 0 && decide (size ≤ (b.bytes.length : Int)))
def getP (size : Int) (bs : List Bf) : (Int × Int × Int) × List Bf :=
  if size < 1 ∨ ((bs.getLast?.map fun b => (b.bytes.length : Int)).getD 0) < size then ((0, 0, 1), bs) else match firstP size bs with
    | none => ((0, 0, 5), bs)
    | some i => match bs[i]? with
      | none => ((0, 0, 5), bs)
      | some b => ((i, b.gen, 0), bs.set i { b with own := 1, refs := 1, bytes := List.replicate b.bytes.length 0 })
end Go.Proofs.Ytajcjepolfmhmaa
