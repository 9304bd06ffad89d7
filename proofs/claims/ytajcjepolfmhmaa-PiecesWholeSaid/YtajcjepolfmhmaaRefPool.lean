/- The reference of layer 7 (pool): a pool, New and Get. -/
import Derived.Test.YtajcjepolfmhmaaPoolNew
import Derived.BigQuiet
import Derived.Deep.RegionLaw
import Derived.BigRegion
import Derived.Deep.RegionWith
namespace Go.Proofs.Ytajcjepolfmhmaa
open Go.RowKit
set_option linter.unusedVariables false
set_option linter.unusedSimpArgs false
theorem slcBlk2 {w : World} {e : TypeId} {size n : Nat} {v : Value} {xs : List Value} (h : Slc w e size v n xs) {g : Nat} (hg : v.ownBlock = some g) : ∃ cs, Blk w g e cs := by
  rcases h.2 with ⟨rfl, _⟩ | ⟨g', off, c, cs, rfl, hh, _⟩
  · simp [Value.ownBlock] at hg
  · simp [Value.ownBlock] at hg; subst hg; exact ⟨cs.toList, hh⟩
theorem Slc.neS {w : World} {e e' : TypeId} {size size' n n' : Nat} {v v' : Value} {xs xs' : List Value} (h : Slc w e size v n xs) (h' : Slc w e' size' v' n' xs') (hne : e ≠ e') {g : Nat} (hg : v'.ownBlock = some g) : v.ownBlock ≠ some g := by
  obtain ⟨cs, hb⟩ := slcBlk2 h' hg
  exact h.ne hb hne
/-- One element set. -/
theorem Slc.put1 {w : World} {e : TypeId} {v : Value} {n : Nat} {xs : List Value} (h : Slc w e 1 v n xs) {g off c : Nat} (hv : v = .slice (some ⟨g, off, none⟩) n c) {i : Nat} (hi : i < n) (u : Value) : Slc (w.setCell ⟨g, off + i, none⟩ u) e 1 v n (xs.set i u) := by
  obtain ⟨hl, h⟩ := h
  refine ⟨by simpa using hl, ?_⟩
  rcases h with ⟨h1, h2⟩ | ⟨g', off', c', cs, e1, hh, hc, hm, hsz, hx⟩
  · omega
  · rw [hv] at e1
    injection e1 with e1 e2 e3
    injection e1 with e1
    injection e1 with e4 e5 e6
    subst e4 e5 e3
    refine .inr ⟨g, off, c, cs.set! (off + i) u, hv, ?_, hc, hm, by simpa using hsz, fun j u' hu => ?_⟩
    · simp [World.setCell, Array.getElem?_modify, hh]
    · by_cases ej : i = j
      · subst ej
        rw [List.getElem?_set_self (by omega)] at hu
        simp at hu
        subst hu
        have hlt : off + i < cs.size := by omega
        simp [Array.set!, hlt]
      · rw [List.getElem?_set_ne ej] at hu
        have := hx j u' hu
        rw [Array.set!_eq_setIfInBounds, Array.getElem?_setIfInBounds_ne (by omega)]
        exact this
/-- A pool of the reference: generations, owners, references, bytes. -/
structure Rw (w : World) (base p : Nat) (g o f b : Value) (G O F B : List Value) : Prop where
  blk : Blk w p 87 [g, o, f, b]
  rg : Slc w 38 1 g G.length G
  ro : Slc w 3 1 o O.length O
  rf : Slc w 3 1 f F.length F
  rb : Slc w 23 1 b B.length B
  of : ∀ x, o.ownBlock = some x → f.ownBlock ≠ some x
  bp : base ≤ p
  bo : ∀ x, (g.ownBlock = some x ∨ o.ownBlock = some x ∨ f.ownBlock = some x ∨ b.ownBlock = some x) → base ≤ x
variable {w w' w3 : World} {base p : Nat} {g o f b v' u : Value} {G O F B : List Value}
theorem Rw.keep (k : Rw w base p g o f b G O F B) (h : Below w.heap.size w w') : Rw w' base p g o f b G O F B :=
  ⟨k.blk.below h k.blk.lt, k.rg.below h (fun _ e => k.rg.lt e), k.ro.below h (fun _ e => k.ro.lt e), k.rf.below h (fun _ e => k.rf.lt e), k.rb.below h (fun _ e => k.rb.lt e), k.of, k.bp, k.bo⟩
theorem Rw.alloc (k : Rw w base p g o f b G O F B) (x : Obj) : Rw (w.alloc x) base p g o f b G O F B := k.keep ((Below.refl _ _).alloc (Nat.le_refl _) _)
theorem Rw.drew (k : Rw w base p g o f b G O F B) : Rw w.drew base p g o f b G O F B := ⟨k.blk, k.rg, k.ro, k.rf, k.rb, k.of, k.bp, k.bo⟩
theorem Rw.drewN (k : Rw w base p g o f b G O F B) (n : Nat) : Rw (w.drewN n) base p g o f b G O F B := ⟨k.blk, k.rg, k.ro, k.rf, k.rb, k.of, k.bp, k.bo⟩
/-- Blocks that the pool hasn't. -/
theorem Rw.away (k : Rw w base p g o f b G O F B) {q : Addr} (h0 : q.block ≠ p) (h1 : g.ownBlock ≠ some q.block) (h2 : o.ownBlock ≠ some q.block) (h3 : f.ownBlock ≠ some q.block) (h4 : b.ownBlock ≠ some q.block) (u : Value) : Rw (w.setCell q u) base p g o f b G O F B :=
  ⟨k.blk.far (fun e => h0 e.symm) u, k.rg.far h1 u, k.ro.far h2 u, k.rf.far h3 u, k.rb.far h4 u, k.of, k.bp, k.bo⟩
theorem Rw.push0 (k : Rw w base p g o f b G O F B) (hb : base ≤ w.heap.size) (hs : Slc w3 38 1 v' (G.length + 1) (G ++ [u])) (ho : Only (fun x => g.ownBlock = some x) w w3) (hat : v'.ownBlock = g.ownBlock ∨ v'.ownBlock = some w.heap.size) :
    Rw (w3.setCell ⟨p, 0, none⟩ v') base p v' o f b (G ++ [u]) O F B ∧ Blk w3 p 87 [g, o, f, b] ∧ Below base w w3 ∧ Below base w (w3.setCell ⟨p, 0, none⟩ v') := by
  have B3 := k.blk.only ho (fun e => k.rg.ne k.blk (by decide) e)
  have bl : Below base w w3 := ho.below hb (fun x hx e => by have := k.bo x (.inl e); omega)
  refine ⟨⟨B3.put 0 v', by rw [List.length_append, List.length_singleton]; exact hs.far (hs.ne B3 (by decide)) v',
    (k.ro.only ho (fun x e1 e2 => k.rg.neS k.ro (by decide) e1 e2)).far (fun e => k.ro.ne k.blk (by decide) e) v',
    (k.rf.only ho (fun x e1 e2 => k.rg.neS k.rf (by decide) e1 e2)).far (fun e => k.rf.ne k.blk (by decide) e) v',
    (k.rb.only ho (fun x e1 e2 => k.rg.neS k.rb (by decide) e1 e2)).far (fun e => k.rb.ne k.blk (by decide) e) v',
    k.of, k.bp,
    fun x hx => by
    rcases hx with e | e | e | e
    · rcases hat with h | h
      · rw [h] at e; exact k.bo x (.inl e)
      · rw [h] at e; injection e with e; omega
    · exact k.bo x (.inr (.inl e))
    · exact k.bo x (.inr (.inr (.inl e)))
    · exact k.bo x (.inr (.inr (.inr e)))⟩, B3, bl, bl.setCell k.bp v'⟩
theorem Rw.push1 (k : Rw w base p g o f b G O F B) (hb : base ≤ w.heap.size) (hs : Slc w3 3 1 v' (O.length + 1) (O ++ [u])) (ho : Only (fun x => o.ownBlock = some x) w w3) (hat : v'.ownBlock = o.ownBlock ∨ v'.ownBlock = some w.heap.size) :
    Rw (w3.setCell ⟨p, 1, none⟩ v') base p g v' f b G (O ++ [u]) F B ∧ Blk w3 p 87 [g, o, f, b] ∧ Below base w w3 ∧ Below base w (w3.setCell ⟨p, 1, none⟩ v') := by
  have B3 := k.blk.only ho (fun e => k.ro.ne k.blk (by decide) e)
  have bl : Below base w w3 := ho.below hb (fun x hx e => by have := k.bo x (.inr (.inl e)); omega)
  refine ⟨⟨B3.put 1 v', (k.rg.only ho (fun x e1 e2 => k.ro.neS k.rg (by decide) e1 e2)).far (fun e => k.rg.ne k.blk (by decide) e) v',
    by rw [List.length_append, List.length_singleton]; exact hs.far (hs.ne B3 (by decide)) v',
    (k.rf.only ho (fun x e1 e2 => k.of x e2 e1)).far (fun e => k.rf.ne k.blk (by decide) e) v',
    (k.rb.only ho (fun x e1 e2 => k.ro.neS k.rb (by decide) e1 e2)).far (fun e => k.rb.ne k.blk (by decide) e) v',
    fun x e1 e2 => by
    rcases hat with h | h
    · rw [h] at e1; exact k.of x e1 e2
    · rw [h] at e1; injection e1 with e1; have := k.rf.lt e2; omega, k.bp,
    fun x hx => by
    rcases hx with e | e | e | e
    · exact k.bo x (.inl e)
    · rcases hat with h | h
      · rw [h] at e; exact k.bo x (.inr (.inl e))
      · rw [h] at e; injection e with e; omega
    · exact k.bo x (.inr (.inr (.inl e)))
    · exact k.bo x (.inr (.inr (.inr e)))⟩, B3, bl, bl.setCell k.bp v'⟩
theorem Rw.push2 (k : Rw w base p g o f b G O F B) (hb : base ≤ w.heap.size) (hs : Slc w3 3 1 v' (F.length + 1) (F ++ [u])) (ho : Only (fun x => f.ownBlock = some x) w w3) (hat : v'.ownBlock = f.ownBlock ∨ v'.ownBlock = some w.heap.size) :
    Rw (w3.setCell ⟨p, 2, none⟩ v') base p g o v' b G O (F ++ [u]) B ∧ Blk w3 p 87 [g, o, f, b] ∧ Below base w w3 ∧ Below base w (w3.setCell ⟨p, 2, none⟩ v') := by
  have B3 := k.blk.only ho (fun e => k.rf.ne k.blk (by decide) e)
  have bl : Below base w w3 := ho.below hb (fun x hx e => by have := k.bo x (.inr (.inr (.inl e))); omega)
  refine ⟨⟨B3.put 2 v', (k.rg.only ho (fun x e1 e2 => k.rf.neS k.rg (by decide) e1 e2)).far (fun e => k.rg.ne k.blk (by decide) e) v',
    (k.ro.only ho (fun x e1 e2 => k.of x e1 e2)).far (fun e => k.ro.ne k.blk (by decide) e) v',
    by rw [List.length_append, List.length_singleton]; exact hs.far (hs.ne B3 (by decide)) v',
    (k.rb.only ho (fun x e1 e2 => k.rf.neS k.rb (by decide) e1 e2)).far (fun e => k.rb.ne k.blk (by decide) e) v',
    fun x e1 e2 => by
    rcases hat with h | h
    · rw [h] at e2; exact k.of x e1 e2
    · rw [h] at e2; injection e2 with e2; have := k.ro.lt e1; omega, k.bp,
    fun x hx => by
    rcases hx with e | e | e | e
    · exact k.bo x (.inl e)
    · exact k.bo x (.inr (.inl e))
    · rcases hat with h | h
      · rw [h] at e; exact k.bo x (.inr (.inr (.inl e)))
      · rw [h] at e; injection e with e; omega
    · exact k.bo x (.inr (.inr (.inr e)))⟩, B3, bl, bl.setCell k.bp v'⟩
theorem Rw.push3 (k : Rw w base p g o f b G O F B) (hb : base ≤ w.heap.size) (hs : Slc w3 23 1 v' (B.length + 1) (B ++ [u])) (ho : Only (fun x => b.ownBlock = some x) w w3) (hat : v'.ownBlock = b.ownBlock ∨ v'.ownBlock = some w.heap.size) :
    Rw (w3.setCell ⟨p, 3, none⟩ v') base p g o f v' G O F (B ++ [u]) ∧ Blk w3 p 87 [g, o, f, b] ∧ Below base w w3 ∧ Below base w (w3.setCell ⟨p, 3, none⟩ v') := by
  have B3 := k.blk.only ho (fun e => k.rb.ne k.blk (by decide) e)
  have bl : Below base w w3 := ho.below hb (fun x hx e => by have := k.bo x (.inr (.inr (.inr e))); omega)
  refine ⟨⟨B3.put 3 v', (k.rg.only ho (fun x e1 e2 => k.rb.neS k.rg (by decide) e1 e2)).far (fun e => k.rg.ne k.blk (by decide) e) v',
    (k.ro.only ho (fun x e1 e2 => k.rb.neS k.ro (by decide) e1 e2)).far (fun e => k.ro.ne k.blk (by decide) e) v',
    (k.rf.only ho (fun x e1 e2 => k.rb.neS k.rf (by decide) e1 e2)).far (fun e => k.rf.ne k.blk (by decide) e) v',
    by rw [List.length_append, List.length_singleton]; exact hs.far (hs.ne B3 (by decide)) v',
    k.of, k.bp,
    fun x hx => by
    rcases hx with e | e | e | e
    · exact k.bo x (.inl e)
    · exact k.bo x (.inr (.inl e))
    · exact k.bo x (.inr (.inr (.inl e)))
    · rcases hat with h | h
      · rw [h] at e; exact k.bo x (.inr (.inr (.inr e)))
      · rw [h] at e; injection e with e; omega⟩, B3, bl, bl.setCell k.bp v'⟩
theorem Rw.put1 (k : Rw w base p g o f b G O F B) {d off c i : Nat} (hv : o = .slice (some ⟨d, off, none⟩) O.length c) (hi : i < O.length) (u : Value) : Rw (w.setCell ⟨d, off + i, none⟩ u) base p g o f b G (O.set i u) F B ∧ base ≤ d := by
  have hd : o.ownBlock = some d := by rw [hv]; rfl
  obtain ⟨cs, hbl⟩ := slcBlk2 k.ro hd
  refine ⟨⟨k.blk.far (fun e => k.ro.ne k.blk (by decide) (hd.trans (congrArg some e.symm))) u, k.rg.far (fun e => k.rg.ne hbl (by decide) e) u,
    by rw [List.length_set]; exact k.ro.put1 hv hi u,
    k.rf.far (fun e => k.of d hd e) u,
    k.rb.far (fun e => k.rb.ne hbl (by decide) e) u,
    k.of, k.bp, k.bo⟩, k.bo d (.inr (.inl hd))⟩
theorem Rw.put2 (k : Rw w base p g o f b G O F B) {d off c i : Nat} (hv : f = .slice (some ⟨d, off, none⟩) F.length c) (hi : i < F.length) (u : Value) : Rw (w.setCell ⟨d, off + i, none⟩ u) base p g o f b G O (F.set i u) B ∧ base ≤ d := by
  have hd : f.ownBlock = some d := by rw [hv]; rfl
  obtain ⟨cs, hbl⟩ := slcBlk2 k.rf hd
  refine ⟨⟨k.blk.far (fun e => k.rf.ne k.blk (by decide) (hd.trans (congrArg some e.symm))) u, k.rg.far (fun e => k.rg.ne hbl (by decide) e) u,
    k.ro.far (fun e => k.of d e hd) u,
    by rw [List.length_set]; exact k.rf.put1 hv hi u,
    k.rb.far (fun e => k.rb.ne hbl (by decide) e) u,
    k.of, k.bp, k.bo⟩, k.bo d (.inr (.inr (.inl hd)))⟩
theorem Rw.put3 (k : Rw w base p g o f b G O F B) {d off c i : Nat} (hv : b = .slice (some ⟨d, off, none⟩) B.length c) (hi : i < B.length) (u : Value) : Rw (w.setCell ⟨d, off + i, none⟩ u) base p g o f b G O F (B.set i u) ∧ base ≤ d := by
  have hd : b.ownBlock = some d := by rw [hv]; rfl
  obtain ⟨cs, hbl⟩ := slcBlk2 k.rb hd
  refine ⟨⟨k.blk.far (fun e => k.rb.ne k.blk (by decide) (hd.trans (congrArg some e.symm))) u, k.rg.far (fun e => k.rg.ne hbl (by decide) e) u,
    k.ro.far (fun e => k.ro.ne hbl (by decide) e) u,
    k.rf.far (fun e => k.rf.ne hbl (by decide) e) u,
    by rw [List.length_set]; exact k.rb.put1 hv hi u,
    k.of, k.bp, k.bo⟩, k.bo d (.inr (.inr (.inr hd)))⟩
def LensOK (B : List Value) (ls : List Nat) : Prop := B.length = ls.length ∧ ∀ (i : Nat) y m, B[i]? = some y → ls[i]? = some m → ∃ A c, y = .slice A m c
/-- A pool of the reference, whose buffers have the lengths ls. -/
def RefP (w : World) (base p : Nat) (ls : List Nat) : Prop :=
  ∃ g o f b G O F B, Rw w base p g o f b G O F B ∧ G.length = ls.length ∧ O.length = ls.length ∧ F.length = ls.length ∧ LensOK B ls ∧ (∀ y ∈ G, ∃ x, y = .int .u64 x) ∧ (∀ y ∈ O, ∃ x, y = .int .i64 x)
theorem RefP.keep {ls : List Nat} (k : RefP w base p ls) (h : Below w.heap.size w w') : RefP w' base p ls := by
  obtain ⟨g, o, f, b, G, O, F, B, k, h1⟩ := k
  exact ⟨g, o, f, b, G, O, F, B, k.keep h, h1⟩
end Go.Proofs.Ytajcjepolfmhmaa
