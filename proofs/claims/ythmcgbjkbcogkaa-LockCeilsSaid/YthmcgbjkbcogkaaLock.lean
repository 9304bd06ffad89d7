/- Layer 23 (lock) in memory: a keeper is a block, a row of ceilings, a map of members; a member is a block and a row of what it holds. -/
import Derived.Test.YthmcgbjkbcogkaaMem
import Derived.Test.YthmcgbjkbcogkaaSlc
import Derived.Maps.OwnOps
import Derived.Maps.OwnSet
import Derived.Maps.RangeWalk
import Derived.Maps.Views
namespace Go.Proofs.Ythmcgbjkbcogkaa
open Go.RowKit
open Go.Maps (Keyed)
set_option linter.unusedVariables false
set_option linter.unusedSimpArgs false
/-- What an element of the members' map reads as: its block's number. -/
def refElem (v : Value) : Option (DataW Unit × List MemPlace) := match v with
  | .pointer (some ⟨x, 0, none⟩) => some (.lit (.int .i64 x), [])
  | .pointer none => some (.lit (.int .i64 (-1)), [])
  | _ => none
def ptr (x : Nat) : Value := .pointer (some ⟨x, 0, none⟩)
def ptrO : Option Nat → Value
  | none => .pointer none
  | some x => ptr x
theorem refElem_ptr (x : Nat) : refElem (ptr x) = some (.lit (.int .i64 x), []) := rfl
theorem refElem_inv {v : Value} {z : DataW Unit × List MemPlace} (h : refElem v = some z) : (∃ x : Nat, v = ptr x ∧ z = (.lit (.int .i64 x), [])) ∨ (v = .pointer none ∧ z = (.lit (.int .i64 (-1)), [])) := by
  unfold refElem at h
  split at h
  · injection h with h; exact .inl ⟨_, rfl, h.symm⟩
  · injection h with h; exact .inr ⟨rfl, h.symm⟩
  · cases h
theorem keyed : Keyed Try.prog 3 := Maps.int_keyed Try.underlying3
def okKey (x : Int) : Prop := -9223372036854775808 ≤ x ∧ x ≤ 9223372036854775807
theorem wf_of {x : Int} (h : okKey x) : (Lit.int .i64 x).wf = true := by
  obtain ⟨h1, h2⟩ := h
  simp [Lit.wf, IntKind.min, IntKind.max, IntKind.signed, IntKind.bits]
  omega
theorem key_of {x : Int} (h : okKey x) : keyOf Try.prog 3 (.int .i64 x) = some (.int .i64 x) := Maps.keyOf_int_mk Try.underlying3 (wf_of h)
/-- Block b is a map of at most N entries, from numbers to blocks, that reads as f. -/
def MapIs (w : World) (b N : Nat) (f : Int → Option Nat) : Prop :=
  ∃ n D, n ≤ N ∧ w.ownsMap Try.prog 3 refElem b n D ∧ (∀ x, okKey x → Maps.has D (.int .i64 x) = (f x).isSome) ∧ ∀ x c, okKey x → f x = some c → ∀ z, D.atKey (.int .i64 x) z = .lit (.int .i64 (c : Nat))
section
variable {w w' : World} {b N : Nat} {f : Int → Option Nat}
theorem MapIs.lt (h : MapIs w b N f) : b < w.heap.size := by obtain ⟨n, D, -, h, -⟩ := h; exact h.lt
theorem MapIs.keep (h : MapIs w b N f) (e : w'.heap[b]? = w.heap[b]?) : MapIs w' b N f := by
  obtain ⟨n, D, hn, ⟨es, clock, hb, r⟩, h2⟩ := h
  exact ⟨n, D, hn, ⟨es, clock, e.trans hb, r⟩, h2⟩
theorem MapIs.only {F : Nat → Prop} (h : MapIs w b N f) (o : Only F w w') (hF : ¬ F b) : MapIs w' b N f := h.keep (o.block b h.lt hF)
theorem MapIs.below {B : Nat} (h : MapIs w b N f) (o : Below B w w') (hB : b < B) : MapIs w' b N f := h.keep (o.block b hB)
theorem MapIs.more {M : Nat} (h : MapIs w b N f) (hM : N ≤ M) : MapIs w b M f := by obtain ⟨n, D, hn, r⟩ := h; exact ⟨n, D, Nat.le_trans hn hM, r⟩
theorem MapIs.made (w : World) : MapIs (w.alloc (.map #[] 0)) w.heap.size 0 (fun _ => none) :=
  ⟨0, .map [], Nat.le_refl _, World.ownsMap_made w _ _ _, fun x _ => rfl, fun x c _ h => by cases h⟩
theorem MapIs.ne {g : Nat} {t : TypeId} {cs : List Value} (h : MapIs w b N f) (k : Blk w g t cs) : b ≠ g := by
  obtain ⟨n, D, hn, ⟨es, clock, hb, r⟩, h2⟩ := h
  rintro rfl
  unfold Blk at k
  rw [k] at hb
  cases hb
theorem MapIs.neS {e : TypeId} {size n : Nat} {v : Value} {xs : List Value} (h : MapIs w b N f) (k : Slc w e size v n xs) : v.ownBlock ≠ some b := by
  obtain ⟨n, D, hn, ⟨es, clock, hb, r⟩, h2⟩ := h
  rcases k.2 with ⟨rfl, _⟩ | ⟨g, off, c, cs, rfl, hh, _⟩
  · simp [Value.ownBlock]
  · intro he
    have : g = b := by simpa [Value.ownBlock] using he
    subst this
    rw [hh] at hb
    cases hb
theorem zeroRef (w : World) : (zeroValue 54).run Try.prog w = .ok (.pointer none) w := by
  kernel_rfl
/-- A look-up with 'ok'. -/
theorem MapIs.look (h : MapIs w b N f) {x : Int} (hx : okKey x) : (Instr.lookup 51 (.map (some b)) (.int .i64 x) true).run Try.prog w = .ok (.tuple #[ptrO (f x), .bool (f x).isSome]) w := by
  obtain ⟨n, D, hn, hown, h1, h2⟩ := h
  obtain ⟨v, ps, hrun, hv⟩ := hown.look_ok keyed Try.underlying51 (zeroRef w) (zd := .lit (.int .i64 (-1))) (zp := []) rfl (key_of hx)
  rw [hrun, h1 x hx]
  cases e : f x with
  | none =>
    have hh := h1 x hx
    rw [e] at hh
    rw [Maps.atKey_of_not_has hh] at hv
    rcases refElem_inv hv with ⟨y, rfl, hz⟩ | ⟨rfl, hz⟩
    · injection hz with hz
      injection hz with hz
      injection hz with hz1 hz2
      omega
    · rfl
  | some c =>
    rw [h2 x c hx e] at hv
    rcases refElem_inv hv with ⟨y, rfl, hz⟩ | ⟨rfl, hz⟩
    · injection hz with hz
      injection hz with hz
      injection hz with hz1 hz2
      obtain rfl : c = y := by omega
      rfl
    · injection hz with hz
      injection hz with hz
      injection hz with hz1 hz2
      omega
end
section
variable (w : World) {ops : Array Oper} {rest : List Oper} {o : Oper} {a : Act} {Q : Exit → Act → World → Prop}
theorem wpList_look_ref (hg : o.guard = none) (m x : Operand) (hop : o.op = Op.lookup 51 m x true) (b N : Nat) (f : Int → Option Nat) (hm : a.eval m = .map (some b)) (h : MapIs w b N f) (i : Int) (hx : a.eval x = .int .i64 i) (hi : okKey i)
    (hK : wpList Try.prog ops Q rest (a.put o.dst (.tuple #[ptrO (f i), .bool (f i).isSome])) w) : wpList Try.prog ops Q (o :: rest) a w := by
  refine wpList_plain hg fun K' hK' => ?_
  unfold Oper.wp
  simp [execOp, hop, hm, hx, h.look hi, Result.andThen]
  exact hK' _ _ hK
theorem wpList_put_ref (hg : o.guard = none) (m x v : Operand) (hop : o.op = Op.mapUpdate 51 m x v) (b N : Nat) (f : Int → Option Nat) (hm : a.eval m = .map (some b)) (h : MapIs w b N f) (hN : N ≤ 100000) (i : Int) (hx : a.eval x = .int .i64 i) (hi : okKey i) (c : Nat) (hv : a.eval v = ptr c)
    (hK : ∀ w', MapIs w' b (N + 1) (fun j => if j = i then some c else f j) → Only (fun g => g = b) w w' → wpList Try.prog ops Q rest (a.put o.dst undef) w') : wpList Try.prog ops Q (o :: rest) a w := by
  obtain ⟨n, D, hn, hown, h1, h2⟩ := h
  refine wpList_mapUpdate_own w hg m x v _ hop _ _ keyed Try.underlying51 refElem b n D hm hown (by unfold maxLen; omega) _ _ _ hx hv (key_of hi) _ _ (refElem_ptr c) ?_
  intro w' hown' hgr
  refine hK w' ⟨n + 1, _, by omega, hown', fun y hy => ?_, fun y d hy e z => ?_⟩ ⟨hgr.os, hgr.tape, hgr.output, hgr.size, fun j hj hne => hgr.block j hj (fun e => hne (Option.some.inj e))⟩
  · show _ = (if y = i then some c else f y).isSome
    by_cases e : y = i
    · subst e
      rw [Maps.has_put_same hown.isMap (keyed.key (key_of hy)), if_pos rfl]
      rfl
    · rw [Maps.has_put_other (by intro e2; injection e2 with _ e2; exact e e2), if_neg e]
      exact h1 y hy
  · replace e : (if y = i then some c else f y) = some d := e
    by_cases e2 : y = i
    · subst e2
      rw [if_pos rfl] at e
      injection e with e
      subst e
      rw [Maps.atKey_put_same hown.isMap (keyed.key (key_of hy))]
    · rw [if_neg e2] at e
      rw [Maps.atKey_put_other (by intro e3; injection e3 with _ e3; exact e2 e3)]
      exact h2 y d hy e z
theorem wpList_del_ref (hg : o.guard = none) (m x : Operand) (hop : o.op = Op.call { callee := Callee.builtin Builtin.delete, args := #[m, x], argTypes := #[51, 3] }) (b N : Nat) (f : Int → Option Nat) (hm : a.eval m = .map (some b)) (h : MapIs w b N f) (i : Int) (hx : a.eval x = .int .i64 i) (hi : okKey i)
    (hK : ∀ w', MapIs w' b N (fun j => if j = i then none else f j) → Only (fun g => g = b) w w' → wpList Try.prog ops Q rest (a.put o.dst (.tuple #[])) w') : wpList Try.prog ops Q (o :: rest) a w := by
  obtain ⟨n, D, hn, hown, h1, h2⟩ := h
  refine wpList_delete_own w hg m x _ _ hop _ keyed Try.underlying51 refElem b n D hm hown _ _ hx (key_of hi) ?_
  intro w' hown' hgr
  have hgr := hgr.grown
  refine hK w' ⟨n, _, hn, hown', fun y hy => ?_, fun y d hy e z => ?_⟩ ⟨hgr.os, hgr.tape, hgr.output, hgr.size, fun j hj hne => hgr.block j hj (fun e => hne (Option.some.inj e))⟩
  · show _ = (if y = i then none else f y).isSome
    by_cases e : y = i
    · subst e
      rw [Maps.has_del_same, if_pos rfl]
      rfl
    · rw [Maps.has_del_other (by intro e2; injection e2 with _ e2; exact e e2), if_neg e]
      exact h1 y hy
  · replace e : (if y = i then none else f y) = some d := e
    by_cases e2 : y = i
    · subst e2
      rw [if_pos rfl] at e
      cases e
    · rw [if_neg e2] at e
      rw [Maps.atKey_del_other (by intro e3; injection e3 with _ e3; exact e2 e3)]
      exact h2 y d hy e z
end
end Go.Proofs.Ythmcgbjkbcogkaa
