/- Arguments opened by their cells, second part: a slice whose elements hold numbers, bools, and slices of flat elements. -/
import Derived.Test.YtbhpdljfkcdnbaaArgs
namespace Go.Proofs.Ytbhpdljfkcdnbaa
open Go.ChangeShapes Go.WideShapes Go.ChangeAt Go.RowKit
set_option linter.unusedVariables false
/-- A cell's kind. -/
inductive CK where
  | int (k : IntKind)
  | bool
  | sl (ks : List (Option IntKind))
def CKok (w : World) : CK → Value → Prop
  | .int k, v => ∃ n, v = .int k n ∧ (Lit.int k n).wf = true
  | .bool, v => ∃ b, v = .bool b
  | .sl ks, v => ∃ A len cap D, v = .slice A len cap ∧ Elems w ks A len D ∧ len ≤ maxLen
def AllN (w : World) : List CK → List Value → Prop
  | [], [] => True
  | k :: ks, v :: vs => CKok w k v ∧ AllN w ks vs
  | [], _ :: _ => False
  | _ :: _, [] => False
theorem AllN.append {w : World} {l r : List CK} : ∀ {a b : List Value}, AllN w l a → AllN w r b → AllN w (l ++ r) (a ++ b) := by
  induction l with
  | nil => intro a b h h'; cases a with
    | nil => exact h'
    | cons v vs => exact h.elim
  | cons k ks ih => intro a b h h'; cases a with
    | nil => exact h.elim
    | cons v vs => exact ⟨h.1, ih h.2 h'⟩
theorem AllN.length {w : World} : ∀ {ks : List CK} {cs : List Value}, AllN w ks cs → cs.length = ks.length
  | [], [], _ => rfl
  | _ :: _, _ :: _, h => by simp [AllN.length h.2]
  | [], _ :: _, h => h.elim
  | _ :: _, [], h => h.elim
theorem allN_cons {w : World} {k : CK} {ks : List CK} {cs : List Value} (h : AllN w (k :: ks) cs) : ∃ c cs', cs = c :: cs' ∧ CKok w k c ∧ AllN w ks cs' := by
  cases cs with
  | nil => exact absurd h (by simp [AllN])
  | cons c cs => exact ⟨c, cs, rfl, h.1, h.2⟩
theorem allN_nil {w : World} {cs : List Value} (h : AllN w [] cs) : cs = [] := by
  cases cs with
  | nil => rfl
  | cons c cs => exact absurd h (by simp [AllN])
section
variable {H : Type} {enc : TypeId × Value → H} {P : Program} {w : World} {base : Nat} {spare : Nat → Bool} {held : Bool}
def flatFieldsN (P : Program) (g : TypeId → Option (List CK)) : List Field → Nat → Option (List CK)
  | [], _ => some []
  | f :: fs, o => match g f.type with
    | none => none
    | some l => if f.offset = o ∧ P.cellsOf f.type = l.length then
        match flatFieldsN P g fs (o + l.length) with
        | none => none
        | some r => some (l ++ r)
      else none
def flatN (P : Program) : Nat → TypeId → Option (List CK)
  | 0, _ => none
  | n + 1, t => match P.underlying t with
    | some (.int k) => some [.int k]
    | some .bool => some [.bool]
    | some (.slice e) => match flat P 6 e with
      | none => none
      | some ks => if P.cellsOf e = ks.length then some [.sl ks] else none
    | some (.struct fs) => flatFieldsN P (flatN P n) fs.toList 0
    | _ => none
theorem elems_trod {t e : TypeId} {fuel : Nat} {cs : List Value} {x : DataW H × List MemPlace} (ks : List (Option IntKind)) (ht : P.underlying t = some (.slice e)) (n : Nat) (hk : flat P n e = some ks) (hc : P.cellsOf e = ks.length)
    (hf : DataW.trod enc P w base spare held fuel t cs = some x) : ∃ A len cap D, cs = [.slice A len cap] ∧ Elems w ks A len D ∧ len ≤ maxLen := by
  rcases Deep.open_slice ht hf with ⟨h0, hx⟩ | ⟨a, len', cap', m, n', D, Pl, h0, hb, hl, hm, hmm, hx, hi⟩
  · exact ⟨none, 0, 0, fun _ => [], h0, fun i hi => absurd hi (by omega), by simp [maxLen]⟩
  · have hle : len' ≤ m := by rw [hmm]; split <;> omega
    have hX : ∀ i, i < len' → ∃ cs', AllOk ks cs' ∧ ∀ j, j < ks.length → w.cell? (a.add (i * ks.length + j)) = cs'[j]? := by
      intro i hil
      obtain ⟨cs', h1, h2⟩ := hi i (by omega)
      rw [hc] at h1
      obtain ⟨_, _, hcell⟩ := World.cells?_some h1
      refine ⟨cs', flat_ok n e ks _ cs' _ hk hc h2, fun j hj => ?_⟩
      rw [← Go.Deep.add_add, hcell j hj]
    obtain ⟨D', hD⟩ : ∃ D' : Nat → List Value, ∀ i, i < len' → AllOk ks (D' i) ∧ ∀ j, j < ks.length → w.cell? (a.add (i * ks.length + j)) = (D' i)[j]? :=
      ⟨fun i => if h : i < len' then (hX i h).choose else [], fun i h => by simp only [h, dif_pos]; exact (hX i h).choose_spec⟩
    exact ⟨some a, len', cap', D', h0, fun i hil => ⟨(hD i hil).1, a, rfl, (hD i hil).2⟩, by omega⟩
theorem fields_okN (g : TypeId → Option (List CK)) (m : Nat) (xs : List (DataW H × List MemPlace)) (cs : List Value) (all : List Field)
    (hg : ∀ t ks cs' x, g t = some ks → P.cellsOf t = ks.length → DataW.trod enc P w base spare held m t cs' = some x → AllN w ks cs')
    (hx : xs.length = all.length)
    (hf : ∀ (i : Nat) (f : Field), all[i]? = some f → DataW.trod enc P w base spare held m f.type ((cs.drop f.offset).take (P.cellsOf f.type)) = xs[i]?) :
    ∀ (suf pre : List Field) (o : Nat) (ks : List CK), all = pre ++ suf → flatFieldsN P g suf o = some ks → cs.length = o + ks.length → AllN w ks (cs.drop o) := by
  intro suf
  induction suf with
  | nil =>
    intro pre o ks ha h hl
    simp only [flatFieldsN, Option.some.injEq] at h
    subst h
    have : cs.drop o = [] := List.drop_eq_nil_of_le (by simp at hl; omega)
    rw [this]; trivial
  | cons f fs ih =>
    intro pre o ks ha h hl
    unfold flatFieldsN at h
    split at h
    · cases h
    · rename_i l hgl
      split at h
      · rename_i hc
        split at h
        · cases h
        · rename_i r hr
          simp only [Option.some.injEq] at h
          subst h
          simp only [List.length_append] at hl
          have hi := hf pre.length f (by rw [ha]; simp)
          have hlt : pre.length < xs.length := by rw [hx, ha]; simp
          rw [List.getElem?_eq_getElem hlt, hc.1, hc.2] at hi
          have h1 := hg _ _ _ _ hgl hc.2 hi
          have h2 := ih (pre ++ [f]) (o + l.length) r (by rw [ha]; simp) hr (by omega)
          have e : cs.drop o = (cs.drop o).take l.length ++ cs.drop (o + l.length) := by
            rw [← List.drop_drop]; exact (List.take_append_drop _ _).symm
          rw [e]
          exact h1.append h2
      · cases h
theorem flatN_ok : ∀ (n : Nat) (t : TypeId) (ks : List CK) (fuel : Nat) (cs : List Value) (x : DataW H × List MemPlace),
    flatN P n t = some ks → P.cellsOf t = ks.length → DataW.trod enc P w base spare held fuel t cs = some x → AllN w ks cs := by
  intro n
  induction n with
  | zero => intro t ks fuel cs x h; cases h
  | succ n ih =>
    intro t ks fuel cs x h hsz ht
    unfold flatN at h
    split at h
    · rename_i k hu
      simp only [Option.some.injEq] at h
      subst h
      obtain ⟨m, rfl, -, hw⟩ := DataW.trod_int hu ht
      exact ⟨⟨m, rfl, hw⟩, trivial⟩
    · rename_i hu
      simp only [Option.some.injEq] at h
      subst h
      obtain ⟨b, rfl, -⟩ := DataW.trod_bool hu ht
      exact ⟨⟨b, rfl⟩, trivial⟩
    · rename_i e hu
      split at h
      · cases h
      · rename_i kl hl
        split at h
        · rename_i hc
          simp only [Option.some.injEq] at h
          subst h
          obtain ⟨A, len, cap, D, rfl, h1, h2⟩ := elems_trod kl hu 6 hl hc ht
          exact ⟨⟨A, len, cap, D, rfl, h1, h2⟩, trivial⟩
        · cases h
    · rename_i fs hu
      obtain ⟨xs, m', hm, _, hlen, hxl, hf⟩ := DataW.trod_struct hu ht
      have := fields_okN (enc := enc) (w := w) (base := base) (spare := spare) (held := held) (P := P) (flatN P n) m' xs cs fs.toList (fun t ks cs' x hg hc hx => ih _ _ _ _ _ hg hc hx) (by simpa using hxl) (fun i f hif => hf i f (by simpa using hif)) fs.toList [] 0 ks (by simp) h (by rw [hlen, hsz]; simp)
      simpa using this
    · cases h
/-- A slice of elements of that kind: its length, its cells. -/
def ElemsN (w : World) (ks : List CK) (A : Option Addr) (n : Nat) (D : Nat → List Value) : Prop :=
  ∀ i, i < n → AllN w ks (D i) ∧ ∃ ad, A = some ad ∧ ∀ j, j < ks.length → w.cell? (ad.add (i * ks.length + j)) = (D i)[j]?
theorem arg_sliceN {r : Reach} {b0 : Nat} {t e : TypeId} {v : Value} {d : DataW H} {p : List MemPlace} (ks : List CK) (ht : P.underlying t = some (.slice e)) (n : Nat) (hk : flatN P n e = some ks) (hc : P.cellsOf e = ks.length)
    (hv : Value.okWide P w r b0 t v) (h : DataW.Trod enc P w base spare held t v d p) :
    ∃ A len cap D, v = .slice A len cap ∧ ElemsN w ks A len D ∧ len ≤ maxLen
      ∧ ((d = .nil ∧ len = 0) ∨ ∃ es sp, d = .slice es sp ∧ es.length = len) := by
  obtain ⟨A, len, cap, rfl⟩ := okWide_slice ht hv
  obtain ⟨fuel, hf⟩ := h
  rcases Deep.open_slice ht (by simpa [Value.cells] using hf) with ⟨h0, hx⟩ | ⟨a, len', cap', m, n', D, Pl, h0, hb, hl, hm, hmm, hx, hi⟩
  · simp only [List.cons.injEq, Value.slice.injEq, and_true] at h0
    obtain ⟨rfl, rfl, rfl⟩ := h0
    simp only [Prod.mk.injEq] at hx
    exact ⟨none, 0, 0, fun _ => [], rfl, fun i hi => absurd hi (by omega), by simp [maxLen], Or.inl ⟨hx.1, rfl⟩⟩
  · simp only [List.cons.injEq, Value.slice.injEq, and_true] at h0
    obtain ⟨rfl, rfl, rfl⟩ := h0
    simp only [Prod.mk.injEq] at hx
    have hle : len ≤ m := by rw [hmm]; split <;> omega
    have hX : ∀ i, i < len → ∃ cs', AllN w ks cs' ∧ ∀ j, j < ks.length → w.cell? (a.add (i * ks.length + j)) = cs'[j]? := by
      intro i hil
      obtain ⟨cs', h1, h2⟩ := hi i (by omega)
      rw [hc] at h1
      obtain ⟨_, _, hcell⟩ := World.cells?_some h1
      refine ⟨cs', flatN_ok n e ks _ cs' _ hk hc h2, fun j hj => ?_⟩
      rw [← Go.Deep.add_add, hcell j hj]
    obtain ⟨D', hD⟩ : ∃ D' : Nat → List Value, ∀ i, i < len → AllN w ks (D' i) ∧ ∀ j, j < ks.length → w.cell? (a.add (i * ks.length + j)) = (D' i)[j]? :=
      ⟨fun i => if h : i < len then (hX i h).choose else [], fun i h => by simp only [h, dif_pos]; exact (hX i h).choose_spec⟩
    refine ⟨some a, len, cap, D', rfl, fun i hil => ⟨(hD i hil).1, a, rfl, (hD i hil).2⟩, by omega, Or.inr ⟨_, _, hx.1, by simp⟩⟩
end
theorem rowsN_of {w : World} {ks : List CK} {A : Option Addr} {n : Nat} {D : Nat → List Value} (h : ElemsN w ks A n D) (hk : 0 < ks.length) : RowsAt w ks.length A n D := by
  intro i hi
  obtain ⟨hok, ad, rfl, hc⟩ := h 0 (by omega)
  obtain ⟨b, off, spot⟩ := ad
  have hx : ∃ v, (D 0)[0]? = some v := ⟨_, List.getElem?_eq_getElem (by rw [hok.length]; exact hk)⟩
  obtain ⟨v, hv⟩ := hx
  have h0 := (hc 0 hk).trans hv
  have hspot : spot = none := by simpa [Addr.add] using World.cell?_spot h0
  subst hspot
  have hlt : b < w.heap.size := by
    have := World.block_lt_of_cell? w _ h0
    simpa [Addr.add] using this
  refine ⟨b, off, rfl, hlt, fun i j hi hj => ?_⟩
  obtain ⟨_, ad', e, hc'⟩ := h i hi
  injection e with e
  subst e
  have := hc' j hj
  rwa [Go.WideShapes.add_plain] at this
end Go.Proofs.Ytbhpdljfkcdnbaa
