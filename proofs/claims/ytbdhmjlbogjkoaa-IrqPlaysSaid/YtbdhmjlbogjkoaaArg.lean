/- Arguments opened by their cells: a type that is numbers and bools alone (through structs and arrays), by value or as a slice's element; the row's last step behind 'Below'. -/
import Derived.Test.YtbdhmjlbogjkoaaRows
import Derived.Test.YtbdhmjlbogjkoaaBase
import Derived.ProofKit
import Derived.OpenShut
import Derived.ChangeOld
import Derived.SizedLaws
import Derived.Deep.Slices
import Derived.Deep.Fields
namespace Go.Proofs.Ytbdhmjlbogjkoaa
open Go.ChangeShapes Go.WideShapes Go.ChangeAt Go.RowKit
set_option linter.unusedVariables false

theorem laidOut : laidOutB Try.prog = true := by kernel_rfl

/-- A cell of a flat type: a number of its kind, or a bool. -/
def CellOk : Option IntKind → Value → Prop
  | some k, v => ∃ n, v = .int k n ∧ (Lit.int k n).wf = true
  | none, v => ∃ b, v = .bool b
def AllOk : List (Option IntKind) → List Value → Prop
  | [], [] => True
  | k :: ks, v :: vs => CellOk k v ∧ AllOk ks vs
  | [], _ :: _ => False
  | _ :: _, [] => False
theorem AllOk.append {l r : List (Option IntKind)} : ∀ {a b : List Value}, AllOk l a → AllOk r b → AllOk (l ++ r) (a ++ b) := by
  induction l with
  | nil => intro a b h h'; cases a with
    | nil => exact h'
    | cons v vs => exact h.elim
  | cons k ks ih => intro a b h h'; cases a with
    | nil => exact h.elim
    | cons v vs => exact ⟨h.1, ih h.2 h'⟩

section
variable {H : Type} {enc : TypeId × Value → H} {P : Program} {w : World} {base : Nat} {spare : Nat → Bool} {held : Bool}

def flatFields (P : Program) (g : TypeId → Option (List (Option IntKind))) : List Field → Nat → Option (List (Option IntKind))
  | [], _ => some []
  | f :: fs, o => match g f.type with
    | none => none
    | some l => if f.offset = o ∧ P.cellsOf f.type = l.length then
        match flatFields P g fs (o + l.length) with
        | none => none
        | some r => some (l ++ r)
      else none
def flat (P : Program) : Nat → TypeId → Option (List (Option IntKind))
  | 0, _ => none
  | n + 1, t => match P.underlying t with
    | some (.int k) => some [some k]
    | some .bool => some [none]
    | some (.array m e) => match flat P n e with
      | none => none
      | some l => if P.cellsOf e = l.length then some (List.replicate m l).flatten else none
    | some (.struct fs) => flatFields P (flat P n) fs.toList 0
    | _ => none

theorem fields_ok (g : TypeId → Option (List (Option IntKind))) (m : Nat) (xs : List (DataW H × List MemPlace)) (cs : List Value) (all : List Field)
    (hg : ∀ t ks cs' x, g t = some ks → P.cellsOf t = ks.length → DataW.trod enc P w base spare held m t cs' = some x → AllOk ks cs')
    (hx : xs.length = all.length)
    (hf : ∀ (i : Nat) (f : Field), all[i]? = some f → DataW.trod enc P w base spare held m f.type ((cs.drop f.offset).take (P.cellsOf f.type)) = xs[i]?) :
    ∀ (suf pre : List Field) (o : Nat) (ks : List (Option IntKind)), all = pre ++ suf → flatFields P g suf o = some ks → cs.length = o + ks.length → AllOk ks (cs.drop o) := by
  intro suf
  induction suf with
  | nil =>
    intro pre o ks ha h hl
    simp only [flatFields, Option.some.injEq] at h
    subst h
    have : cs.drop o = [] := List.drop_eq_nil_of_le (by simp at hl; omega)
    rw [this]; trivial
  | cons f fs ih =>
    intro pre o ks ha h hl
    unfold flatFields at h
    split at h
    · cases h
    · rename_i l hgl
      split at h
      · rename_i hc
        split at h
        · cases h
        · rename_i r hr
          simp only [Option.some.injEq] at h
          subst h
          simp only [List.length_append] at hl
          have hi := hf pre.length f (by rw [ha]; simp)
          have hlt : pre.length < xs.length := by rw [hx, ha]; simp
          rw [List.getElem?_eq_getElem hlt, hc.1, hc.2] at hi
          have h1 := hg _ _ _ _ hgl hc.2 hi
          have h2 := ih (pre ++ [f]) (o + l.length) r (by rw [ha]; simp) hr (by omega)
          have e : cs.drop o = (cs.drop o).take l.length ++ cs.drop (o + l.length) := by
            rw [← List.drop_drop]; exact (List.take_append_drop _ _).symm
          rw [e]
          exact h1.append h2
      · cases h

theorem flat_ok : ∀ (n : Nat) (t : TypeId) (ks : List (Option IntKind)) (fuel : Nat) (cs : List Value) (x : DataW H × List MemPlace),
    flat P n t = some ks → P.cellsOf t = ks.length → DataW.trod enc P w base spare held fuel t cs = some x → AllOk ks cs := by
  intro n
  induction n with
  | zero => intro t ks fuel cs x h; cases h
  | succ n ih =>
    intro t ks fuel cs x h hsz ht
    unfold flat at h
    split at h
    · rename_i k hu
      simp only [Option.some.injEq] at h
      subst h
      obtain ⟨m, rfl, -, hw⟩ := DataW.trod_int hu ht
      exact ⟨⟨m, rfl, hw⟩, trivial⟩
    · rename_i hu
      simp only [Option.some.injEq] at h
      subst h
      obtain ⟨b, rfl, -⟩ := DataW.trod_bool hu ht
      exact ⟨⟨b, rfl⟩, trivial⟩
    · rename_i m e hu
      split at h
      · cases h
      · rename_i l hl
        split at h
        · rename_i hc
          simp only [Option.some.injEq] at h
          subst h
          obtain ⟨xs, m', _, _, hlen, hxl, hi⟩ := DataW.trod_array hu ht
          have key : ∀ j, j ≤ m → AllOk (List.replicate j l).flatten (cs.drop ((m - j) * l.length)) := by
            intro j
            induction j with
            | zero =>
              intro _
              have : cs.drop ((m - 0) * l.length) = [] := List.drop_eq_nil_of_le (by rw [hlen, hsz]; simp)
              rw [this]; trivial
            | succ j ihj =>
              intro hj
              have h1 := hi (m - (j + 1)) (by omega)
              have hlt : m - (j + 1) < xs.length := by omega
              rw [List.getElem?_eq_getElem hlt, hc] at h1
              have h2 := ih _ _ _ _ _ hl hc h1
              have h3 := ihj (by omega)
              have e1 : (m - j) * l.length = (m - (j + 1)) * l.length + l.length := by
                have : m - j = (m - (j + 1)) + 1 := by omega
                rw [this, Nat.add_mul, Nat.one_mul]
              have e : cs.drop ((m - (j + 1)) * l.length) = (cs.drop ((m - (j + 1)) * l.length)).take l.length ++ cs.drop ((m - j) * l.length) := by
                rw [e1, ← List.drop_drop]; exact (List.take_append_drop _ _).symm
              rw [e, List.replicate_succ, List.flatten_cons]
              exact h2.append h3
          have := key m (Nat.le_refl _)
          simpa using this
        · cases h
    · rename_i fs hu
      obtain ⟨xs, m', hm, _, hlen, hxl, hf⟩ := DataW.trod_struct hu ht
      have := fields_ok (enc := enc) (w := w) (base := base) (spare := spare) (held := held) (P := P) (flat P n) m' xs cs fs.toList (fun t ks cs' x hg hc hx => ih _ _ _ _ _ hg hc hx) (by simpa using hxl) (fun i f hif => hf i f (by simpa using hif)) fs.toList [] 0 ks (by simp) h (by rw [hlen, hsz]; simp)
      simpa using this
    · cases h

/-- A flat type by value (one cell: the value itself; else an aggregate). -/
theorem arg_one {r : Reach} {b0 : Nat} {t : TypeId} {v : Value} {d : DataW H} {p : List MemPlace} {k : IntKind} (ht : P.underlying t = some (.int k)) (hv : Value.okWide P w r b0 t v) (h : DataW.Trod enc P w base spare held t v d p) :
    ∃ n, v = .int k n ∧ (Lit.int k n).wf = true := by
  obtain ⟨n, rfl, _, _, hw⟩ := open_int ht hv h
  exact ⟨n, rfl, hw⟩
theorem arg_bool {r : Reach} {b0 : Nat} {t : TypeId} {v : Value} {d : DataW H} {p : List MemPlace} (ht : P.underlying t = some .bool) (hv : Value.okWide P w r b0 t v) (h : DataW.Trod enc P w base spare held t v d p) :
    ∃ b, v = .bool b := okWide_bool ht hv
theorem arg_agg {r : Reach} {b0 : Nat} {t : TypeId} {v : Value} {d : DataW H} {p : List MemPlace} (ks : List (Option IntKind))
    (ht : (∃ fs, P.underlying t = some (.struct fs)) ∨ (∃ n e, P.underlying t = some (.array n e))) (n : Nat) (hk : flat P n t = some ks) (hc : P.cellsOf t = ks.length)
    (hv : Value.okWide P w r b0 t v) (h : DataW.Trod enc P w base spare held t v d p) :
    ∃ cs : List Value, v = .agg ⟨cs⟩ ∧ AllOk ks cs := by
  have hv' : ∃ cs : Array Value, v = .agg cs := by
    unfold Value.okWide at hv
    rcases ht with ⟨fs, ht⟩ | ⟨n, e, ht⟩ <;> rw [ht] at hv <;> exact ⟨_, hv.choose_spec.1⟩
  obtain ⟨⟨cs⟩, rfl⟩ := hv'
  obtain ⟨fuel, hf⟩ := h
  exact ⟨cs, rfl, flat_ok n t ks fuel cs _ hk hc (by simpa [Value.cells] using hf)⟩

/-- A slice of a flat element type: its length, its cells. -/
def Elems (w : World) (ks : List (Option IntKind)) (A : Option Addr) (n : Nat) (D : Nat → List Value) : Prop :=
  ∀ i, i < n → AllOk ks (D i) ∧ ∃ ad, A = some ad ∧ ∀ j, j < ks.length → w.cell? (ad.add (i * ks.length + j)) = (D i)[j]?
theorem arg_slice {r : Reach} {b0 : Nat} {t e : TypeId} {v : Value} {d : DataW H} {p : List MemPlace} (ks : List (Option IntKind)) (ht : P.underlying t = some (.slice e)) (n : Nat) (hk : flat P n e = some ks) (hc : P.cellsOf e = ks.length)
    (hv : Value.okWide P w r b0 t v) (h : DataW.Trod enc P w base spare held t v d p) :
    ∃ A len cap D, v = .slice A len cap ∧ Elems w ks A len D ∧ len ≤ maxLen
      ∧ ((d = .nil ∧ len = 0) ∨ ∃ es sp, d = .slice es sp ∧ es.length = len) := by
  obtain ⟨A, len, cap, rfl⟩ := okWide_slice ht hv
  obtain ⟨fuel, hf⟩ := h
  rcases Deep.open_slice ht (by simpa [Value.cells] using hf) with ⟨h0, hx⟩ | ⟨a, len', cap', m, n', D, Pl, h0, hb, hl, hm, hmm, hx, hi⟩
  · simp only [List.cons.injEq, Value.slice.injEq, and_true] at h0
    obtain ⟨rfl, rfl, rfl⟩ := h0
    simp only [Prod.mk.injEq] at hx
    exact ⟨none, 0, 0, fun _ => [], rfl, fun i hi => absurd hi (by omega), by simp [maxLen], Or.inl ⟨hx.1, rfl⟩⟩
  · simp only [List.cons.injEq, Value.slice.injEq, and_true] at h0
    obtain ⟨rfl, rfl, rfl⟩ := h0
    simp only [Prod.mk.injEq] at hx
    have hle : len ≤ m := by rw [hmm]; split <;> omega
    have hX : ∀ i, i < len → ∃ cs', AllOk ks cs' ∧ ∀ j, j < ks.length → w.cell? (a.add (i * ks.length + j)) = cs'[j]? := by
      intro i hil
      obtain ⟨cs', h1, h2⟩ := hi i (by omega)
      rw [hc] at h1
      obtain ⟨_, _, hcell⟩ := World.cells?_some h1
      refine ⟨cs', flat_ok n e ks _ cs' _ hk hc h2, fun j hj => ?_⟩
      rw [← Go.Deep.add_add, hcell j hj]
    obtain ⟨D', hD⟩ : ∃ D' : Nat → List Value, ∀ i, i < len → AllOk ks (D' i) ∧ ∀ j, j < ks.length → w.cell? (a.add (i * ks.length + j)) = (D' i)[j]? :=
      ⟨fun i => if h : i < len then (hX i h).choose else [], fun i h => by simp only [h, dif_pos]; exact (hX i h).choose_spec⟩
    refine ⟨some a, len, cap, D', rfl, fun i hil => ⟨(hD i hil).1, a, rfl, (hD i hil).2⟩, by omega, Or.inr ⟨_, _, hx.1, by simp⟩⟩
end
end Go.Proofs.Ytbdhmjlbogjkoaa
