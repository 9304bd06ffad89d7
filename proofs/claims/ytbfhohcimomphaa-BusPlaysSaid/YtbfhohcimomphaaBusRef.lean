/- The reference of layer 6 (bus): how it stands; its rows. -/
import Derived.Test.YtbfhohcimomphaaShareRefC
import Derived.Test.YtbfhohcimomphaaBusIds
namespace Go.Proofs.Ytbfhohcimomphaa
open Go.RowKit
set_option linter.unusedVariables false
set_option linter.unusedSimpArgs false
/-- How many slots in a row one has had up to a time, the last ones first. -/
def rowR : List (Int × Int) → Int → Int → Int → Int
  | [], _, _, n => n
  | e :: r, id, u, n => if e.2 ≠ id ∨ e.1 + 1 + n ≠ u then n else rowR r id u (n + 1)
theorem rowR_cons (e : Int × Int) (r : List (Int × Int)) (id u n : Int) : rowR (e :: r) id u n = if e.2 ≠ id ∨ e.1 + 1 + n ≠ u then n else rowR r id u (n + 1) := rfl
theorem rowR_shift (l : List (Int × Int)) (id u n : Int) : rowR l id (u + 1) (n + 1) = rowR l id u n + 1 := by
  induction l generalizing n with
  | nil => rfl
  | cons e r ih =>
    unfold rowR
    have : (e.2 ≠ id ∨ e.1 + 1 + (n + 1) ≠ u + 1) ↔ (e.2 ≠ id ∨ e.1 + 1 + n ≠ u) := by omega
    by_cases h : e.2 ≠ id ∨ e.1 + 1 + n ≠ u
    · rw [if_pos (this.2 h), if_pos h]
    · rw [if_neg (fun k => h (this.1 k)), if_neg h]; exact ih (n + 1)
theorem rowR_rng (l : List (Int × Int)) (id u n : Int) : n ≤ rowR l id u n ∧ rowR l id u n ≤ n + l.length := by
  induction l generalizing n with
  | nil => exact ⟨Int.le_refl _, by simp [rowR]⟩
  | cons e r ih =>
    unfold rowR
    split
    · simp; omega
    · have := ih (n + 1)
      simp; omega
def flatH : List (Int × Int) → List Value
  | [] => []
  | e :: r => .int .u64 e.1 :: .int .i64 e.2 :: flatH r
theorem flatH_len (l : List (Int × Int)) : (flatH l).length = l.length * 2 := by induction l with
  | nil => rfl
  | cons e r ih => simp [flatH, ih]; omega
theorem flatH_app (l k : List (Int × Int)) : flatH (l ++ k) = flatH l ++ flatH k := by induction l with
  | nil => rfl
  | cons e r ih => simp [flatH, ih]
theorem flatH_at (l : List (Int × Int)) : ∀ (i : Nat) (e : Int × Int), l[i]? = some e → (flatH l)[i * 2]? = some (.int .u64 e.1) ∧ (flatH l)[i * 2 + 1]? = some (.int .i64 e.2) := by
  induction l with
  | nil => intro i e h; simp at h
  | cons a r ih =>
    intro i e h
    cases i with
    | zero => simp at h; subst h; simp [flatH]
    | succ i =>
      have := ih i e (by simpa using h)
      rw [show (i + 1) * 2 = i * 2 + 1 + 1 by omega]
      simpa [flatH] using this
/-- Where the reference's bus lies. -/
structure Rl where
  p : Nat
  gs : Nat
  av : Value
  mv : Value
  hv : Value
  xs : Nat → Nat
  vs : Nat → Value
def Rl.all (R : Rl) (n a : Nat) : Prop := a = R.p ∨ (∃ i, i < n ∧ a = R.xs i) ∨ R.mv.ownBlock = some a ∨ a = R.gs ∨ R.hv.ownBlock = some a ∨ ∃ i, i < n ∧ (R.vs i).ownBlock = some a
def rptrs (R : Rl) (n : Nat) : List Value := (List.range n).map fun i => .pointer (some ⟨R.xs i, 0, none⟩)
/-- The reference's bus, of n masters, stands with the meters M, the stalls c, the slots H. -/
structure IsRB (w : World) (R : Rl) (n : Nat) (M : Nat → Ms) (c : Nat → Int) (H : List (Int × Int)) (ph : Int) : Prop where
  blk : Blk w R.p 59 [R.av, .int .u64 ph, R.mv, .slice (some ⟨R.gs, 0, none⟩) n n, R.hv]
  met : Slc w 80 1 R.mv n (rptrs R n)
  st : Blk w R.gs 3 (Fn .i64 c n)
  had : Slc w 83 2 R.hv H.length (flatH H)
  each : ∀ i, i < n → ∃ L, IsO w (R.xs i) (R.vs i) L (M i) H.length
  nx : ∀ i j, i < n → j < n → R.xs i = R.xs j → i = j
  nv : ∀ i j g, i < n → j < n → (R.vs i).ownBlock = some g → (R.vs j).ownBlock = some g → i = j
section
variable {w w' : World} {R : Rl} {n : Nat} {M : Nat → Ms} {c : Nat → Int} {H : List (Int × Int)} {ph : Int}
theorem IsRB.lt (h : IsRB w R n M c H ph) {a : Nat} (ha : R.all n a) : a < w.heap.size := by
  rcases ha with rfl | ⟨i, hi, rfl⟩ | ha | rfl | ha | ⟨i, hi, ha⟩
  · exact h.blk.lt
  · obtain ⟨L, k⟩ := h.each i hi; exact k.1.lt
  · exact h.met.lt ha
  · exact h.st.lt
  · exact h.had.lt ha
  · obtain ⟨L, k⟩ := h.each i hi; exact k.2.1.lt ha
theorem IsRB.only {F : Nat → Prop} (h : IsRB w R n M c H ph) (o : Only F w w') (hF : ∀ a, F a → ¬ R.all n a) : IsRB w' R n M c H ph :=
  ⟨h.blk.only o fun f => hF _ f (.inl rfl), h.met.only o fun g hg f => hF _ f (.inr (.inr (.inl hg))), h.st.only o fun f => hF _ f (.inr (.inr (.inr (.inl rfl)))), h.had.only o fun g hg f => hF _ f (.inr (.inr (.inr (.inr (.inl hg))))),
   fun i hi => by
    obtain ⟨L, k⟩ := h.each i hi
    exact ⟨L, k.only o (fun f => hF _ f (.inr (.inl ⟨i, hi, rfl⟩))) fun g hg f => hF _ f (.inr (.inr (.inr (.inr (.inr ⟨i, hi, hg⟩)))))⟩, h.nx, h.nv⟩
theorem IsRB.below (h : IsRB w R n M c H ph) (o : Below w.heap.size w w') : IsRB w' R n M c H ph :=
  ⟨h.blk.below o h.blk.lt, h.met.below o fun g hg => h.met.lt hg, h.st.below o h.st.lt, h.had.below o fun g hg => h.had.lt hg, fun i hi => by
    obtain ⟨L, k⟩ := h.each i hi
    exact ⟨L, k.below o⟩, h.nx, h.nv⟩
theorem IsRB.drewN (h : IsRB w R n M c H ph) (m : Nat) : IsRB (w.drewN m) R n M c H ph := ⟨h.blk, h.met, h.st, h.had, h.each, h.nx, h.nv⟩
theorem IsRB.alloc (h : IsRB w R n M c H ph) (o : Obj) : IsRB (w.alloc o) R n M c H ph := h.below ((Below.refl _ _).alloc (Nat.le_refl _) _)
/-- One meter turned. -/
theorem IsRB.turn (h : IsRB w R n M c H ph) {i : Nat} (hi : i < n) {L : List (Int × Int)} {s' : Ms} (o : Only (· = R.xs i) w w') (k : IsO w' (R.xs i) (R.vs i) L s' H.length) : IsRB w' R n (fun j => if j = i then s' else M j) c H ph := by
  obtain ⟨L0, k0⟩ := h.each i hi
  refine ⟨h.blk.only o (fun e => h.blk.ne k0.1 (by decide) e), h.met.only o (fun g hg e => h.met.ne k0.1 (by decide) (e ▸ hg)), h.st.only o (fun e => h.st.ne k0.1 (by decide) e), h.had.only o (fun g hg e => h.had.ne k0.1 (by decide) (e ▸ hg)), fun j hj => ?_, h.nx, h.nv⟩
  by_cases e : j = i
  · subst e; rw [if_pos rfl]; exact ⟨L, k⟩
  · rw [if_neg e]
    obtain ⟨L', k'⟩ := h.each j hj
    exact ⟨L', k'.only o (fun f => e (h.nx j i hj hi f)) (fun g hg f => k'.2.1.ne k0.1 (by decide) (f ▸ hg))⟩
theorem IsRB.cells (h : IsRB w R n M c H ph) : w.cell? ⟨R.p, 0, none⟩ = some R.av ∧ w.cell? ⟨R.p, 1, none⟩ = some (.int .u64 ph) ∧ w.cell? ⟨R.p, 2, none⟩ = some R.mv ∧ w.cell? ⟨R.p, 3, none⟩ = some (.slice (some ⟨R.gs, 0, none⟩) n n) ∧ w.cell? ⟨R.p, 4, none⟩ = some R.hv :=
  ⟨h.blk.cell 0, h.blk.cell 1, h.blk.cell 2, h.blk.cell 3, h.blk.cell 4⟩
theorem IsRB.meter (h : IsRB w R n M c H ph) {i : Nat} (hi : i < n) : ∃ g off c', R.mv = .slice (some ⟨g, off, none⟩) n c' ∧ w.cell? ⟨g, off + i, none⟩ = some (.pointer (some ⟨R.xs i, 0, none⟩)) ∧ g < w.heap.size := by
  obtain ⟨g, off, c', e, hc, hm, hlt, hx, -⟩ := h.met.at_ (by omega)
  exact ⟨g, off, c', e, hx i _ (by simp [rptrs, List.getElem?_range hi]), hlt⟩
end
def RelRow (l : List (Int × Int)) (id u : Int) (nv iv : Value) : Prop :=
  ∃ (k m : Nat), nv = .int .i64 m ∧ iv = .int .i64 ((k : Int) - 1) ∧ k ≤ l.length ∧ k + m ≤ l.length ∧ rowR l.reverse id u 0 = rowR (l.take k).reverse id u m
set_option maxHeartbeats 2000000 in
theorem rrow_any {w : World} {R : Rl} {n : Nat} {M : Nat → Ms} {c : Nat → Int} {H : List (Int × Int)} {ph : Int} (k : IsRB w R n M c H ph) (hH : ∀ e ∈ H, 0 ≤ e.1 ∧ e.1 < 4611686018427387904) (hl : H.length ≤ 1000000) (id u : Int) :
    Calls Try.prog 33 #[.pointer (some ⟨R.p, 0, none⟩), .int .i64 id, .int .u64 u] w fun e w' => e = .returned (.int .i64 (rowR H.reverse id u 0)) ∧ w = w' := by
  obtain ⟨c0, c1, c2, c3, c4⟩ := k.cells
  obtain ⟨Ah, ch, eh, -⟩ := k.had.shape
  rw [eh] at c4
  have K := Lib.hid k
  have HH := Lib.hid hH
  clear k hH
  go_enter Try.func33, Try.ntmps33
  go_wp2_with fail
  go_loop [7, 8] (fun nv iv => RelRow H id u nv iv) (fun _ iv => (intOf iv + 1).toNat)
  case atStart => exact ⟨H.length, 0, rfl, rfl, by omega, by omega, by rw [List.take_length]; rfl⟩
  case round =>
    obtain ⟨kk, m, rfl, rfl, h1, h2, h3⟩ := hrel
    cases kk with
    | zero =>
      have h3' : rowR H.reverse id u 0 = m := by rw [h3]; rfl
      have H3 := Lib.hid h3'
      have i1 : ((0 : Nat) : Int) - 1 = -1 := rfl
      rw [i1]
      clear h3 h3'
      go_wp2_with fail
      go_ret
      exact ⟨ret1 (by rw [H3.out]), rfl⟩
    | succ j =>
      have hj : H[j]? = some H[j] := List.getElem?_eq_getElem (by omega)
      have ht : (H.take (j + 1)).reverse = H[j] :: (H.take j).reverse := by
        rw [List.take_add_one, hj, List.reverse_append]; rfl
      rw [ht] at h3
      obtain ⟨he0, he1⟩ := HH.out _ (List.mem_of_getElem? hj)
      obtain ⟨f1, f2⟩ := flatH_at H j _ hj
      obtain ⟨g, off, c', ev, -, -, hg, hx, -⟩ := K.out.had.at_ (by omega)
      rw [ev] at eh
      cases eh
      have q0 : w.cell? ⟨g, off + j * 2, none⟩ = some (.int .u64 H[j].1) := hx _ _ f1
      have q1 : w.cell? ⟨g, off + j * 2 + 1, none⟩ = some (.int .i64 H[j].2) := hx _ _ f2
      have hjl : (j : Int) < H.length := by omega
      rw [show ((j + 1 : Nat) : Int) - 1 = (j : Int) by omega]
      generalize H[j] = e at *
      rw [rowR_cons] at h3
      have H3 := Lib.hid h3
      clear h3 ht hj f1 f2 hx
      by_cases e1 : e.2 = id
      · have d1 : (e.2 == id) = true := beq_iff_eq.2 e1
        have d2 : (e.2 != id) = false := by rw [bne, d1]; rfl
        by_cases e2 : e.1 + 1 + m = u
        · have d3 : (e.1 + 1 + (m : Int) == u) = true := beq_iff_eq.2 e2
          have d4 : (e.1 + 1 + (m : Int) != u) = false := by rw [bne, d3]; rfl
          have H4 := Lib.hid (H3.out.trans (if_neg (by omega)))
          clear e1 e2 H3
          go_wp2_with fail
          go_round
          case rel => exact ⟨j, m + 1, by go_num, by go_num, by omega, by omega, by rw [H4.out]; rfl⟩
          case measure => simp [intOf] <;> omega
        · have d3 : (e.1 + 1 + (m : Int) == u) = false := beq_eq_false_iff_ne.2 e2
          have d4 : (e.1 + 1 + (m : Int) != u) = true := by rw [bne, d3]; rfl
          have H4 := Lib.hid (H3.out.trans (if_pos (.inr e2)))
          clear e1 e2 H3
          go_wp2_with fail
          go_ret
          exact ⟨ret1 (by rw [H4.out]), rfl⟩
      · have d1 : (e.2 == id) = false := beq_eq_false_iff_ne.2 e1
        have d2 : (e.2 != id) = true := by rw [bne, d1]; rfl
        have H4 := Lib.hid (H3.out.trans (if_pos (.inl e1)))
        clear e1 H3
        go_wp2_with fail
        go_ret
        exact ⟨ret1 (by rw [H4.out]), rfl⟩
end Go.Proofs.Ytbfhohcimomphaa
