/- Layer 8 (pieces): lists of pieces; meets, may, May. -/
import Derived.Test.YtajcjepolfmhmaaPoolReadB
import Derived.Test.YtajcjepolfmhmaaPoolWrite
namespace Go.Proofs.Ytajcjepolfmhmaa
open Go.RowKit
set_option linter.unusedVariables false
set_option linter.unusedSimpArgs false
/-- A piece: its buffer's slot and generation, where it begins, how long it is. -/
structure Pc where
  s : Int
  g : Int
  f : Int
  n : Int
def pcc (x : Pc) : List Value := [.int .i64 x.s, .int .u64 x.g, .int .i64 x.f, .int .i64 x.n]
def pcv (x : Pc) : Value := .agg #[.int .i64 x.s, .int .u64 x.g, .int .i64 x.f, .int .i64 x.n]
/-- The pieces behind A. -/
def PsAt (w : World) (A : Option Addr) (l : List Pc) : Prop :=
  ∀ (i : Nat) (x : Pc), l[i]? = some x → ∃ b off, A = some ⟨b, off, none⟩ ∧ b < w.heap.size ∧ w.cell? ⟨b, off + i * 4, none⟩ = some (.int .i64 x.s) ∧ w.cell? ⟨b, off + i * 4 + 1, none⟩ = some (.int .u64 x.g) ∧ w.cell? ⟨b, off + i * 4 + 2, none⟩ = some (.int .i64 x.f) ∧ w.cell? ⟨b, off + i * 4 + 3, none⟩ = some (.int .i64 x.n)
theorem PsAt.below {w w' : World} {A : Option Addr} {l : List Pc} (h : PsAt w A l) (o : Below w.heap.size w w') : PsAt w' A l := by
  intro i x hx
  obtain ⟨b, off, e, hb, h0, h1, h2, h3⟩ := h i x hx
  exact ⟨b, off, e, Nat.lt_of_lt_of_le hb o.size, (o.cell (p := ⟨b, _, none⟩) hb).trans h0, (o.cell (p := ⟨b, _, none⟩) hb).trans h1, (o.cell (p := ⟨b, _, none⟩) hb).trans h2, (o.cell (p := ⟨b, _, none⟩) hb).trans h3⟩
/-- Whether it is a number that a machine can hold. -/
def Pc.ok (x : Pc) : Prop := (-9223372036854775808 ≤ x.s ∧ x.s ≤ 9223372036854775807) ∧ (0 ≤ x.g ∧ x.g ≤ 18446744073709551615) ∧ (-9223372036854775808 ≤ x.f ∧ x.f ≤ 9223372036854775807) ∧ (-9223372036854775808 ≤ x.n ∧ x.n ≤ 9223372036854775807)
def sameB (a b : Pc) : Bool := a.s == b.s && a.g == b.g
def meetF (a b : Pc) : Bool := sameB a b && decide (a.f < IntKind.i64.wrap (b.f + b.n)) && decide (b.f < IntKind.i64.wrap (a.f + a.n))
set_option maxRecDepth 100000 in
set_option maxHeartbeats 1000000 in
theorem meets_any (x y : Pc) (w : World) : Calls Try.prog 26 #[pcv x, pcv y] w fun e w' => e = .returned (.bool (meetF x y)) ∧ Below w.heap.size w w' := by
  have hb : ∀ r : Bool, meetF x y = r → Hid (meetF x y = r) := fun r h => h
  obtain ⟨a1, a2, a3, a4⟩ := x
  obtain ⟨b1, b2, b3, b4⟩ := y
  unfold pcv
  simp only
  have FIN := Lib.hid (((Below.refl w.heap.size w).alloc (Nat.le_refl _) (.cells #[.int .i64 a1, .int .u64 a2, .int .i64 a3, .int .i64 a4] 42)).alloc (by simp) (.cells #[.int .i64 b1, .int .u64 b2, .int .i64 b3, .int .i64 b4] 42))
  by_cases h1 : a1 = b1
  · subst h1
    have d0 : (a1 == a1) = true := beq_iff_eq.2 rfl
    by_cases h2 : a2 = b2
    · subst h2
      have d1 : (a2 == a2) = true := beq_iff_eq.2 rfl
      obtain ⟨m1, hm1⟩ : ∃ m, IntKind.i64.wrap (b3 + b4) = m := ⟨_, rfl⟩
      obtain ⟨m2, hm2⟩ : ∃ m, IntKind.i64.wrap (a3 + a4) = m := ⟨_, rfl⟩
      by_cases h3 : a3 < m1
      · have d2 : decide (a3 < m1) = true := decide_eq_true h3
        have E := hb (decide (b3 < m2)) (by simp only [meetF, sameB, hm1, hm2, d2, d0, d1, Bool.true_and])
        clear hb
        go_enter Try.func26, Try.ntmps26
        go_wp2_with fail
        go_ret
        exact ⟨retb E.out.symm, FIN.out⟩
      · have d2 : decide (a3 < m1) = false := decide_eq_false h3
        have E := hb false (by simp only [meetF, sameB, hm1, hm2, d2, d0, d1, Bool.true_and, Bool.false_and])
        clear hb h3
        go_enter Try.func26, Try.ntmps26
        go_wp2_with fail
        go_ret
        exact ⟨retb E.out.symm, FIN.out⟩
    · have d1 : (a2 == b2) = false := beq_eq_false_iff_ne.2 h2
      have E := hb false (by simp only [meetF, sameB, d1, Bool.and_false, Bool.false_and])
      clear hb
      go_enter Try.func26, Try.ntmps26
      go_wp2_with fail
      go_ret
      exact ⟨retb E.out.symm, FIN.out⟩
  · have d1 : (a1 == b1) = false := beq_eq_false_iff_ne.2 h1
    have E := hb false (by simp only [meetF, sameB, d1, Bool.false_and])
    clear hb
    go_enter Try.func26, Try.ntmps26
    go_wp2_with fail
    go_ret
    exact ⟨retb E.out.symm, FIN.out⟩
/-- Whether a piece may be, with these buffers. -/
def may1 (bs : List Bf) (x : Pc) : Bool := (sizeQ x.s x.g bs).2 == 0 && decide (0 ≤ x.f) && decide (1 ≤ x.n) && decide (x.n ≤ (sizeQ x.s x.g bs).1) && decide (x.f ≤ (sizeQ x.s x.g bs).1 - x.n)
theorem sizeQ_le {bs : List Bf} (hl : ∀ b ∈ bs, b.bytes.length ≤ 65536) (s g : Int) : 0 ≤ (sizeQ s g bs).1 ∧ (sizeQ s g bs).1 ≤ 65536 := by
  unfold sizeQ
  cases h : look bs s g with
  | none => simp
  | some ib =>
    obtain ⟨i, b⟩ := ib
    have := hl b (List.mem_of_getElem? (look_some h).2.2.1)
    simp only
    omega
set_option maxRecDepth 100000 in
set_option maxHeartbeats 1000000 in
theorem may1_any {w : World} {P : Pl} {bs : List Bf} (k : IsP w P bs) (hl : ∀ b ∈ bs, b.bytes.length ≤ 65536) (x : Pc) : Calls Try.prog 23 #[.pointer (some ⟨P.p, 0, none⟩), pcv x] w fun e w' => e = .returned (.bool (may1 bs x)) ∧ Below w.heap.size w w' := by
  have hb : ∀ r : Bool, may1 bs x = r → Hid (may1 bs x = r) := fun r h => h
  obtain ⟨z0, z1⟩ := sizeQ_le hl x.s x.g
  have bw : Below w.heap.size w (w.alloc (.cells ⟨pcc x⟩ 42)) := (Below.refl _ _).alloc (Nat.le_refl _) _
  have SZ := Lib.hid (sizep_any (k.below bw) x.s x.g hl)
  have BX := Lib.hid (Blk.new w 42 (pcc x))
  have BW := Lib.hid bw
  obtain ⟨a1, a2, a3, a4⟩ := x
  unfold may1 at hb
  unfold pcv
  unfold pcc at *
  simp only at hb SZ z0 z1 ⊢
  obtain ⟨⟨sz, cd⟩, hs⟩ : ∃ r, sizeQ a1 a2 bs = r := ⟨_, rfl⟩
  unfold may1
  simp only
  rw [hs] at hb SZ z0 z1 ⊢
  simp only at hb SZ z0 z1 ⊢
  clear k hs bw
  by_cases h1 : cd = 0
  · subst h1
    by_cases h2 : 0 ≤ a3
    · have d2 : decide (0 ≤ a3) = true := decide_eq_true h2
      by_cases h3 : 1 ≤ a4
      · have d3 : decide (1 ≤ a4) = true := decide_eq_true h3
        by_cases h4 : a4 ≤ sz
        · have d4 : decide (a4 ≤ sz) = true := decide_eq_true h4
          have g1 : IntKind.i64.wrap (sz - a4) = sz - a4 := IntWalk.i64_in _ (by omega)
          have E := hb (decide (a3 ≤ sz - a4)) (by simp only [d2, d3, d4, beq_self_eq_true, Bool.true_and])
          (clear hb; go_enter Try.func23, Try.ntmps23; go_wp2_with (go_at_call 38; (with_reducible refine Calls.mono SZ.out ?_); rintro e w1 ⟨rfl, k1, b1⟩; have X1 := Lib.hid (BX.out.below b1 BX.out.lt); have x0 := X1.out.cell 0; have x1 := X1.out.cell 1; have x2 := X1.out.cell 2; have x3 := X1.out.cell 3; have xl := X1.out.lt; have B1 := Lib.hid (Below.next BW.out b1); clear k1 b1); go_ret; exact ⟨retb E.out.symm, B1.out⟩)
        · have d4 : decide (a4 ≤ sz) = false := decide_eq_false h4
          have E := hb false (by simp only [d2, d3, d4, beq_self_eq_true, Bool.true_and, Bool.false_and])
          clear h4
          (clear hb; go_enter Try.func23, Try.ntmps23; go_wp2_with (go_at_call 38; (with_reducible refine Calls.mono SZ.out ?_); rintro e w1 ⟨rfl, k1, b1⟩; have X1 := Lib.hid (BX.out.below b1 BX.out.lt); have x0 := X1.out.cell 0; have x1 := X1.out.cell 1; have x2 := X1.out.cell 2; have x3 := X1.out.cell 3; have xl := X1.out.lt; have B1 := Lib.hid (Below.next BW.out b1); clear k1 b1); go_ret; exact ⟨retb E.out.symm, B1.out⟩)
      · have d3 : decide (1 ≤ a4) = false := decide_eq_false h3
        have E := hb false (by simp only [d2, d3, beq_self_eq_true, Bool.true_and, Bool.false_and])
        clear h3
        (clear hb; go_enter Try.func23, Try.ntmps23; go_wp2_with (go_at_call 38; (with_reducible refine Calls.mono SZ.out ?_); rintro e w1 ⟨rfl, k1, b1⟩; have X1 := Lib.hid (BX.out.below b1 BX.out.lt); have x0 := X1.out.cell 0; have x1 := X1.out.cell 1; have x2 := X1.out.cell 2; have x3 := X1.out.cell 3; have xl := X1.out.lt; have B1 := Lib.hid (Below.next BW.out b1); clear k1 b1); go_ret; exact ⟨retb E.out.symm, B1.out⟩)
    · have d2 : decide (0 ≤ a3) = false := decide_eq_false h2
      have E := hb false (by simp only [d2, beq_self_eq_true, Bool.true_and, Bool.false_and])
      clear h2
      (clear hb; go_enter Try.func23, Try.ntmps23; go_wp2_with (go_at_call 38; (with_reducible refine Calls.mono SZ.out ?_); rintro e w1 ⟨rfl, k1, b1⟩; have X1 := Lib.hid (BX.out.below b1 BX.out.lt); have x0 := X1.out.cell 0; have x1 := X1.out.cell 1; have x2 := X1.out.cell 2; have x3 := X1.out.cell 3; have xl := X1.out.lt; have B1 := Lib.hid (Below.next BW.out b1); clear k1 b1); go_ret; exact ⟨retb E.out.symm, B1.out⟩)
  · have d1 : (cd == 0) = false := beq_eq_false_iff_ne.2 h1
    have E := hb false (by simp only [d1, Bool.false_and])
    clear h1
    (clear hb; go_enter Try.func23, Try.ntmps23; go_wp2_with (go_at_call 38; (with_reducible refine Calls.mono SZ.out ?_); rintro e w1 ⟨rfl, k1, b1⟩; have X1 := Lib.hid (BX.out.below b1 BX.out.lt); have x0 := X1.out.cell 0; have x1 := X1.out.cell 1; have x2 := X1.out.cell 2; have x3 := X1.out.cell 3; have xl := X1.out.lt; have B1 := Lib.hid (Below.next BW.out b1); clear k1 b1); go_ret; exact ⟨retb E.out.symm, B1.out⟩)
end Go.Proofs.Ytajcjepolfmhmaa
