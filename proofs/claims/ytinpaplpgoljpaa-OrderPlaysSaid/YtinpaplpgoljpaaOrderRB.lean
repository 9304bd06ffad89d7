/- Layer 18 (order): the document's queue: less, Same, pick. -/
import Derived.Test.YtinpaplpgoljpaaOrderBoth
namespace Go.Proofs.Ytinpaplpgoljpaa
open Go.RowKit
set_option linter.unusedVariables false
set_option linter.unusedSimpArgs false
/-- Does one stand ahead of another one? -/
def ltB (a b : Wt) : Bool := if a.dead ≠ b.dead then decide (a.dead < b.dead) else if a.track ≠ b.track then decide (a.track < b.track) else decide (a.id < b.id)
theorem ltB_iff {a b : Wt} : ltB a b = true ↔ cmpW a b < 0 := by
  rw [cmpW_neg]
  unfold ltB ltW
  split
  · simp; omega
  · split
    · simp; omega
    · simp; omega
set_option maxHeartbeats 1000000 in
theorem less_any (x y : Wt) (w : World) : Calls Try.prog 36 #[wv x, wv y] w fun e w' => e = .returned (.bool (ltB x y)) ∧ Below w.heap.size w w' := by
  have hb : ∀ r : Bool, ltB x y = r → Hid (ltB x y = r) := fun r h => h
  obtain ⟨a1, a2, a3⟩ := x
  obtain ⟨b1, b2, b3⟩ := y
  unfold wv
  simp only
  have FIN := Lib.hid (((Below.refl w.heap.size w).alloc (Nat.le_refl _) (.cells #[.int .i64 a1, .int .u64 a2, .int .i64 a3] 30)).alloc (by simp) (.cells #[.int .i64 b1, .int .u64 b2, .int .i64 b3] 30))
  by_cases h1 : a2 = b2
  · subst h1
    have d1 : (a2 != a2) = false := by simp
    by_cases h2 : a3 = b3
    · subst h2
      have d2 : (a3 != a3) = false := by simp
      have E := hb (decide (a1 < b1)) (by simp [ltB])
      clear hb
      go_enter Try.func36, Try.ntmps36
      go_wp2_with fail
      go_ret
      exact ⟨retb E.out.symm, FIN.out⟩
    · have d2 : (a3 != b3) = true := bne_iff_ne.2 h2
      have E := hb (decide (a3 < b3)) (by simp [ltB, h2])
      clear hb h2
      go_enter Try.func36, Try.ntmps36
      go_wp2_with fail
      go_ret
      exact ⟨retb E.out.symm, FIN.out⟩
  · have d1 : (a2 != b2) = true := bne_iff_ne.2 h1
    have E := hb (decide (a2 < b2)) (by simp [ltB, h1])
    clear hb h1
    go_enter Try.func36, Try.ntmps36
    go_wp2_with fail
    go_ret
    exact ⟨retb E.out.symm, FIN.out⟩
def RelSm (w : World) (n : Nat) (iv : Value) (wr : World) : Prop := ∃ i : Nat, iv = .int .i64 i ∧ i ≤ n ∧ Below w.heap.size w wr
set_option maxHeartbeats 1000000 in
/-- Alike lists are told to be. -/
theorem same_any (w : World) (A1 A2 : Option Addr) (n c1 c2 : Nat) (l : List Wt) (h1 : Slc w 30 3 (.slice A1 n c1) n (flatW l)) (h2 : Slc w 30 3 (.slice A2 n c2) n (flatW l)) (hn : n ≤ 64) :
    Calls Try.prog 22 #[.slice A1 n c1, .slice A2 n c2] w fun e w' => e = .returned (.bool true) ∧ Below w.heap.size w w' := by
  have H1 := Lib.hid h1
  have H2 := Lib.hid h2
  have HL := Lib.hid h1.wlen
  have f0 : ((n : Int) != n) = false := by simp
  clear h1 h2
  go_enter Try.func22, Try.ntmps22
  go_wp2_with fail
  go_loopw [5] (fun iv wr => Hid (RelSm w n iv wr)) (fun iv _ => (n - intOf iv).toNat)
  case atStart => exact ⟨0, rfl, by omega, Below.refl _ _⟩
  case round =>
    obtain ⟨i, rfl, hi, hb⟩ := hrel
    have HB := Lib.hid hb
    clear hb
    by_cases hin : i < n
    · have hin2 : (i : Int) < n := by omega
      obtain ⟨x, hx⟩ : ∃ x, l[i]? = some x := ⟨_, List.getElem?_eq_getElem (by have := HL.out; omega)⟩
      obtain ⟨g, off, c', ev, -, hlt, u0, u1, u2⟩ := H1.out.wat hx
      simp only [Value.slice.injEq] at ev
      obtain ⟨rfl, -, -⟩ := ev
      obtain ⟨g', off', c'', ev, -, hlt', v0, v1, v2⟩ := H2.out.wat hx
      simp only [Value.slice.injEq] at ev
      obtain ⟨rfl, -, -⟩ := ev
      have u0 := (HB.out.cell (p := ⟨g, off + i * 3, none⟩) hlt).trans u0
      have u1 := (HB.out.cell (p := ⟨g, off + i * 3 + 1, none⟩) hlt).trans u1
      have u2 := (HB.out.cell (p := ⟨g, off + i * 3 + 2, none⟩) hlt).trans u2
      have v0 := (HB.out.cell (p := ⟨g', off' + i * 3, none⟩) hlt').trans v0
      have v1 := (HB.out.cell (p := ⟨g', off' + i * 3 + 1, none⟩) hlt').trans v1
      have v2 := (HB.out.cell (p := ⟨g', off' + i * 3 + 2, none⟩) hlt').trans v2
      have q1 := Nat.lt_of_lt_of_le hlt HB.out.size
      have q2 := Nat.lt_of_lt_of_le hlt' HB.out.size
      have g1 : IntKind.i64.wrap ((i : Int) + 1) = i + 1 := IntWalk.i64_in _ (by omega)
      clear hx
      go_wp2_with fail
      go_quiet (fail)
      go_wp2_with fail
      go_roundw
      case rel => exact ⟨i + 1, by go_num, by omega, Below.drewN' HB.out _⟩
      case measure => simp [intOf]; omega
    · obtain rfl : i = n := by omega
      have hin2 : ¬ (i : Int) < i := by omega
      go_wp2_with fail
      go_ret
      exact ⟨rfl, HB.out⟩
/-- On the way of the head, of this time. -/
def elig (D h : Int) (dn : Bool) (x : Wt) : Prop := x.dead = D ∧ (if dn then x.track ≤ h else h ≤ x.track)
/-- No worse on the way. -/
def noWorse (dn : Bool) (x y : Wt) : Prop := (x.track = y.track ∧ x.id ≤ y.id) ∨ (if dn then y.track < x.track else x.track < y.track)
def PickSpec (l : List Wt) (n : Nat) (D h : Int) (dn : Bool) (k : Int) : Prop :=
  (k = -1 ∧ ∀ (j : Nat) y, j < n → l[j]? = some y → ¬ elig D h dn y) ∨
  ∃ (i : Nat) (x : Wt), k = i ∧ i < n ∧ l[i]? = some x ∧ elig D h dn x ∧ ∀ (j : Nat) y, j < n → l[j]? = some y → elig D h dn y → noWorse dn x y
theorem PickSpec.zero (l : List Wt) (D h : Int) (dn : Bool) : PickSpec l 0 D h dn (-1) := .inl ⟨rfl, fun j y hj => by omega⟩
section
variable {l : List Wt} {n : Nat} {D h : Int} {dn : Bool} {k : Int} {u : Wt}
theorem PickSpec.skip (p : PickSpec l n D h dn k) (hu : l[n]? = some u) (he : ¬ elig D h dn u) : PickSpec l (n + 1) D h dn k := by
  rcases p with ⟨e, p⟩ | ⟨i, x, e, hi, hx, ex, p⟩
  · exact .inl ⟨e, fun j y hj hy => by
      by_cases h : j = n
      · subst h; rw [hu] at hy; injection hy with hy; exact hy ▸ he
      · exact p j y (by omega) hy⟩
  · refine .inr ⟨i, x, e, by omega, hx, ex, fun j y hj hy ey => ?_⟩
    by_cases h : j = n
    · subst h; rw [hu] at hy; injection hy with hy; exact absurd (hy ▸ ey) he
    · exact p j y (by omega) hy ey
theorem PickSpec.first (p : PickSpec l n D h dn (-1)) (hu : l[n]? = some u) (he : elig D h dn u) : PickSpec l (n + 1) D h dn n := by
  rcases p with ⟨e, p⟩ | ⟨i, x, e, hi, hx, ex, p⟩
  · refine .inr ⟨n, u, rfl, by omega, hu, he, fun j y hj hy ey => ?_⟩
    by_cases h : j = n
    · subst h; rw [hu] at hy; injection hy with hy; subst hy; exact .inl ⟨rfl, by omega⟩
    · exact absurd ey (p j y (by omega) hy)
  · omega
theorem PickSpec.stay {i : Nat} {b : Wt} (p : PickSpec l n D h dn i) (hb : l[i]? = some b) (hu : l[n]? = some u) (hw : noWorse dn b u) : PickSpec l (n + 1) D h dn i := by
  rcases p with ⟨e, p⟩ | ⟨i', x, e, hi, hx, ex, p⟩
  · omega
  · obtain rfl : i = i' := by omega
    rw [hb] at hx
    injection hx with hx
    subst hx
    refine .inr ⟨i, b, rfl, by omega, hb, ex, fun j y hj hy ey => ?_⟩
    by_cases h : j = n
    · subst h; rw [hu] at hy; injection hy with hy; subst hy; exact hw
    · exact p j y (by omega) hy ey
theorem PickSpec.take {i : Nat} {b : Wt} (p : PickSpec l n D h dn i) (hb : l[i]? = some b) (hu : l[n]? = some u) (he : elig D h dn u) (hw : noWorse dn u b) : PickSpec l (n + 1) D h dn n := by
  rcases p with ⟨e, p⟩ | ⟨i', x, e, hi, hx, ex, p⟩
  · omega
  · obtain rfl : i = i' := by omega
    rw [hb] at hx
    injection hx with hx
    subst hx
    refine .inr ⟨n, u, rfl, by omega, hu, he, fun j y hj hy ey => ?_⟩
    by_cases h : j = n
    · subst h; rw [hu] at hy; injection hy with hy; subst hy; exact .inl ⟨rfl, by omega⟩
    · have := p j y (by omega) hy ey
      unfold noWorse at *
      cases dn <;> simp at * <;> omega
end
def RelP (w : World) (l : List Wt) (n : Nat) (D h : Int) (dn : Bool) (bv iv : Value) (wr : World) : Prop := ∃ (i : Nat) (k : Int), iv = .int .i64 i ∧ bv = .int .i64 k ∧ i ≤ n ∧ PickSpec l i D h dn k ∧ Below w.heap.size w wr
set_option maxRecDepth 100000 in
set_option maxHeartbeats 4000000 in
theorem pick_any {w : World} {R : Qp} {l : List Wt} {h : Int} {d : Bool} (k : IsR w R l h d) (D : Int) (dn : Bool) :
    Calls Try.prog 34 #[.pointer (some ⟨R.q, 0, none⟩), .int .u64 D, .bool dn] w fun e w' => (∃ b, e = .returned (.int .i64 b) ∧ PickSpec l l.length D h dn b) ∧ Below w.heap.size w w' := by
  have c0 : w.cell? ⟨R.q, 0, none⟩ = some R.v := k.blk.cell 0
  have c1 : w.cell? ⟨R.q, 1, none⟩ = some (.int .i64 h) := k.blk.cell 1
  have hq := k.blk.lt
  obtain ⟨A, c, ev, -⟩ := k.row.shape
  have hs := k.row
  rw [ev] at c0 hs
  have HS := Lib.hid hs
  have hn := k.len
  obtain ⟨n, hnl⟩ : ∃ n, n = l.length := ⟨_, rfl⟩
  rw [← hnl] at c0 hn
  have HL := Lib.hid hnl
  have C0 := Lib.hid c0
  have C1 := Lib.hid c1
  rw [← hnl]
  clear k ev hs hnl c0 c1
  go_enter Try.func34, Try.ntmps34
  go_wp2_with fail
  go_loopw [7, 8] (fun bv iv wr => Hid (RelP w l n D h dn bv iv wr)) (fun _ iv _ => (n - intOf iv).toNat)
  case atStart => exact ⟨0, -1, rfl, rfl, by omega, .zero _ _ _ _, Below.refl _ _⟩
  case round =>
    obtain ⟨i, k, rfl, rfl, hi, hp, hb⟩ := hrel
    have HP := Lib.hid hp
    have HB := Lib.hid hb
    have c0 := (HB.out.cell (p := ⟨R.q, 0, none⟩) hq).trans C0.out
    have c1 := (HB.out.cell (p := ⟨R.q, 1, none⟩) hq).trans C1.out
    have hq2 := Nat.lt_of_lt_of_le hq HB.out.size
    clear hb
    by_cases hin : i < n
    · have hin2 : (i : Int) < n := by omega
      obtain ⟨x, hx⟩ : ∃ x, l[i]? = some x := ⟨_, List.getElem?_eq_getElem (by have := HL.out; omega)⟩
      obtain ⟨g, off, c', ev, -, hlt, u0, u1, u2⟩ := HS.out.wat hx
      simp only [Value.slice.injEq] at ev
      obtain ⟨rfl, -, -⟩ := ev
      have u0 := (HB.out.cell (p := ⟨g, off + i * 3, none⟩) hlt).trans u0
      have u1 := (HB.out.cell (p := ⟨g, off + i * 3 + 1, none⟩) hlt).trans u1
      have u2 := (HB.out.cell (p := ⟨g, off + i * 3 + 2, none⟩) hlt).trans u2
      have q1 := Nat.lt_of_lt_of_le hlt HB.out.size
      have g1 : IntKind.i64.wrap ((i : Int) + 1) = i + 1 := IntWalk.i64_in _ (by omega)
      have HX := Lib.hid hx
      have skip := fun he => Lib.hid (hp.skip hx he)
      obtain ⟨x1, x2, x3⟩ := x
      simp only at u0 u1 u2
      have B1 := Lib.hid (HB.out.alloc HB.out.size (.cells #[.int .i64 x1, .int .u64 x2, .int .i64 x3] 30))
      clear hx
      by_cases h1 : x2 = D
      · subst h1
        have d1 : (x2 != x2) = false := by simp
        cases dn
        · by_cases h2 : x3 < h
          · have d2 : decide (x3 < h) = true := decide_eq_true h2
            have SK := skip (fun e => by have := e.2; simp at this; omega)
            clear skip h2 hp
            go_wp2_with fail
            go_quiet (fail)
            go_wp2_with fail
            go_roundw
            case rel => exact ⟨i + 1, _, by go_num, rfl, by omega, SK.out, Below.drewN' B1.out _⟩
            case measure => simp [intOf]; omega
          · have d2 : decide (x3 < h) = false := decide_eq_false h2
            have el : elig x2 h false ⟨x1, x2, x3⟩ := ⟨rfl, by simp; omega⟩
            have hp0 := hp
            rcases hp with ⟨rfl, -⟩ | ⟨m, ⟨b1, b2, b3⟩, rfl, hm, hb, -, -⟩
            · have FS := Lib.hid (hp0.first HX.out el)
              clear skip h2 el hp0
              go_wp2_with fail
              go_quiet (fail)
              go_wp2_with fail
              go_roundw
              case rel => exact ⟨i + 1, _, by go_num, rfl, by omega, FS.out, Below.drewN' B1.out _⟩
              case measure => simp [intOf]; omega
            · obtain ⟨g', off', c'', ev, -, hlt', v0, v1, v2⟩ := HS.out.wat hb
              simp only [Value.slice.injEq, Option.some.injEq, Addr.mk.injEq] at ev
              obtain ⟨⟨rfl, rfl, -⟩, -, -⟩ := ev
              have v0 := (HB.out.cell (p := ⟨g, off + m * 3, none⟩) hlt).trans v0
              have v1 := (HB.out.cell (p := ⟨g, off + m * 3 + 1, none⟩) hlt).trans v1
              have v2 := (HB.out.cell (p := ⟨g, off + m * 3 + 2, none⟩) hlt).trans v2
              have m0 : (m : Int) < n := by omega
              have m1 : decide ((m : Int) < 0) = false := decide_eq_false (by omega)
              have m2 : ¬ (m : Int) < 0 := by omega
              simp only at v0 v1 v2
              have TK := fun hw => Lib.hid (hp0.take hb HX.out el hw)
              have ST := fun hw => Lib.hid (hp0.stay hb HX.out hw)
              clear skip h2 el hp0
              by_cases h3 : x3 = b3
              · subst h3
                have f1 : (x3 == x3) = true := beq_iff_eq.2 rfl
                have f2 : decide (x3 < x3) = false := decide_eq_false (by omega)
                by_cases h4 : x1 < b1
                · have f3 : decide (x1 < b1) = true := decide_eq_true h4
                  have T := TK (.inl ⟨rfl, by simp; omega⟩)
                  clear TK ST h4 hb
                  go_wp2_with fail
                  go_quiet (fail)
                  go_wp2_with fail
                  go_roundw
                  case rel => exact ⟨i + 1, _, by go_num, rfl, by omega, T.out, Below.drewN' (B1.out.alloc B1.out.size _) _⟩
                  case measure => simp [intOf]; omega
                · have f3 : decide (x1 < b1) = false := decide_eq_false h4
                  have T := ST (.inl ⟨rfl, by simp; omega⟩)
                  clear TK ST h4 hb
                  go_wp2_with fail
                  go_quiet (fail)
                  go_wp2_with fail
                  go_roundw
                  case rel => exact ⟨i + 1, _, by go_num, rfl, by omega, T.out, Below.drewN' (B1.out.alloc B1.out.size _) _⟩
                  case measure => simp [intOf]; omega
              · have f1 : (x3 == b3) = false := beq_eq_false_iff_ne.2 h3
                by_cases h4 : x3 < b3
                · have f2 : decide (x3 < b3) = true := decide_eq_true h4
                  have f3 : decide (b3 < x3) = false := decide_eq_false (by omega)
                  have T := TK (.inr (by simp; omega))
                  clear TK ST h3 h4 hb
                  go_wp2_with fail
                  go_quiet (fail)
                  go_wp2_with fail
                  go_roundw
                  case rel => exact ⟨i + 1, _, by go_num, rfl, by omega, T.out, Below.drewN' (B1.out.alloc B1.out.size _) _⟩
                  case measure => simp [intOf]; omega
                · have f2 : decide (x3 < b3) = false := decide_eq_false h4
                  have f3 : decide (b3 < x3) = true := decide_eq_true (by omega)
                  have T := ST (.inr (by simp; omega))
                  clear TK ST h3 h4 hb
                  go_wp2_with fail
                  go_quiet (fail)
                  go_wp2_with fail
                  go_roundw
                  case rel => exact ⟨i + 1, _, by go_num, rfl, by omega, T.out, Below.drewN' (B1.out.alloc B1.out.size _) _⟩
                  case measure => simp [intOf]; omega
        · by_cases h2 : h < x3
          · have d2 : decide (h < x3) = true := decide_eq_true h2
            have SK := skip (fun e => by have := e.2; simp at this; omega)
            clear skip h2 hp
            go_wp2_with fail
            go_quiet (fail)
            go_wp2_with fail
            go_roundw
            case rel => exact ⟨i + 1, _, by go_num, rfl, by omega, SK.out, Below.drewN' B1.out _⟩
            case measure => simp [intOf]; omega
          · have d2 : decide (h < x3) = false := decide_eq_false h2
            have el : elig x2 h true ⟨x1, x2, x3⟩ := ⟨rfl, by simp; omega⟩
            have hp0 := hp
            rcases hp with ⟨rfl, -⟩ | ⟨m, ⟨b1, b2, b3⟩, rfl, hm, hb, -, -⟩
            · have FS := Lib.hid (hp0.first HX.out el)
              clear skip h2 el hp0
              go_wp2_with fail
              go_quiet (fail)
              go_wp2_with fail
              go_roundw
              case rel => exact ⟨i + 1, _, by go_num, rfl, by omega, FS.out, Below.drewN' B1.out _⟩
              case measure => simp [intOf]; omega
            · obtain ⟨g', off', c'', ev, -, hlt', v0, v1, v2⟩ := HS.out.wat hb
              simp only [Value.slice.injEq, Option.some.injEq, Addr.mk.injEq] at ev
              obtain ⟨⟨rfl, rfl, -⟩, -, -⟩ := ev
              have v0 := (HB.out.cell (p := ⟨g, off + m * 3, none⟩) hlt).trans v0
              have v1 := (HB.out.cell (p := ⟨g, off + m * 3 + 1, none⟩) hlt).trans v1
              have v2 := (HB.out.cell (p := ⟨g, off + m * 3 + 2, none⟩) hlt).trans v2
              have m0 : (m : Int) < n := by omega
              have m1 : decide ((m : Int) < 0) = false := decide_eq_false (by omega)
              have m2 : ¬ (m : Int) < 0 := by omega
              simp only at v0 v1 v2
              have TK := fun hw => Lib.hid (hp0.take hb HX.out el hw)
              have ST := fun hw => Lib.hid (hp0.stay hb HX.out hw)
              clear skip h2 el hp0
              by_cases h3 : x3 = b3
              · subst h3
                have f1 : (x3 == x3) = true := beq_iff_eq.2 rfl
                have f2 : decide (x3 < x3) = false := decide_eq_false (by omega)
                by_cases h4 : x1 < b1
                · have f3 : decide (x1 < b1) = true := decide_eq_true h4
                  have T := TK (.inl ⟨rfl, by simp; omega⟩)
                  clear TK ST h4 hb
                  go_wp2_with fail
                  go_quiet (fail)
                  go_wp2_with fail
                  go_roundw
                  case rel => exact ⟨i + 1, _, by go_num, rfl, by omega, T.out, Below.drewN' (B1.out.alloc B1.out.size _) _⟩
                  case measure => simp [intOf]; omega
                · have f3 : decide (x1 < b1) = false := decide_eq_false h4
                  have T := ST (.inl ⟨rfl, by simp; omega⟩)
                  clear TK ST h4 hb
                  go_wp2_with fail
                  go_quiet (fail)
                  go_wp2_with fail
                  go_roundw
                  case rel => exact ⟨i + 1, _, by go_num, rfl, by omega, T.out, Below.drewN' (B1.out.alloc B1.out.size _) _⟩
                  case measure => simp [intOf]; omega
              · have f1 : (x3 == b3) = false := beq_eq_false_iff_ne.2 h3
                by_cases h4 : x3 < b3
                · have f2 : decide (x3 < b3) = true := decide_eq_true h4
                  have f3 : decide (b3 < x3) = false := decide_eq_false (by omega)
                  have T := ST (.inr (by simp; omega))
                  clear TK ST h3 h4 hb
                  go_wp2_with fail
                  go_quiet (fail)
                  go_wp2_with fail
                  go_roundw
                  case rel => exact ⟨i + 1, _, by go_num, rfl, by omega, T.out, Below.drewN' (B1.out.alloc B1.out.size _) _⟩
                  case measure => simp [intOf]; omega
                · have f2 : decide (x3 < b3) = false := decide_eq_false h4
                  have f3 : decide (b3 < x3) = true := decide_eq_true (by omega)
                  have T := TK (.inr (by simp; omega))
                  clear TK ST h3 h4 hb
                  go_wp2_with fail
                  go_quiet (fail)
                  go_wp2_with fail
                  go_roundw
                  case rel => exact ⟨i + 1, _, by go_num, rfl, by omega, T.out, Below.drewN' (B1.out.alloc B1.out.size _) _⟩
                  case measure => simp [intOf]; omega
      · have d1 : (x2 != D) = true := bne_iff_ne.2 h1
        have SK := skip (fun e => h1 e.1)
        clear skip h1 hp
        go_wp2_with fail
        go_quiet (fail)
        go_wp2_with fail
        go_roundw
        case rel => exact ⟨i + 1, k, by go_num, rfl, by omega, SK.out, Below.drewN' B1.out _⟩
        case measure => simp [intOf]; omega
    · obtain rfl : i = n := by omega
      have hin2 : ¬ (i : Int) < i := by omega
      clear hp
      go_wp2_with fail
      go_ret
      exact ⟨⟨k, rfl, HP.out⟩, HB.out⟩
end Go.Proofs.Ytinpaplpgoljpaa
