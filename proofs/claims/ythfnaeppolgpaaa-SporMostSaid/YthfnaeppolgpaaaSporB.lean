/- More contracts of layer 14 (spor): when a unit is there; a new budget; whether a server may be; the most in a span. -/
import Derived.Test.YthfnaeppolgpaaaSpor
namespace Go.Proofs.Ythfnaeppolgpaaa
open Go.RowKit
set_option linter.unusedVariables false
set_option linter.unusedSimpArgs false

def mayS (u p : Int) : Bool := decide (1 ≤ u ∧ u ≤ 200 ∧ u ≤ p ∧ p ≤ 1099511627776)
def mostS (u p span : Int) : Int := if mayS u p = false ∨ 1099511627776 < span then 0 else min span (upF span p * u)
def nextB (now : Int) (s : Bs) : (Int × Int) × Bs :=
  if (leftB now s).1.2 ≠ 0 then ((0, (leftB now s).1.2), (leftB now s).2) else if 0 < (leftB now s).1.1 then ((now, 0), (leftB now s).2) else
    if 4611686018427387904 ≤ (leftB now s).2.back.headD 0 then ((0, 2), (leftB now s).2) else (((leftB now s).2.back.headD 0, 0), (leftB now s).2)

theorem mays_any (u p : Int) (w : World) (bu : -9223372036854775808 ≤ u) (bu' : u ≤ 9223372036854775807) (bp : 0 ≤ p) (bp' : p ≤ 18446744073709551615) :
    Calls Try.prog 12 #[.agg #[.int .i64 u, .int .u64 p]] w fun e w' => e = .returned (.bool (mayS u p)) ∧ Below w.heap.size w w' := by
  by_cases z1 : 1 ≤ u
  · by_cases z2 : u ≤ 200
    · by_cases z3 : u ≤ p
      · by_cases z4 : p ≤ 1099511627776
        · have e : mayS u p = true := decide_eq_true ⟨z1, z2, z3, z4⟩
          rw [e]; clear e
          go_enter Try.func12, Try.ntmps12
          go_wp2
          go_ret
          exact ⟨rfl, (Below.refl _ _).alloc (Nat.le_refl _) _⟩
        · have e : mayS u p = false := decide_eq_false (by omega)
          rw [e]; clear e
          go_enter Try.func12, Try.ntmps12
          go_wp2
          go_ret
          exact ⟨rfl, (Below.refl _ _).alloc (Nat.le_refl _) _⟩
      · have e : mayS u p = false := decide_eq_false (by omega)
        have y : decide (u ≤ p) = false := decide_eq_false z3
        rw [e]; clear e
        go_enter Try.func12, Try.ntmps12
        go_wp2
        go_ret
        exact ⟨rfl, (Below.refl _ _).alloc (Nat.le_refl _) _⟩
    · have e : mayS u p = false := decide_eq_false (by omega)
      have y : decide (u ≤ 200) = false := decide_eq_false z2
      rw [e]; clear e
      go_enter Try.func12, Try.ntmps12
      go_wp2
      go_ret
      exact ⟨rfl, (Below.refl _ _).alloc (Nat.le_refl _) _⟩
  · have e : mayS u p = false := decide_eq_false (by omega)
    have y : decide (1 ≤ u) = false := decide_eq_false z1
    rw [e]; clear e
    go_enter Try.func12, Try.ntmps12
    go_wp2
    go_ret
    exact ⟨rfl, (Below.refl _ _).alloc (Nat.le_refl _) _⟩
theorem rmays_any (u p : Int) (w : World) (bu : -9223372036854775808 ≤ u) (bu' : u ≤ 9223372036854775807) (bp : 0 ≤ p) (bp' : p ≤ 18446744073709551615) :
    Calls Try.prog 9 #[.agg #[.int .i64 u, .int .u64 p]] w fun e w' => e = .returned (.bool (mayS u p)) ∧ Below w.heap.size w w' := by
  by_cases z1 : 1 ≤ u
  · by_cases z2 : u ≤ 200
    · by_cases z4 : p ≤ 1099511627776
      · by_cases z3 : u ≤ p
        · have e : mayS u p = true := decide_eq_true ⟨z1, z2, z3, z4⟩
          rw [e]; clear e
          go_enter Try.func9, Try.ntmps9
          go_wp2
          go_ret
          exact ⟨rfl, (Below.refl _ _).alloc (Nat.le_refl _) _⟩
        · have e : mayS u p = false := decide_eq_false (by omega)
          rw [e]; clear e
          go_enter Try.func9, Try.ntmps9
          go_wp2
          go_ret
          exact ⟨retb (by simp), (Below.refl _ _).alloc (Nat.le_refl _) _⟩
      · have e : mayS u p = false := decide_eq_false (by omega)
        have y : decide (p ≤ 1099511627776) = false := decide_eq_false z4
        rw [e]; clear e
        go_enter Try.func9, Try.ntmps9
        go_wp2
        go_ret
        exact ⟨rfl, (Below.refl _ _).alloc (Nat.le_refl _) _⟩
    · have e : mayS u p = false := decide_eq_false (by omega)
      have y : decide (u ≤ 200) = false := decide_eq_false z2
      rw [e]; clear e
      go_enter Try.func9, Try.ntmps9
      go_wp2
      go_ret
      exact ⟨rfl, (Below.refl _ _).alloc (Nat.le_refl _) _⟩
  · have e : mayS u p = false := decide_eq_false (by omega)
    have y : decide (0 < u) = false := decide_eq_false (by omega)
    rw [e]; clear e
    go_enter Try.func9, Try.ntmps9
    go_wp2
    go_ret
    exact ⟨rfl, (Below.refl _ _).alloc (Nat.le_refl _) _⟩

theorem mayS_iff {u p : Int} : mayS u p = true ↔ 1 ≤ u ∧ u ≤ 200 ∧ u ≤ p ∧ p ≤ 1099511627776 := by unfold mayS; simp
theorem b0_ok {u p : Int} (h : mayS u p = true) : Bs.ok ⟨u, p, [], 0⟩ := by
  obtain ⟨h1, h2, h3, h4⟩ := mayS_iff.1 h
  exact ⟨h1, h2, h3, h4, by simp; omega, by simp, by simp, by simp, by simp⟩
theorem newB_any (u p : Int) (w : World) (bu : -9223372036854775808 ≤ u) (bu' : u ≤ 9223372036854775807) (bp : 0 ≤ p) (bp' : p ≤ 18446744073709551615) (h : mayS u p = true) :
    Calls Try.prog 8 #[.agg #[.int .i64 u, .int .u64 p]] w fun e w' => ∃ b, e = .returned (.tuple #[.pointer (some ⟨b, 0, none⟩), .int .i64 0]) ∧ w.heap.size ≤ b ∧ IsB w' b ⟨u, p, [], 0⟩ true ∧ Below w.heap.size w w' := by
  have c := fun W => mays_any u p W bu bu' bp bp'
  rw [h] at c
  have C := fun W => Lib.hid (c W)
  clear c
  go_enter Try.func8, Try.ntmps8
  go_wp2_with (go_at_call 12; (with_reducible refine Calls.mono (C _).out ?_); rintro e w1 ⟨rfl, bel1⟩
               have hc0 : w1.cell? ⟨w.heap.size, 0, none⟩ = some (.int .i64 u) := (bel1.cell (p := ⟨w.heap.size, 0, none⟩) (by simp)).trans ((Blk.new w 24 [.int .i64 u, .int .u64 p]).cell 0)
               have hc1 : w1.cell? ⟨w.heap.size, 1, none⟩ = some (.int .u64 p) := (bel1.cell (p := ⟨w.heap.size, 1, none⟩) (by simp)).trans ((Blk.new w 24 [.int .i64 u, .int .u64 p]).cell 1)
               have hB := Lib.hid bel1
               clear bel1)
  go_ret2
  have bel := hB.out
  have hs := bel.size
  simp only [World.size_alloc] at hs
  have bel0 : Below w.heap.size w w1 := ((Below.refl _ _).alloc (Nat.le_refl _) _).trans (bel.mono (by simp))
  exact ⟨w1.heap.size, rfl, by omega, ⟨.slice none 0 0, Blk.new w1 _ _, Slc.nil _ _ _, fun _ A c hv => by injection hv with _ _ h3; exact h3.symm⟩, bel0.alloc (by omega) _⟩
theorem newB_no (u p : Int) (w : World) (bu : -9223372036854775808 ≤ u) (bu' : u ≤ 9223372036854775807) (bp : 0 ≤ p) (bp' : p ≤ 18446744073709551615) (h : mayS u p = false) :
    Calls Try.prog 8 #[.agg #[.int .i64 u, .int .u64 p]] w fun e w' => e = .returned (.tuple #[.pointer none, .int .i64 1]) ∧ Below w.heap.size w w' := by
  have c := fun W => mays_any u p W bu bu' bp bp'
  rw [h] at c
  have C := fun W => Lib.hid (c W)
  clear c
  go_enter Try.func8, Try.ntmps8
  go_wp2_with (go_at_call 12; (with_reducible refine Calls.mono (C _).out ?_); rintro e w1 ⟨rfl, bel1⟩; have hB := Lib.hid bel1; clear bel1)
  go_ret2
  exact ⟨rfl, ((Below.refl _ _).alloc (Nat.le_refl _) _).trans (hB.out.mono (by simp))⟩

theorem upF_le (n q : Int) (hn : 0 ≤ n) (hq : 0 < q) : 0 ≤ upF n q ∧ upF n q ≤ n := by
  obtain ⟨b1, b2, b3, b4, b5⟩ := mul_div_le n q hn hq
  unfold upF
  rw [if_neg (by omega)]
  split
  · exact ⟨b1, b2⟩
  · rename_i h
    have h3 : q ≠ 1 := by rintro rfl; exact h (Int.emod_one n)
    have h4 : n / q * 2 ≤ n / q * q := Int.mul_le_mul_of_nonneg_left (by omega) b1
    have hm := Int.emod_add_mul_ediv n q
    have hm0 := Int.emod_nonneg n (show q ≠ 0 by omega)
    have h6 : n / q * q = q * (n / q) := Int.mul_comm _ _
    exact ⟨by omega, by omega⟩
set_option maxHeartbeats 1000000 in
theorem mostS_any (u p span : Int) (w : World) (bu : -9223372036854775808 ≤ u) (bu' : u ≤ 9223372036854775807) (bp : 0 ≤ p) (bp' : p ≤ 18446744073709551615) (bs : 0 ≤ span) (bs' : span ≤ 18446744073709551615) :
    Calls Try.prog 11 #[.agg #[.int .i64 u, .int .u64 p], .int .u64 span] w fun e w' => e = .returned (.int .u64 (mostS u p span)) ∧ Below w.heap.size w w' := by
  have c := fun W => mays_any u p W bu bu' bp bp'
  cases h : mayS u p with
  | false =>
    rw [h] at c
    have e : mostS u p span = 0 := by unfold mostS; rw [if_pos (.inl h)]
    rw [e]
    have C := fun W => Lib.hid (c W)
    clear c e h
    go_enter Try.func11, Try.ntmps11
    go_wp2_with (go_at_call 12; (with_reducible refine Calls.mono (C _).out ?_); rintro e w1 ⟨rfl, bel1⟩; have hB := Lib.hid bel1; clear bel1)
    go_ret
    exact ⟨rfl, ((Below.refl _ _).alloc (Nat.le_refl _) _).trans (hB.out.mono (by simp))⟩
  | true =>
    rw [h] at c
    obtain ⟨m1, m2, m3, m4⟩ := mayS_iff.1 h
    have C := fun W => Lib.hid (c W)
    by_cases hs : 1099511627776 < span
    · have e : mostS u p span = 0 := by unfold mostS; rw [if_pos (.inr hs)]
      rw [e]
      clear c e h
      go_enter Try.func11, Try.ntmps11
      go_wp2_with (go_at_call 12; (with_reducible refine Calls.mono (C _).out ?_); rintro e w1 ⟨rfl, bel1⟩; have hB := Lib.hid bel1; clear bel1)
      go_ret
      exact ⟨rfl, ((Below.refl _ _).alloc (Nat.le_refl _) _).trans (hB.out.mono (by simp))⟩
    · have e : mostS u p span = min span (upF span p * u) := by unfold mostS; rw [if_neg]; rw [h]; simp; omega
      rw [e]
      obtain ⟨u1, u2⟩ := upF_le span p bs (by omega)
      have U := fun W => Lib.hid (up_any span p W bs bs' bp bp')
      have g1 : 0 ≤ upF span p * u := Int.mul_nonneg u1 (by omega)
      have g2 : upF span p * u ≤ 1099511627776 * 200 := Int.mul_le_mul (by omega) m2 (by omega) (by omega)
      generalize upF span p = q at *
      have g3 : IntKind.u64.wrap (q * u) = q * u := IntWalk.u64_in _ (by omega)
      have hs' : decide (1099511627776 < span) = false := decide_eq_false hs
      clear c e h hs
      go_enter Try.func11, Try.ntmps11
      go_wp2_with (go_at_call 12; (with_reducible refine Calls.mono (C _).out ?_); rintro e w1 ⟨rfl, bel1⟩
                   have hc0 : w1.cell? ⟨w.heap.size, 0, none⟩ = some (.int .i64 u) := (bel1.cell (p := ⟨w.heap.size, 0, none⟩) (by simp)).trans ((Blk.new w 24 [.int .i64 u, .int .u64 p]).cell 0)
                   have hc1 : w1.cell? ⟨w.heap.size, 1, none⟩ = some (.int .u64 p) := (bel1.cell (p := ⟨w.heap.size, 1, none⟩) (by simp)).trans ((Blk.new w 24 [.int .i64 u, .int .u64 p]).cell 1)
                   have hB := Lib.hid bel1
                   clear bel1)
      go_quiet ((go_at_call 15; exact Calls.quiet_of_same ((U _).out.mono fun _ _ h => ⟨h.1, h.2.symm⟩)))
      go_wp2_with fail
      all_goals
        go_ret
        refine ⟨ret1 (by omega), Below.drewN' (((Below.refl _ _).alloc (Nat.le_refl _) _).trans (hB.out.mono (by simp))) _⟩

section
variable {w : World} {b : Nat} {s : Bs} {t : Bool}
theorem leftB_len {now : Int} {s : Bs} (h : (leftB now s).1.2 = 0) : (leftB now s).1.1 = s.u - ((leftB now s).2.back.length : Int) := by
  unfold leftB at *
  split
  · rename_i z; rw [if_pos z] at h; simp at h
  · split
    · rename_i z z2; rw [if_neg z, if_pos z2] at h; simp at h
    · rfl
set_option maxHeartbeats 1000000 in
theorem nextB_any (k : IsB w b s t) (ok : s.ok) (now : Int) (hn : 0 ≤ now) (hn' : now ≤ 18446744073709551615) :
    Calls Try.prog 13 #[.pointer (some ⟨b, 0, none⟩), .int .u64 now] w fun e w' => e = .returned (.tuple #[.int .u64 (nextB now s).1.1, .int .i64 (nextB now s).1.2]) ∧ IsB w' b (nextB now s).2 (t || (nextB now s).1.2 == 0) ∧ Only (· = b) w w' := by
  have c := left_any k ok now hn hn'
  have ok1 := leftB_ok ok now hn
  have he := leftB_err (now := now) (s := s)
  have hl := leftB_len (now := now) (s := s)
  have hu := ok.u0
  have hlen := ok1.len
  have hel := ok1.el
  have hu1 : (leftB now s).2.u = s.u := by unfold leftB; split <;> (try split) <;> rfl
  have hnn : (leftB now s).2.now < 4611686018427387904 := ok1.n1
  have hpp := ok1.p1
  unfold nextB
  generalize (leftB now s).1.1 = n at *
  generalize (leftB now s).1.2 = e at *
  generalize (leftB now s).2 = s1 at *
  by_cases z : e = 0
  · subst z
    rw [if_neg (by simp)]
    have hl' := hl rfl
    have C := Lib.hid c
    by_cases z2 : 0 < n
    · rw [if_pos z2]
      clear c he hl ok1 k ok hel
      go_enter Try.func13, Try.ntmps13
      go_wp2_with (go_at_call 14; (with_reducible refine Calls.mono C.out ?_); rintro e w1 ⟨rfl, k1, o1⟩)
      go_ret2
      exact ⟨rfl, k1, o1⟩
    · rw [if_neg z2]
      obtain ⟨x, l, hx⟩ : ∃ x l, s1.back = x :: l := by
        cases hb : s1.back with
        | nil => rw [hb] at hl'; simp at hl'; omega
        | cons x l => exact ⟨x, l, rfl⟩
      have hx0 := hel x (by rw [hx]; simp)
      have hhead : s1.back.headD 0 = x := by rw [hx]; rfl
      have hg0 : s1.back[0]? = some x := by rw [hx]; rfl
      have hpos : 0 < s1.back.length := by rw [hx]; simp
      have hle200 : s1.back.length ≤ 9223372036854775807 := by have := ok.u1; omega
      rw [hhead]
      clear c he hl ok1 k ok hel hx hhead hl'
      by_cases z3 : 4611686018427387904 ≤ x
      · rw [if_pos z3]
        go_enter Try.func13, Try.ntmps13
        go_wp2_with fail
        refine Calls.mono C.out ?_
        rintro e w1 ⟨rfl, k1, o1⟩
        have K1 := Lib.hid k1
        obtain ⟨v, kb, ks, -⟩ := k1
        obtain ⟨gk, off, cp, rfl, -, -, -, hxx, -⟩ := ks.at_ hpos
        have c2 : w1.cell? ⟨b, 2, none⟩ = some (.slice (some ⟨gk, off, none⟩) s1.back.length cp) := kb.cell 2
        have c3 : w1.cell? ⟨gk, off, none⟩ = some (.int .u64 x) := hxx 0 _ (by simp [hg0])
        have M := fun W => Lib.hid (may_any x W)
        rw [decide_eq_false (by omega)] at M
        clear kb ks hxx hg0
        go_wp2_with (go_at_call 16; (with_reducible refine Calls.mono (M _).out ?_); rintro e w' ⟨rfl, rfl⟩)
        go_ret2
        refine ⟨rfl, ?_, o1⟩
        obtain ⟨v, h1, h2, h3⟩ := K1.out
        exact ⟨v, h1, h2, fun h => h3 (by simp)⟩
      · rw [if_neg z3]
        go_enter Try.func13, Try.ntmps13
        go_wp2_with fail
        refine Calls.mono C.out ?_
        rintro e w1 ⟨rfl, k1, o1⟩
        have K1 := Lib.hid k1
        obtain ⟨v, kb, ks, -⟩ := k1
        obtain ⟨gk, off, cp, rfl, -, -, -, hxx, -⟩ := ks.at_ hpos
        have c2 : w1.cell? ⟨b, 2, none⟩ = some (.slice (some ⟨gk, off, none⟩) s1.back.length cp) := kb.cell 2
        have c3 : w1.cell? ⟨gk, off, none⟩ = some (.int .u64 x) := hxx 0 _ (by simp [hg0])
        have M := fun W => Lib.hid (may_any x W)
        rw [decide_eq_true (by omega)] at M
        clear kb ks hxx hg0
        go_wp2_with (go_at_call 16; (with_reducible refine Calls.mono (M _).out ?_); rintro e w' ⟨rfl, rfl⟩)
        go_ret2
        exact ⟨rfl, K1.out, o1⟩
  · rw [if_pos z]
    have hn0 := he z
    subst hn0
    have C := Lib.hid c
    have ze : (e == 0) = false := beq_eq_false_iff_ne.2 z
    have zn : (e != 0) = true := bne_iff_ne.2 z
    clear c he hl ok1 k ok hel z
    go_enter Try.func13, Try.ntmps13
    go_wp2_with (go_at_call 14; (with_reducible refine Calls.mono C.out ?_); rintro e w1 ⟨rfl, k1, o1⟩)
    go_ret2
    exact ⟨rfl, k1, o1⟩
end
end Go.Proofs.Ythfnaeppolgpaaa
