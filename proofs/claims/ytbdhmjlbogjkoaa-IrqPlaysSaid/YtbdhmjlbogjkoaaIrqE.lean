/- Layer 13 (irq): whether a line may be; a new controller. -/
import Derived.Test.YtbdhmjlbogjkoaaIrqD
namespace Go.Proofs.Ytbdhmjlbogjkoaa
open Go.RowKit
set_option linter.unusedVariables false
set_option linter.unusedSimpArgs false
structure Lp.rng (l : Lp) : Prop where
  c0 : -9223372036854775808 ≤ l.c
  c1 : l.c ≤ 9223372036854775807
  h0 : 0 ≤ l.h
  h1 : l.h ≤ 18446744073709551615
  d0 : -9223372036854775808 ≤ l.d
  d1 : l.d ≤ 9223372036854775807
  q0 : 0 ≤ l.q
  q1 : l.q ≤ 18446744073709551615
  s0 : -9223372036854775808 ≤ l.s
  s1 : l.s ≤ 9223372036854775807
  z0 : 0 ≤ l.z
  z1 : l.z ≤ 18446744073709551615
def mayI (l : Lp) : Bool := decide (1 ≤ l.c ∧ l.c ≤ 1000 ∧ l.h ≤ 1099511627776) && mayK l.d l.q && decide (1 ≤ l.s ∧ l.s ≤ 10000 ∧ 1 ≤ l.z ∧ l.z ≤ 1099511627776)
theorem mayI_ok {l : Lp} (r : l.rng) (h : mayI l = true) : l.ok := by
  unfold mayI at h
  simp at h
  obtain ⟨⟨⟨h1, h2, h3⟩, h4⟩, h5, h6, h7, h8⟩ := h
  exact ⟨h1, h2, r.h0, h3, h4, h5, h6, h7, h8⟩
theorem mayI_of {l : Lp} (h : l.ok) : mayI l = true := by
  obtain ⟨h1, h2, h3, h4, h5, h6, h7, h8, h9⟩ := h
  unfold mayI
  simp [h1, h2, h4, h5, h6, h7, h8, h9]
theorem Lp.ok.rng {l : Lp} (h : l.ok) : l.rng := by
  obtain ⟨h1, h2, h3, h4, h5, h6, h7, h8, h9⟩ := h
  obtain ⟨m1, m2, m3, m4⟩ := mayK_iff.1 h5
  constructor <;> omega
section
variable {w w' : World}
set_option maxHeartbeats 4000000 in
theorem mayi_any (l : Lp) (r : l.rng) (w : World) :
    Calls Try.prog 17 #[.agg #[.int .i64 l.c, .int .u64 l.h, .int .i64 l.d, .int .u64 l.q, .int .i64 l.s, .int .u64 l.z]] w fun e w' => e = .returned (.bool (mayI l)) ∧ Below w.heap.size w w' := by
  obtain ⟨c0, c1, h0, h1, d0, d1, q0, q1, s0, s1, z0, z1⟩ := r
  obtain ⟨c, h, d, q, s, z⟩ := l
  simp only at *
  have hm : mayI ⟨c, h, d, q, s, z⟩ = (decide (1 ≤ c ∧ c ≤ 1000 ∧ h ≤ 1099511627776) && mayK d q && decide (1 ≤ s ∧ s ≤ 10000 ∧ 1 ≤ z ∧ z ≤ 1099511627776)) := rfl
  rw [hm]
  clear hm
  have KL := Lib.hid (Blk.new w 24 [.int .i64 c, .int .u64 h, .int .i64 d, .int .u64 q, .int .i64 s, .int .u64 z])
  by_cases a1 : 1 ≤ c ∧ c ≤ 1000 ∧ h ≤ 1099511627776
  · rw [decide_eq_true a1]
    obtain ⟨a1, a2, a3⟩ := a1
    have G := fun W => Lib.hid (new_any c h W a1 a2 h0 a3)
    cases hk : mayK d q with
    | false =>
      have K := fun W => Lib.hid (newK_no d q W d0 d1 q0 q1 hk)
      clear hk a3
      go_enter Try.func17, Try.ntmps17
      go_wp2_with (first
        | (go_at_call 29; (with_reducible refine Calls.mono (G _).out ?_); rintro e w1 ⟨b, rfl, hb, kb, bel⟩; have B1 := Lib.hid bel; have k1 := Blk.below KL.out bel KL.out.lt; have f2 : w1.cell? ⟨w.heap.size, 2, none⟩ = some (.int .i64 d) := k1.cell 2; have f3 : w1.cell? ⟨w.heap.size, 3, none⟩ = some (.int .u64 q) := k1.cell 3; have f4 : w1.cell? ⟨w.heap.size, 4, none⟩ = some (.int .i64 s) := k1.cell 4; have f5 : w1.cell? ⟨w.heap.size, 5, none⟩ = some (.int .u64 z) := k1.cell 5; have K1 := Lib.hid k1; clear kb bel hb k1)
        | (go_at_call 30; (with_reducible refine Calls.mono (K _).out ?_); rintro e w2 ⟨rfl, rfl⟩))
      go_ret
      exact ⟨retb (by simp), Below.next ((Below.refl _ _).alloc (Nat.le_refl _) _) B1.out⟩
    | true =>
      have K := fun W => Lib.hid (newK_any d q W d0 d1 q0 q1 hk)
      clear hk a3
      by_cases a4 : 1 ≤ s
      · have e4 : decide (1 ≤ s) = true := decide_eq_true a4
        by_cases a5 : s ≤ 10000
        · have e5 : decide (s ≤ 10000) = true := decide_eq_true a5
          by_cases a6 : 1 ≤ z
          · have e6 : decide (1 ≤ z) = true := decide_eq_true a6
            by_cases a7 : z ≤ 1099511627776
            · have e7 : decide (z ≤ 1099511627776) = true := decide_eq_true a7
              rw [decide_eq_true (show 1 ≤ s ∧ s ≤ 10000 ∧ 1 ≤ z ∧ z ≤ 1099511627776 from ⟨a4, a5, a6, a7⟩)]
              go_enter Try.func17, Try.ntmps17
              go_wp2_with (first
                | (go_at_call 29; (with_reducible refine Calls.mono (G _).out ?_); rintro e w1 ⟨b, rfl, hb, kb, bel⟩; have B1 := Lib.hid bel; have k1 := Blk.below KL.out bel KL.out.lt; have f2 : w1.cell? ⟨w.heap.size, 2, none⟩ = some (.int .i64 d) := k1.cell 2; have f3 : w1.cell? ⟨w.heap.size, 3, none⟩ = some (.int .u64 q) := k1.cell 3; have f4 : w1.cell? ⟨w.heap.size, 4, none⟩ = some (.int .i64 s) := k1.cell 4; have f5 : w1.cell? ⟨w.heap.size, 5, none⟩ = some (.int .u64 z) := k1.cell 5; have K1 := Lib.hid k1; clear kb bel hb k1)
                | (go_at_call 30; (with_reducible refine Calls.mono (K _).out ?_); rintro e w2 ⟨b2, rfl, hb2, kb2, bel2⟩; have B2 := Lib.hid bel2; have k2 := Blk.below K1.out bel2 K1.out.lt; have g4 : w2.cell? ⟨w.heap.size, 4, none⟩ = some (.int .i64 s) := k2.cell 4; have g5 : w2.cell? ⟨w.heap.size, 5, none⟩ = some (.int .u64 z) := k2.cell 5; clear kb2 bel2 hb2 k2))
              go_ret
              exact ⟨retb (by simp), Below.next (Below.next ((Below.refl _ _).alloc (Nat.le_refl _) _) B1.out) B2.out⟩
            · have e7 : decide (z ≤ 1099511627776) = false := decide_eq_false a7
              rw [decide_eq_false (show ¬ (1 ≤ s ∧ s ≤ 10000 ∧ 1 ≤ z ∧ z ≤ 1099511627776) from fun h => a7 h.2.2.2)]
              go_enter Try.func17, Try.ntmps17
              go_wp2_with (first
                | (go_at_call 29; (with_reducible refine Calls.mono (G _).out ?_); rintro e w1 ⟨b, rfl, hb, kb, bel⟩; have B1 := Lib.hid bel; have k1 := Blk.below KL.out bel KL.out.lt; have f2 : w1.cell? ⟨w.heap.size, 2, none⟩ = some (.int .i64 d) := k1.cell 2; have f3 : w1.cell? ⟨w.heap.size, 3, none⟩ = some (.int .u64 q) := k1.cell 3; have f4 : w1.cell? ⟨w.heap.size, 4, none⟩ = some (.int .i64 s) := k1.cell 4; have f5 : w1.cell? ⟨w.heap.size, 5, none⟩ = some (.int .u64 z) := k1.cell 5; have K1 := Lib.hid k1; clear kb bel hb k1)
                | (go_at_call 30; (with_reducible refine Calls.mono (K _).out ?_); rintro e w2 ⟨b2, rfl, hb2, kb2, bel2⟩; have B2 := Lib.hid bel2; have k2 := Blk.below K1.out bel2 K1.out.lt; have g4 : w2.cell? ⟨w.heap.size, 4, none⟩ = some (.int .i64 s) := k2.cell 4; have g5 : w2.cell? ⟨w.heap.size, 5, none⟩ = some (.int .u64 z) := k2.cell 5; clear kb2 bel2 hb2 k2))
              go_ret
              exact ⟨retb (by simp), Below.next (Below.next ((Below.refl _ _).alloc (Nat.le_refl _) _) B1.out) B2.out⟩
          · have e6 : decide (1 ≤ z) = false := decide_eq_false a6
            rw [decide_eq_false (show ¬ (1 ≤ s ∧ s ≤ 10000 ∧ 1 ≤ z ∧ z ≤ 1099511627776) from fun h => a6 h.2.2.1)]
            go_enter Try.func17, Try.ntmps17
            go_wp2_with (first
              | (go_at_call 29; (with_reducible refine Calls.mono (G _).out ?_); rintro e w1 ⟨b, rfl, hb, kb, bel⟩; have B1 := Lib.hid bel; have k1 := Blk.below KL.out bel KL.out.lt; have f2 : w1.cell? ⟨w.heap.size, 2, none⟩ = some (.int .i64 d) := k1.cell 2; have f3 : w1.cell? ⟨w.heap.size, 3, none⟩ = some (.int .u64 q) := k1.cell 3; have f4 : w1.cell? ⟨w.heap.size, 4, none⟩ = some (.int .i64 s) := k1.cell 4; have f5 : w1.cell? ⟨w.heap.size, 5, none⟩ = some (.int .u64 z) := k1.cell 5; have K1 := Lib.hid k1; clear kb bel hb k1)
              | (go_at_call 30; (with_reducible refine Calls.mono (K _).out ?_); rintro e w2 ⟨b2, rfl, hb2, kb2, bel2⟩; have B2 := Lib.hid bel2; have k2 := Blk.below K1.out bel2 K1.out.lt; have g4 : w2.cell? ⟨w.heap.size, 4, none⟩ = some (.int .i64 s) := k2.cell 4; have g5 : w2.cell? ⟨w.heap.size, 5, none⟩ = some (.int .u64 z) := k2.cell 5; clear kb2 bel2 hb2 k2))
            go_ret
            exact ⟨retb (by simp), Below.next (Below.next ((Below.refl _ _).alloc (Nat.le_refl _) _) B1.out) B2.out⟩
        · have e5 : decide (s ≤ 10000) = false := decide_eq_false a5
          rw [decide_eq_false (show ¬ (1 ≤ s ∧ s ≤ 10000 ∧ 1 ≤ z ∧ z ≤ 1099511627776) from fun h => a5 h.2.1)]
          go_enter Try.func17, Try.ntmps17
          go_wp2_with (first
            | (go_at_call 29; (with_reducible refine Calls.mono (G _).out ?_); rintro e w1 ⟨b, rfl, hb, kb, bel⟩; have B1 := Lib.hid bel; have k1 := Blk.below KL.out bel KL.out.lt; have f2 : w1.cell? ⟨w.heap.size, 2, none⟩ = some (.int .i64 d) := k1.cell 2; have f3 : w1.cell? ⟨w.heap.size, 3, none⟩ = some (.int .u64 q) := k1.cell 3; have f4 : w1.cell? ⟨w.heap.size, 4, none⟩ = some (.int .i64 s) := k1.cell 4; have f5 : w1.cell? ⟨w.heap.size, 5, none⟩ = some (.int .u64 z) := k1.cell 5; have K1 := Lib.hid k1; clear kb bel hb k1)
            | (go_at_call 30; (with_reducible refine Calls.mono (K _).out ?_); rintro e w2 ⟨b2, rfl, hb2, kb2, bel2⟩; have B2 := Lib.hid bel2; have k2 := Blk.below K1.out bel2 K1.out.lt; have g4 : w2.cell? ⟨w.heap.size, 4, none⟩ = some (.int .i64 s) := k2.cell 4; have g5 : w2.cell? ⟨w.heap.size, 5, none⟩ = some (.int .u64 z) := k2.cell 5; clear kb2 bel2 hb2 k2))
          go_ret
          exact ⟨retb (by simp), Below.next (Below.next ((Below.refl _ _).alloc (Nat.le_refl _) _) B1.out) B2.out⟩
      · have e4 : decide (1 ≤ s) = false := decide_eq_false a4
        rw [decide_eq_false (show ¬ (1 ≤ s ∧ s ≤ 10000 ∧ 1 ≤ z ∧ z ≤ 1099511627776) from fun h => a4 h.1)]
        go_enter Try.func17, Try.ntmps17
        go_wp2_with (first
          | (go_at_call 29; (with_reducible refine Calls.mono (G _).out ?_); rintro e w1 ⟨b, rfl, hb, kb, bel⟩; have B1 := Lib.hid bel; have k1 := Blk.below KL.out bel KL.out.lt; have f2 : w1.cell? ⟨w.heap.size, 2, none⟩ = some (.int .i64 d) := k1.cell 2; have f3 : w1.cell? ⟨w.heap.size, 3, none⟩ = some (.int .u64 q) := k1.cell 3; have f4 : w1.cell? ⟨w.heap.size, 4, none⟩ = some (.int .i64 s) := k1.cell 4; have f5 : w1.cell? ⟨w.heap.size, 5, none⟩ = some (.int .u64 z) := k1.cell 5; have K1 := Lib.hid k1; clear kb bel hb k1)
          | (go_at_call 30; (with_reducible refine Calls.mono (K _).out ?_); rintro e w2 ⟨b2, rfl, hb2, kb2, bel2⟩; have B2 := Lib.hid bel2; have k2 := Blk.below K1.out bel2 K1.out.lt; have g4 : w2.cell? ⟨w.heap.size, 4, none⟩ = some (.int .i64 s) := k2.cell 4; have g5 : w2.cell? ⟨w.heap.size, 5, none⟩ = some (.int .u64 z) := k2.cell 5; clear kb2 bel2 hb2 k2))
        go_ret
        exact ⟨retb (by simp), Below.next (Below.next ((Below.refl _ _).alloc (Nat.le_refl _) _) B1.out) B2.out⟩
  · rw [decide_eq_false a1]
    have G := fun W => Lib.hid (new_no c h W (by omega))
    cases hk : mayK d q with
    | false =>
      have K := fun W => Lib.hid (newK_no d q W d0 d1 q0 q1 hk)
      clear hk a1
      go_enter Try.func17, Try.ntmps17
      go_wp2_with (first
        | (go_at_call 29; (with_reducible refine Calls.mono (G _).out ?_); rintro e w1 ⟨rfl, rfl⟩; have K1 := KL)
        | (go_at_call 30; (with_reducible refine Calls.mono (K _).out ?_); rintro e w2 ⟨rfl, rfl⟩))
      go_ret
      exact ⟨retb (by simp), ((Below.refl _ _).alloc (Nat.le_refl _) _)⟩
    | true =>
      have K := fun W => Lib.hid (newK_any d q W d0 d1 q0 q1 hk)
      clear hk a1
      go_enter Try.func17, Try.ntmps17
      go_wp2_with (first
        | (go_at_call 29; (with_reducible refine Calls.mono (G _).out ?_); rintro e w1 ⟨rfl, rfl⟩; have K1 := KL)
        | (go_at_call 30; (with_reducible refine Calls.mono (K _).out ?_); rintro e w2 ⟨b2, rfl, hb2, kb2, bel2⟩; have B2 := Lib.hid bel2; have k2 := Blk.below K1.out bel2 K1.out.lt; have g4 : w2.cell? ⟨w.heap.size, 4, none⟩ = some (.int .i64 s) := k2.cell 4; have g5 : w2.cell? ⟨w.heap.size, 5, none⟩ = some (.int .u64 z) := k2.cell 5; clear kb2 bel2 hb2 k2))
      go_ret
      exact ⟨retb (by simp), Below.next ((Below.refl _ _).alloc (Nat.le_refl _) _) B2.out⟩
/-- Rules of lines, one behind the other. -/
def Lns (w : World) (A : Option Addr) (n : Nat) (L : Nat → Lp) : Prop :=
  ∀ i, i < n → ∃ b off, A = some ⟨b, off, none⟩ ∧ b < w.heap.size ∧ w.cell? ⟨b, off + i * 6, none⟩ = some (.int .i64 (L i).c) ∧ w.cell? ⟨b, off + i * 6 + 1, none⟩ = some (.int .u64 (L i).h) ∧ w.cell? ⟨b, off + i * 6 + 2, none⟩ = some (.int .i64 (L i).d) ∧ w.cell? ⟨b, off + i * 6 + 3, none⟩ = some (.int .u64 (L i).q) ∧ w.cell? ⟨b, off + i * 6 + 4, none⟩ = some (.int .i64 (L i).s) ∧ w.cell? ⟨b, off + i * 6 + 5, none⟩ = some (.int .u64 (L i).z)
theorem Lns.below {A : Option Addr} {n : Nat} {L : Nat → Lp} (h : Lns w A n L) (o : Below w.heap.size w w') : Lns w' A n L := by
  intro i hi
  obtain ⟨b, off, e, hb, h0, h1, h2, h3, h4, h5⟩ := h i hi
  have k := fun j => o.cell (p := ⟨b, j, none⟩) hb
  exact ⟨b, off, e, Nat.lt_of_lt_of_le hb o.size, (k _).trans h0, (k _).trans h1, (k _).trans h2, (k _).trans h3, (k _).trans h4, (k _).trans h5⟩
def newL (l : Lp) : Ln := ⟨l, ⟨l.c, l.h, 0, 0, 0⟩, ⟨l.d, l.q, l.d, 0, 0⟩, 0, 0, false, 0, 0⟩
def newLs (L : Nat → Lp) : Nat → List Ln
  | 0 => []
  | i + 1 => newLs L i ++ [newL (L i)]
theorem newLs_length (L : Nat → Lp) (n : Nat) : (newLs L n).length = n := by induction n with
  | zero => rfl
  | succ n ih => simp [newLs, ih]
theorem newLs_at (L : Nat → Lp) {n i : Nat} (h : i < n) : (newLs L n)[i]? = some (newL (L i)) := by
  induction n with
  | zero => omega
  | succ n ih =>
    unfold newLs
    by_cases e : i < n
    · rw [List.getElem?_append_left (by rw [newLs_length]; exact e)]; exact ih e
    · obtain rfl : i = n := by omega
      rw [List.getElem?_append_right (by rw [newLs_length]; exact Nat.le_refl _)]; simp [newLs_length]
end
end Go.Proofs.Ytbdhmjlbogjkoaa
