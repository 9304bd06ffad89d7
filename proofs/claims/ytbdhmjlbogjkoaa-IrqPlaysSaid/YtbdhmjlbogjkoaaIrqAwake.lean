/- Layer 13 (irq): what the first line of each law asks of closed numbers; whether a line may be, as the reference says it. -/
import Derived.Test.YtbdhmjlbogjkoaaIrqCtl
namespace Go.Proofs.Ytbdhmjlbogjkoaa
open Go.RowKit
set_option linter.unusedVariables false
set_option linter.unusedSimpArgs false
namespace awake13
def l0 : Lp := ⟨2, 10, 5, 10, 3, 100⟩
def n1 : Ln := ⟨l0, ⟨2, 10, 1, 1, 1⟩, ⟨5, 10, 5, 0, 0⟩, 0, 0, false, 0, 1⟩
def n2 : Ln := ⟨l0, ⟨2, 10, 0, 1, 2⟩, ⟨5, 10, 4, 0, 2⟩, 0, 2, false, 0, 2⟩
def n3 : Ln := ⟨l0, ⟨2, 10, 0, 1, 3⟩, ⟨5, 10, 4, 0, 2⟩, 0, 0, false, 0, 2⟩
def n4 : Ln := ⟨l0, ⟨2, 10, 1, 4, 4⟩, ⟨5, 10, 4, 0, 2⟩, 0, 0, false, 0, 3⟩
def n5 : Ln := ⟨l0, ⟨2, 10, 0, 0, 0⟩, ⟨5, 10, 4, 0, 2⟩, 0, 0, true, 0, 4⟩
theorem lok : l0.ok := by constructor <;> decide
theorem r1 : raiseL 1 (stepL 1 (newL l0)) = (false, n1) := by rfl
theorem r2 : raiseL 2 (stepL 2 n1) = (false, n2) := by rfl
theorem r3 : ackL 3 (stepL 3 n2) = ((2, 0), n3) := by rfl
theorem r4 : raiseL 4 (stepL 4 n3) = (false, n4) := by rfl
theorem r5 : raiseL 5 (stepL 5 n4) = (true, n5) := by rfl
theorem o0 : (newL l0).ok 100 := ⟨lok, by constructor <;> decide, by constructor <;> decide, by decide, by decide, by decide, by decide, by decide, by decide, by decide, by decide⟩
theorem o1 : n1.ok 100 := ⟨lok, by constructor <;> decide, by constructor <;> decide, by decide, by decide, by decide, by decide, by decide, by decide, by decide, by decide⟩
theorem o2 : n2.ok 100 := ⟨lok, by constructor <;> decide, by constructor <;> decide, by decide, by decide, by decide, by decide, by decide, by decide, by decide, by decide⟩
theorem o3 : n3.ok 100 := ⟨lok, by constructor <;> decide, by constructor <;> decide, by decide, by decide, by decide, by decide, by decide, by decide, by decide, by decide⟩
theorem o4 : n4.ok 100 := ⟨lok, by constructor <;> decide, by constructor <;> decide, by decide, by decide, by decide, by decide, by decide, by decide, by decide, by decide⟩
theorem lns (w : World) : Lns (w.alloc (.cells #[.int .i64 2, .int .u64 10, .int .i64 5, .int .u64 10, .int .i64 3, .int .u64 100] 24)) (some ⟨w.heap.size, 0, none⟩) 1 (fun _ => l0) := by
  intro i hi
  obtain rfl : i = 0 := by omega
  have k := Blk.new w 24 [.int .i64 2, .int .u64 10, .int .i64 5, .int .u64 10, .int .i64 3, .int .u64 100]
  exact ⟨w.heap.size, 0, rfl, k.lt, k.cell 0, k.cell 1, k.cell 2, k.cell 3, k.cell 4, k.cell 5⟩
end awake13
open awake13 in
set_option maxRecDepth 100000 in
set_option maxHeartbeats 400000 in
theorem awake_any (w : World) : Calls Try.prog 9 #[] w fun e w' => e = .returned (.bool true) ∧ Below w.heap.size w w' := by
  have C0 := fun W => Lib.hid (newi_any (W.alloc (.cells #[.int .i64 2, .int .u64 10, .int .i64 5, .int .u64 10, .int .i64 3, .int .u64 100] 24)) (some ⟨W.heap.size, 0, none⟩) 1 1 (fun _ => l0) (Lib.hid (lns W)) (Lib.hid (fun _ _ => lok)) (by omega) (by omega))
  have C1 := fun W p (k : Ctl W (fun i => w.heap.size + 1 ≤ i) p [newL l0] 0) => Lib.hid (raise_is k o0 (by omega) (by omega) 1 (by omega) (by omega) (by omega) r1)
  have C2 := fun W p (k : Ctl W (fun i => w.heap.size + 1 ≤ i) p [n1] 1) => Lib.hid (raise_is k o1 (by omega) (by omega) 2 (by omega) (by omega) (by omega) r2)
  have C3 := fun W p (k : Ctl W (fun i => w.heap.size + 1 ≤ i) p [n2] 2) => Lib.hid (ack_is k o2 (by omega) (by omega) 3 (by omega) (by omega) (by omega) r3)
  have C4 := fun W p (k : Ctl W (fun i => w.heap.size + 1 ≤ i) p [n3] 3) => Lib.hid (raise_is k o3 (by omega) (by omega) 4 (by omega) (by omega) (by omega) r4)
  have C5 := fun W p (k : Ctl W (fun i => w.heap.size + 1 ≤ i) p [n4] 4) => Lib.hid (raise_is k o4 (by omega) (by omega) 5 (by omega) (by omega) (by omega) r5)
  have P1 := fun W p (k : Ctl W (fun i => w.heap.size + 1 ≤ i) p [n1] 1) => Lib.hid (pending_one k (x := 0) (y := 0) (b := false) (by rfl))
  have P2 := fun W p (k : Ctl W (fun i => w.heap.size + 1 ≤ i) p [n2] 2) => Lib.hid (pending_one k (x := 0) (y := 2) (b := true) (by rfl))
  have S5 := fun W p (k : Ctl W (fun i => w.heap.size + 1 ≤ i) p [n5] 5) => Lib.hid (show Calls Try.prog 15 #[.pointer (some ⟨p, 0, none⟩), .int .i64 0] W fun e w' => e = .returned (.tuple #[.int .i64 0, .int .i64 0, .bool true]) ∧ Ctl w' (fun i => w.heap.size + 1 ≤ i) p [n5] 5 ∧ Below W.heap.size W w' from state_one k)
  have G5 := fun W p (k : Ctl W (fun i => w.heap.size + 1 ≤ i) p [n5] 5) => Lib.hid (show Calls Try.prog 13 #[.pointer (some ⟨p, 0, none⟩), .int .u64 1] W fun e w' => e = .returned (.int .i64 1) ∧ Below W.heap.size W w' from by
    obtain ⟨ds, k1, -, -⟩ := k
    exact go_errI k1 1 (by omega) (by omega) (.inr (.inr (.inr (by omega)))))
  have hsz : (w.alloc (.cells #[.int .i64 2, .int .u64 10, .int .i64 5, .int .u64 10, .int .i64 3, .int .u64 100] 24)).heap.size = w.heap.size + 1 := by simp
  have HSZ := Lib.hid hsz
  clear hsz
  go_enter Try.func9, Try.ntmps9
  go_wp2_with (first
    | (go_at_call 11; (with_reducible refine Calls.mono (C0 _).out ?_); rintro e w1 h
       obtain ⟨p, rfl, k1, b1⟩ := Ctl.made h
       rw [HSZ.out] at k1 b1
       have B1 := Lib.hid (((Below.refl w.heap.size w).alloc (Nat.le_refl _) _).trans (b1.mono (by omega)))
       have K1 := Lib.hid (show Ctl w1 (fun i => w.heap.size + 1 ≤ i) p [newL l0] 0 from k1)
       have Z1 := Lib.hid b1.size
       clear h k1 b1)
    | (go_at_call 12; (with_reducible refine Calls.mono (C1 _ _ K1.out).out ?_); rintro e w2 ⟨rfl, k2, o2⟩; have K2 := Lib.hid k2; have O2 := Lib.hid o2; clear k2 o2)
    | (go_at_call 25; (with_reducible refine Calls.mono (P1 _ _ K2.out).out ?_); rintro e w3 ⟨rfl, k3, o3⟩; have K3 := Lib.hid k3; have O3 := Lib.hid o3; clear k3 o3)
    | (go_at_call 12; (with_reducible refine Calls.mono (C2 _ _ K3.out).out ?_); rintro e w4 ⟨rfl, k4, o4⟩; have K4 := Lib.hid k4; have O4 := Lib.hid o4; clear k4 o4)
    | (go_at_call 25; (with_reducible refine Calls.mono (P2 _ _ K4.out).out ?_); rintro e w5 ⟨rfl, k5, o5⟩; have K5 := Lib.hid k5; have O5 := Lib.hid o5; clear k5 o5)
    | (go_at_call 14; (with_reducible refine Calls.mono (C3 _ _ K5.out).out ?_); rintro e w6 ⟨rfl, k6, o6⟩; have K6 := Lib.hid k6; have O6 := Lib.hid o6; clear k6 o6)
    | (go_at_call 12; (with_reducible refine Calls.mono (C4 _ _ K6.out).out ?_); rintro e w7 ⟨rfl, k7, o7⟩; have K7 := Lib.hid k7; have O7 := Lib.hid o7; clear k7 o7)
    | (go_at_call 12; (with_reducible refine Calls.mono (C5 _ _ K7.out).out ?_); rintro e w8 ⟨rfl, k8, o8⟩; have K8 := Lib.hid k8; have O8 := Lib.hid o8; clear k8 o8)
    | (go_at_call 15; (with_reducible refine Calls.mono (S5 _ _ K8.out).out ?_); rintro e w9 ⟨rfl, k9, o9⟩; have K9 := Lib.hid k9; have O9 := Lib.hid o9; clear k9 o9)
    | (go_at_call 13; (with_reducible refine Calls.mono (G5 _ _ K9.out).out ?_); rintro e w10 ⟨rfl, o10⟩; have O10 := Lib.hid o10; clear o10))
  go_ret
  have u1 := Below.onlyF B1.out O2.out (fun i h => Nat.le_of_succ_le h)
  have u2 := Below.onlyF (Below.next u1 O3.out) O4.out (fun i h => Nat.le_of_succ_le h)
  have u3 := Below.onlyF (Below.next u2 O5.out) O6.out (fun i h => Nat.le_of_succ_le h)
  have u4 := Below.onlyF (Below.onlyF u3 O7.out (fun i h => Nat.le_of_succ_le h)) O8.out (fun i h => Nat.le_of_succ_le h)
  exact ⟨rfl, Below.next (Below.next u4 O9.out) O10.out⟩
theorem rmay11_any (c h : Int) (w : World) : Calls Try.prog 27 #[.int .i64 c, .int .u64 h] w fun e w' => e = .returned (.bool (decide (1 ≤ c ∧ c ≤ 1000 ∧ h ≤ 1099511627776))) ∧ w = w' := by
  by_cases z1 : 1 ≤ c
  · by_cases z2 : c ≤ 1000
    · by_cases z3 : h ≤ 1099511627776
      all_goals
        go_enter Try.func27, Try.ntmps27
        go_wp2
        go_ret
        exact ⟨retb (by simp [z1, z2, z3]), rfl⟩
    · go_enter Try.func27, Try.ntmps27
      go_wp2
      go_ret
      exact ⟨retb (by simp; omega), rfl⟩
  · go_enter Try.func27, Try.ntmps27
    go_wp2
    go_ret
    exact ⟨retb (by simp; omega), rfl⟩
theorem rmay12_any (d q : Int) (hq : 0 ≤ q) (w : World) : Calls Try.prog 28 #[.int .i64 d, .int .u64 q] w fun e w' => e = .returned (.bool (mayK d q)) ∧ w = w' := by
  unfold mayK
  by_cases z1 : 0 < d
  · by_cases z2 : d ≤ 1000
    · by_cases z3 : 0 < q
      · by_cases z4 : q ≤ 1099511627776
        all_goals
          go_enter Try.func28, Try.ntmps28
          go_wp2
          go_ret
          exact ⟨retb (by simp; omega), rfl⟩
      · go_enter Try.func28, Try.ntmps28
        go_wp2
        go_ret
        exact ⟨retb (by simp; omega), rfl⟩
    · go_enter Try.func28, Try.ntmps28
      go_wp2
      go_ret
      exact ⟨retb (by simp; omega), rfl⟩
  · go_enter Try.func28, Try.ntmps28
    go_wp2
    go_ret
    exact ⟨retb (by simp; omega), rfl⟩
set_option maxHeartbeats 1000000 in
theorem rmay13_any (l : Lp) (r : l.rng) (w : World) :
    Calls Try.prog 10 #[.agg #[.int .i64 l.c, .int .u64 l.h, .int .i64 l.d, .int .u64 l.q, .int .i64 l.s, .int .u64 l.z]] w fun e w' => e = .returned (.bool (mayI l)) ∧ Below w.heap.size w w' := by
  have q0 := r.q0
  clear r
  obtain ⟨c, h, d, q, s, z⟩ := l
  have hm : mayI ⟨c, h, d, q, s, z⟩ = (decide (1 ≤ c ∧ c ≤ 1000 ∧ h ≤ 1099511627776) && mayK d q && decide (1 ≤ s ∧ s ≤ 10000 ∧ 1 ≤ z ∧ z ≤ 1099511627776)) := rfl
  simp only at *
  rw [hm]
  clear hm
  have A := fun W => Lib.hid (rmay11_any c h W)
  have B := fun W => Lib.hid (rmay12_any d q q0 W)
  generalize decide (1 ≤ c ∧ c ≤ 1000 ∧ h ≤ 1099511627776) = ba at *
  generalize mayK d q = bk at *
  cases ba with
  | false =>
    go_enter Try.func10, Try.ntmps10
    go_wp2_with (first
      | (go_at_call 27; (with_reducible refine Calls.mono (A _).out ?_); rintro e w1 ⟨rfl, rfl⟩))
    go_ret
    exact ⟨retb (by simp), (Below.refl _ _).alloc (Nat.le_refl _) _⟩
  | true =>
    cases bk with
    | false =>
      go_enter Try.func10, Try.ntmps10
      go_wp2_with (first
        | (go_at_call 27; (with_reducible refine Calls.mono (A _).out ?_); rintro e w1 ⟨rfl, rfl⟩)
        | (go_at_call 28; (with_reducible refine Calls.mono (B _).out ?_); rintro e w1 ⟨rfl, rfl⟩))
      go_ret
      exact ⟨retb (by simp), (Below.refl _ _).alloc (Nat.le_refl _) _⟩
    | true =>
      by_cases a4 : 1 ≤ s
      · have e4 : decide (1 ≤ s) = true := decide_eq_true a4
        by_cases a5 : s ≤ 10000
        · have e5 : decide (s ≤ 10000) = true := decide_eq_true a5
          by_cases a6 : 1 ≤ z
          · have e6 : decide (1 ≤ z) = true := decide_eq_true a6
            by_cases a7 : z ≤ 1099511627776
            · have e7 : decide (z ≤ 1099511627776) = true := decide_eq_true a7
              go_enter Try.func10, Try.ntmps10
              go_wp2_with (first
                | (go_at_call 27; (with_reducible refine Calls.mono (A _).out ?_); rintro e w1 ⟨rfl, rfl⟩)
                | (go_at_call 28; (with_reducible refine Calls.mono (B _).out ?_); rintro e w1 ⟨rfl, rfl⟩))
              go_ret
              exact ⟨retb (by simp; omega), (Below.refl _ _).alloc (Nat.le_refl _) _⟩
            · have e7 : decide (z ≤ 1099511627776) = false := decide_eq_false a7
              go_enter Try.func10, Try.ntmps10
              go_wp2_with (first
                | (go_at_call 27; (with_reducible refine Calls.mono (A _).out ?_); rintro e w1 ⟨rfl, rfl⟩)
                | (go_at_call 28; (with_reducible refine Calls.mono (B _).out ?_); rintro e w1 ⟨rfl, rfl⟩))
              go_ret
              exact ⟨retb (by simp; omega), (Below.refl _ _).alloc (Nat.le_refl _) _⟩
          · have e6 : decide (1 ≤ z) = false := decide_eq_false a6
            go_enter Try.func10, Try.ntmps10
            go_wp2_with (first
              | (go_at_call 27; (with_reducible refine Calls.mono (A _).out ?_); rintro e w1 ⟨rfl, rfl⟩)
              | (go_at_call 28; (with_reducible refine Calls.mono (B _).out ?_); rintro e w1 ⟨rfl, rfl⟩))
            go_ret
            exact ⟨retb (by simp; omega), (Below.refl _ _).alloc (Nat.le_refl _) _⟩
        · have e5 : decide (s ≤ 10000) = false := decide_eq_false a5
          go_enter Try.func10, Try.ntmps10
          go_wp2_with (first
            | (go_at_call 27; (with_reducible refine Calls.mono (A _).out ?_); rintro e w1 ⟨rfl, rfl⟩)
            | (go_at_call 28; (with_reducible refine Calls.mono (B _).out ?_); rintro e w1 ⟨rfl, rfl⟩))
          go_ret
          exact ⟨retb (by simp; omega), (Below.refl _ _).alloc (Nat.le_refl _) _⟩
      · have e4 : decide (1 ≤ s) = false := decide_eq_false a4
        go_enter Try.func10, Try.ntmps10
        go_wp2_with (first
          | (go_at_call 27; (with_reducible refine Calls.mono (A _).out ?_); rintro e w1 ⟨rfl, rfl⟩)
          | (go_at_call 28; (with_reducible refine Calls.mono (B _).out ?_); rintro e w1 ⟨rfl, rfl⟩))
        go_ret
        exact ⟨retb (by simp; omega), (Below.refl _ _).alloc (Nat.le_refl _) _⟩
end Go.Proofs.Ytbdhmjlbogjkoaa
