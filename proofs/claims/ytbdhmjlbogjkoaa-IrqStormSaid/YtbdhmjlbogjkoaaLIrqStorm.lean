/- IrqStorm: the first raise beyond what a window lets is a storm, and masks the line, and nothing else; unmasked it goes on, in the next window like a new one. No condition. -/
import Derived.Test.YtbdhmjlbogjkoaaIrqArg
import Derived.Test.YtbdhmjlbogjkoaaIrqLawB
import Derived.Test.YtbdhmjlbogjkoaaArg
import Derived.Test.YtbdhmjlbogjkoaaRows
import Derived.ProofKit
import Derived.OpenShut
import Derived.ShutString
import Derived.ChangeOld
import Derived.Below
import Derived.SizedLaws
namespace Go.Proofs.Ytbdhmjlbogjkoaa
open Go.ChangeShapes Go.WideShapes Go.ChangeAt Go.RowKit
open Go.ChangeMaps (open_string shut_string)
set_option linter.unusedVariables false
set_option linter.unusedSimpArgs false
namespace irqStorm
theorem lns2 (w : World) (l : Lp) : Lns (w.alloc (.cells #[.int .i64 l.c, .int .u64 l.h, .int .i64 l.d, .int .u64 l.q, .int .i64 l.s, .int .u64 l.z, .int .i64 l.c, .int .u64 l.h, .int .i64 l.d, .int .u64 l.q, .int .i64 l.s, .int .u64 l.z] 24)) (some ⟨w.heap.size, 0, none⟩) 2 (fun _ => l) := by
  intro i hi
  have k := Blk.new w 24 (lpCells l ++ lpCells l)
  rcases (show i = 0 ∨ i = 1 by omega) with rfl | rfl
  · exact ⟨w.heap.size, 0, rfl, k.lt, k.cell 0, k.cell 1, k.cell 2, k.cell 3, k.cell 4, k.cell 5⟩
  · exact ⟨w.heap.size, 0, rfl, k.lt, k.cell 6, k.cell 7, k.cell 8, k.cell 9, k.cell 10, k.cell 11⟩
theorem new2_at (l : Lp) (h : l.ok) (W : World) (B : Nat) (hB : W.heap.size = B) :
    Calls Try.prog 11 #[.slice (some ⟨B, 0, none⟩) 2 2] (W.alloc (.cells #[.int .i64 l.c, .int .u64 l.h, .int .i64 l.d, .int .u64 l.q, .int .i64 l.s, .int .u64 l.z, .int .i64 l.c, .int .u64 l.h, .int .i64 l.d, .int .u64 l.q, .int .i64 l.s, .int .u64 l.z] 24)) fun e w' =>
      ∃ p, e = .returned (.tuple #[.pointer (some ⟨p, 0, none⟩), .int .i64 0]) ∧ Ctl w' (fun i => B ≤ i) p [newL l, newL l] 0 ∧ Below W.heap.size W w' := by
  subst hB
  refine (newi_any _ (some ⟨W.heap.size, 0, none⟩) 2 2 (fun _ => l) (Lib.hid (lns2 W l)) (Lib.hid (fun _ _ => h)) (by omega) (by omega)).mono fun e w' hm => ?_
  obtain ⟨p, ds, h1, h2, h3, h4⟩ := hm
  have hz : W.heap.size ≤ (W.alloc (.cells #[.int .i64 l.c, .int .u64 l.h, .int .i64 l.d, .int .u64 l.q, .int .i64 l.s, .int .u64 l.z, .int .i64 l.c, .int .u64 l.h, .int .i64 l.d, .int .u64 l.q, .int .i64 l.s, .int .u64 l.z] 24)).heap.size := by simp
  exact ⟨p, h1, ⟨ds, h2, fun i hi => Nat.le_trans hz (h3 i hi), fun i hi => Nat.le_trans hz (Nat.le_trans h4.size hi)⟩, Below.next ((Below.refl _ _).alloc (Nat.le_refl _) _) h4⟩
theorem ok_two {n m : Ln} {H : Int} (h : n.ok H) (h' : m.ok H) : ∀ x ∈ [n, m], x.ok H := fun x hx => by
  simp at hx
  rcases hx with rfl | rfl
  · exact h
  · exact h'
/-- The first line, behind i - 1 raises. -/
def First (s : Int) (i : Int) (n : Ln) : Prop := (i ≤ s + 1 → n.masked = false ∧ Cw 0 (i - 1) n) ∧ (s + 1 < i → n.masked = true)
def Rel (w : World) (l : Lp) (j : Int) (B p : Nat) (iv : Value) (wr : World) : Prop :=
  ∃ (i : Nat) (n m : Ln), iv = .int .i64 i ∧ 1 ≤ i ∧ i ≤ l.s + j + 1 ∧ Cur l 0 n ∧ Cur l 0 m ∧ First l.s i n ∧ m.masked = false ∧ n.raises ≤ i ∧ m.raises ≤ 5 ∧ total n ≤ i ∧ total m ≤ 5 ∧ Ctl wr (fun i => B ≤ i) p [n, m] 0 ∧ Blk wr w.heap.size 24 (lpCells l) ∧ Below w.heap.size w wr
/-- One raise more. -/
theorem next {l : Lp} {n : Ln} {i : Int} (c : Cur l 0 n) (f : First l.s i n) (hi : 1 ≤ i) (hr : n.raises ≤ i) (ht : total n ≤ i) :
    ∃ m, raiseL 0 (stepL 0 n) = (decide (i = l.s + 1), m) ∧ Cur l 0 m ∧ First l.s (i + 1) m ∧ m.raises ≤ i + 1 ∧ total m ≤ i + 1 := by
  have hz : (0 : Int) / l.z = 0 := by simp
  by_cases h1 : i ≤ l.s
  · obtain ⟨f1, f2⟩ := f.1 (by omega)
    obtain ⟨m, e1, e2, e3, e4, e5, e6, e7, e8⟩ := c.raises (T := 0) (by omega) (by omega) (by omega) f1 hz f2 (by omega)
    exact ⟨m, by rw [e1, decide_eq_false (by omega)], e2, ⟨fun _ => ⟨e6, by rw [show i + 1 - 1 = i - 1 + 1 by omega]; exact e7⟩, fun h => by omega⟩, by omega, by omega⟩
  · by_cases h2 : i = l.s + 1
    · obtain ⟨f1, f2⟩ := f.1 (by omega)
      obtain ⟨m, e1, e2, e3, e4, e5, e6⟩ := c.storms (T := 0) (by omega) (by omega) (by omega) f1 hz f2 (by omega)
      exact ⟨m, by rw [e1, decide_eq_true h2], e2, ⟨fun h => by omega, fun _ => e3⟩, by omega, by omega⟩
    · have f1 := f.2 (by omega)
      obtain ⟨s1, s2, s3, s4, s5, s6, s7⟩ := c.step (T := 0) (by omega) (by omega) (by omega)
      exact ⟨_, by rw [raise_masked (s5.trans f1), decide_eq_false h2], s1, ⟨fun h => by omega, fun _ => s5.trans f1⟩, by omega, by omega⟩
set_option maxRecDepth 100000 in
set_option maxHeartbeats 2000000 in
theorem walk2 (w : World) (l : Lp) (r : l.rng) (u : Int) (u0 : 0 ≤ u) (u1 : u ≤ 255) :
    Calls Try.prog 6 #[.agg #[.int .i64 l.c, .int .u64 l.h, .int .i64 l.d, .int .u64 l.q, .int .i64 l.s, .int .u64 l.z], .int .u8 u] w fun e w' => e = .returned (.bool true) ∧ Below w.heap.size w w' := by
  have M := fun W => Lib.hid (rmay13_any l r W)
  have KL := Lib.hid (Blk.new w 24 (lpCells l))
  have B0 := Lib.hid ((Below.refl w.heap.size w).alloc (Nat.le_refl _) (.cells ⟨lpCells l⟩ 24))
  by_cases hm : mayI l = true
  · have ok := mayI_ok r hm
    rw [hm] at M
    have C := Lib.hid (Cur.new ok)
    have NW := fun W B hB => Lib.hid (new2_at l ok W B hB)
    obtain ⟨-, -, -, -, -, s0, s1, z0, z1⟩ := ok
    obtain ⟨c, h, d, q, s, z⟩ := l
    simp only at *
    have m0 : 0 ≤ u % 9 := Int.emod_nonneg _ (by omega)
    have m1 : u % 9 < 9 := Int.emod_lt_of_pos _ (by omega)
    clear r hm
    by_cases a1 : 100 < s
    · have d1 : decide (100 < s) = true := decide_eq_true a1
      go_enter Try.func6, Try.ntmps6
      go_wp2_with (first
| (go_at_call 9; (with_reducible refine Calls.mono (awake_any _) ?_); rintro e w1 ⟨rfl, b1⟩; have k1 := Blk.below KL.out b1 KL.out.lt; have f0 : w1.cell? ⟨w.heap.size, 0, none⟩ = some (.int .i64 c) := k1.cell 0; have f1 : w1.cell? ⟨w.heap.size, 1, none⟩ = some (.int .u64 h) := k1.cell 1; have f2 : w1.cell? ⟨w.heap.size, 2, none⟩ = some (.int .i64 d) := k1.cell 2; have f3 : w1.cell? ⟨w.heap.size, 3, none⟩ = some (.int .u64 q) := k1.cell 3; have f4 : w1.cell? ⟨w.heap.size, 4, none⟩ = some (.int .i64 s) := k1.cell 4; have f5 : w1.cell? ⟨w.heap.size, 5, none⟩ = some (.int .u64 z) := k1.cell 5; have K1 := Lib.hid k1; have B1 := Lib.hid (Below.next B0.out b1); clear k1 b1)
| (go_at_call 10; (with_reducible refine Calls.mono (M _).out ?_); rintro e w2 ⟨rfl, b2⟩; have k2 := Blk.below K1.out b2 K1.out.lt; have g0 : w2.cell? ⟨w.heap.size, 0, none⟩ = some (.int .i64 c) := k2.cell 0; have g1 : w2.cell? ⟨w.heap.size, 1, none⟩ = some (.int .u64 h) := k2.cell 1; have g2 : w2.cell? ⟨w.heap.size, 2, none⟩ = some (.int .i64 d) := k2.cell 2; have g3 : w2.cell? ⟨w.heap.size, 3, none⟩ = some (.int .u64 q) := k2.cell 3; have g4 : w2.cell? ⟨w.heap.size, 4, none⟩ = some (.int .i64 s) := k2.cell 4; have g5 : w2.cell? ⟨w.heap.size, 5, none⟩ = some (.int .u64 z) := k2.cell 5; have B2 := Lib.hid (Below.next B1.out b2); have K2 := Lib.hid k2; have K2f : w2.frozen? ⟨w.heap.size, 4, none⟩ = false := k2.free 4; clear k2 b2)

        )
      go_ret
      exact ⟨rfl, B2.out⟩
    · have d1 : decide (100 < s) = false := decide_eq_false a1
      go_enter Try.func6, Try.ntmps6
      go_wp2_with (first
| (go_at_call 9; (with_reducible refine Calls.mono (awake_any _) ?_); rintro e w1 ⟨rfl, b1⟩; have k1 := Blk.below KL.out b1 KL.out.lt; have f0 : w1.cell? ⟨w.heap.size, 0, none⟩ = some (.int .i64 c) := k1.cell 0; have f1 : w1.cell? ⟨w.heap.size, 1, none⟩ = some (.int .u64 h) := k1.cell 1; have f2 : w1.cell? ⟨w.heap.size, 2, none⟩ = some (.int .i64 d) := k1.cell 2; have f3 : w1.cell? ⟨w.heap.size, 3, none⟩ = some (.int .u64 q) := k1.cell 3; have f4 : w1.cell? ⟨w.heap.size, 4, none⟩ = some (.int .i64 s) := k1.cell 4; have f5 : w1.cell? ⟨w.heap.size, 5, none⟩ = some (.int .u64 z) := k1.cell 5; have K1 := Lib.hid k1; have B1 := Lib.hid (Below.next B0.out b1); clear k1 b1)
| (go_at_call 10; (with_reducible refine Calls.mono (M _).out ?_); rintro e w2 ⟨rfl, b2⟩; have k2 := Blk.below K1.out b2 K1.out.lt; have g0 : w2.cell? ⟨w.heap.size, 0, none⟩ = some (.int .i64 c) := k2.cell 0; have g1 : w2.cell? ⟨w.heap.size, 1, none⟩ = some (.int .u64 h) := k2.cell 1; have g2 : w2.cell? ⟨w.heap.size, 2, none⟩ = some (.int .i64 d) := k2.cell 2; have g3 : w2.cell? ⟨w.heap.size, 3, none⟩ = some (.int .u64 q) := k2.cell 3; have g4 : w2.cell? ⟨w.heap.size, 4, none⟩ = some (.int .i64 s) := k2.cell 4; have g5 : w2.cell? ⟨w.heap.size, 5, none⟩ = some (.int .u64 z) := k2.cell 5; have B2 := Lib.hid (Below.next B1.out b2); have K2 := Lib.hid k2; have K2f : w2.frozen? ⟨w.heap.size, 4, none⟩ = false := k2.free 4; clear k2 b2)

        | (go_at_call 11; (with_reducible refine Calls.mono (NW _ _ (by simp)).out ?_); rintro e w3 ⟨p, rfl, k3, b3⟩; have K3 := Lib.hid k3; have B3 := Lib.hid (Below.next B2.out b3); have L3 := Lib.hid (Blk.below K2.out b3 K2.out.lt); have hlw := K2.out.lt; clear k3 b3))
      go_loopw [7] (fun iv wr => Hid (Rel w ⟨c, h, d, q, s, z⟩ (u % 9) w2.heap.size p iv wr)) (fun iv _ => (s + u % 9 + 1 - intOf iv).toNat)
      case atStart => exact ⟨1, _, _, rfl, by omega, by simp only; omega, C.out, C.out, ⟨fun _ => ⟨rfl, Cw.new 0⟩, fun h => by simp only at h; omega⟩, rfl, by simp [newL], by simp [newL], by simp [total, newL], by simp [total, newL], K3.out, L3.out, B3.out⟩
      case round =>
        clear C NW M KL B0 g0 g1 g2 g3 g4 g5 f0 f1 f2 f3 f4 f5 K2f K3 B3 L3
        obtain ⟨i, n, m, rfl, hi1, hi, hcn, hcm, hf, hmm, hrn, hrm, htn, htm, hctl, hblk, hbel⟩ := hrel
        have f4 : wr.cell? ⟨w.heap.size, 4, none⟩ = some (.int .i64 s) := hblk.cell 4
        have f5 : wr.cell? ⟨w.heap.size, 5, none⟩ = some (.int .u64 z) := hblk.cell 5
        have CN := Lib.hid hcn
        have CM := Lib.hid hcm
        have CTL := Lib.hid hctl
        have BLK := Lib.hid hblk
        have BEL := Lib.hid hbel
        have HF := Lib.hid hf
        have HMM := Lib.hid hmm
        simp only at hi
        have okn := hcn.ok (by omega) (by omega) (H := 1000) (by omega) (by omega)
        have okm := hcm.ok (by omega) (by omega) (H := 1000) (by omega) (by omega)
        clear hcn hcm hctl hblk hbel hf hmm
        by_cases hil : (i : Int) ≤ s + u % 9
        · obtain ⟨n', e1, e2, e3, e4, e5⟩ := next CN.out HF.out (by omega) hrn htn
          obtain ⟨t1, t2, t3, t4, t5, t6, t7⟩ := CM.out.step (T := 0) (by omega) (by omega) (by omega)
          have RA := Lib.hid (raise_ctl CTL.out (ok_two okn okm) (by omega) (by omega) 0 (by omega) (by omega) (by omega) 0 rfl)
          rw [e1] at RA
          simp only at RA
          have E2 := Lib.hid e2
          have E3 := Lib.hid e3
          have T1 := Lib.hid t1
          have T2 := Lib.hid (show total (stepL 0 m) ≤ 5 by omega)
          have T5 := Lib.hid (t5.trans HMM.out)
          have T7 := Lib.hid (show (stepL 0 m).raises ≤ 5 by omega)
          clear e1 e2 e3 t1 t2 t3 t4 t5 t6 t7 okn okm
          have hd : ((i : Int) == s + 1) = decide ((i : Int) = s + 1) := by rw [Bool.eq_iff_iff]; simp
          have HD := Lib.hid hd
          by_cases his : (i : Int) = s + 1
          all_goals
            first | rw [decide_eq_true his] at RA HD | rw [decide_eq_false his] at RA HD
            have hd1 := HD.out
            clear hd
            go_wp2_with (go_at_call 12; (with_reducible refine Calls.mono RA.out ?_); rintro e w4 ⟨rfl, k4, o4⟩; have K4 := Lib.hid k4; have O4 := Lib.hid o4; have x4 : w4.cell? ⟨w.heap.size, 4, none⟩ = some (.int .i64 s) := (Blk.only BLK.out o4 (by omega)).cell 4; clear k4 o4)
            go_roundw
            case rel => exact ⟨i + 1, n', _, by go_num, by omega, by simp only; omega, E2.out, T1.out, by simpa using E3.out, T5.out, by omega, T7.out, by omega, T2.out, K4.out, Blk.only BLK.out O4.out (by omega), Below.onlyF BEL.out O4.out (fun i hi => by omega)⟩
            case measure => simp [intOf]; omega
        · have hie : (i : Int) = s + u % 9 + 1 := by omega
          have hmk : n.masked = decide (0 < u % 9) := by
            by_cases h9 : 0 < u % 9
            · rw [decide_eq_true h9]; exact HF.out.2 (by simp only; omega)
            · rw [decide_eq_false h9]; exact (HF.out.1 (by simp only; omega)).1
          have S0 := fun W (k : Ctl W (fun i => w2.heap.size ≤ i) p [n, m] 0) => Lib.hid (state_ctl k 0 (n := n) rfl)
          have S1 := fun W (k : Ctl W (fun i => w2.heap.size ≤ i) p [n, m] 0) => Lib.hid (state_ctl k 1 (n := m) rfl)
          rw [hmk] at S0
          rw [HMM.out] at S1
          have c1 := CN.out.step (T := z) (by omega) (by omega) (by omega)
          have c2 := CM.out.step (T := z) (by omega) (by omega) (by omega)
          have c3 := c1.1.mask (by omega) (by omega) false
          have hw := CN.out.w1
          have hzz : z / z = 1 := Int.ediv_self (by omega)
          have hz0 : (0 : Int) / z = 0 := by simp
          simp only at hw
          rw [hz0] at hw
          have okx := c3.1.ok (by omega) (by omega) (H := 1000) (by omega) (by omega)
          have oky := c2.1.ok (by omega) (by omega) (H := 1000) (by omega) (by omega)
          have MK := fun W k => Lib.hid (mask_ctl (w := W) (O := fun i => w2.heap.size ≤ i) (p := p) (ls := [n, m]) (now := 0) k (ok_two okn okm) (by omega) (by omega) z (by omega) (by omega) (by omega) 0 rfl false)
          obtain ⟨x, e1, e2, e3, e4, e5, e6, e7, e8⟩ := c3.1.raises (T := z) (by omega) (Int.le_refl _) (by omega) c3.2.2.2.2.1 hzz (Cw.fresh (by rw [c3.2.2.2.2.2.1, c1.2.2.2.2.2.1]; omega)) (by simp only; omega)
          have RA := fun W k => Lib.hid (raise_ctl (w := W) (O := fun i => w2.heap.size ≤ i) (p := p) (ls := [maskL z false (stepL z n), stepL z m]) (now := z) k (ok_two okx oky) (by omega) (by omega) z (by omega) (by omega) (by omega) 0 rfl)
          rw [e1] at RA
          have S2 := fun W (k : Ctl W (fun i => w2.heap.size ≤ i) p [x, stepL z (stepL z m)] z) => Lib.hid (state_ctl k 0 (n := x) rfl)
          rw [e6] at S2
          clear c1 c2 c3 hw okx oky okn okm e1 e2 e3 e4 e5 e6 e7 e8 hmk HF
          have arms : True := trivial
          by_cases h9 : 0 < u % 9
          all_goals
            first | (rw [decide_eq_true h9] at S0; have d9 : decide (0 < u % 9) = true := decide_eq_true h9) | (rw [decide_eq_false h9] at S0; have d9 : decide (0 < u % 9) = false := decide_eq_false h9)
            clear h9
            by_cases a9 : 549755813888 ≤ z
            all_goals
              first | have d8 : decide (549755813888 ≤ z) = true := decide_eq_true a9 | have d8 : decide (549755813888 ≤ z) = false := decide_eq_false a9
              go_wp2_with (first
                | (go_at_call 15; (with_reducible refine Calls.mono (S0 _ CTL.out).out ?_); rintro e w4 ⟨rfl, k4, o4⟩; have K4 := Lib.hid k4; have O4 := Lib.hid (Below.next BEL.out o4); have L4 := Lib.hid (Blk.below BLK.out o4 BLK.out.lt); clear k4 o4)
                | (go_at_call 15; (with_reducible refine Calls.mono (S1 _ K4.out).out ?_); rintro e w5 ⟨rfl, k5, o5⟩; have K5 := Lib.hid k5; have O5 := Lib.hid (Below.next O4.out o5); have l5 := Blk.below L4.out o5 L4.out.lt; have x5 : w5.cell? ⟨w.heap.size, 5, none⟩ = some (.int .u64 z) := l5.cell 5; have L5 := Lib.hid l5; clear k5 o5 l5)
                | (go_at_call 23; (with_reducible refine Calls.mono (MK _ K5.out).out ?_); rintro e w6 ⟨rfl, k6, o6⟩; have K6 := Lib.hid k6; have O6 := Lib.hid (Below.onlyF O5.out o6 (fun i hi => by omega)); have l6 := Blk.only L5.out o6 (by omega); have x6 : w6.cell? ⟨w.heap.size, 5, none⟩ = some (.int .u64 z) := l6.cell 5; clear k6 o6 l6)
                | (go_at_call 12; (with_reducible refine Calls.mono (RA _ K6.out).out ?_); rintro e w7 ⟨rfl, k7, o7⟩; have K7 := Lib.hid k7; have O7 := Lib.hid (Below.onlyF O6.out o7 (fun i hi => by omega)); clear k7 o7)
                | (go_at_call 15; (with_reducible refine Calls.mono (S2 _ K7.out).out ?_); rintro e w8 ⟨rfl, k8, o8⟩; have O8 := Lib.hid (Below.next O7.out o8); clear k8 o8))
              go_ret
              first | exact ⟨rfl, O8.out⟩ | exact ⟨rfl, O5.out⟩
  · have hm2 : mayI l = false := by simpa using hm
    rw [hm2] at M
    obtain ⟨c, h, d, q, s, z⟩ := l
    simp only at *
    clear r hm hm2
    go_enter Try.func6, Try.ntmps6
    go_wp2_with (first
| (go_at_call 9; (with_reducible refine Calls.mono (awake_any _) ?_); rintro e w1 ⟨rfl, b1⟩; have k1 := Blk.below KL.out b1 KL.out.lt; have f0 : w1.cell? ⟨w.heap.size, 0, none⟩ = some (.int .i64 c) := k1.cell 0; have f1 : w1.cell? ⟨w.heap.size, 1, none⟩ = some (.int .u64 h) := k1.cell 1; have f2 : w1.cell? ⟨w.heap.size, 2, none⟩ = some (.int .i64 d) := k1.cell 2; have f3 : w1.cell? ⟨w.heap.size, 3, none⟩ = some (.int .u64 q) := k1.cell 3; have f4 : w1.cell? ⟨w.heap.size, 4, none⟩ = some (.int .i64 s) := k1.cell 4; have f5 : w1.cell? ⟨w.heap.size, 5, none⟩ = some (.int .u64 z) := k1.cell 5; have K1 := Lib.hid k1; have B1 := Lib.hid (Below.next B0.out b1); clear k1 b1)
| (go_at_call 10; (with_reducible refine Calls.mono (M _).out ?_); rintro e w2 ⟨rfl, b2⟩; have k2 := Blk.below K1.out b2 K1.out.lt; have g0 : w2.cell? ⟨w.heap.size, 0, none⟩ = some (.int .i64 c) := k2.cell 0; have g1 : w2.cell? ⟨w.heap.size, 1, none⟩ = some (.int .u64 h) := k2.cell 1; have g2 : w2.cell? ⟨w.heap.size, 2, none⟩ = some (.int .i64 d) := k2.cell 2; have g3 : w2.cell? ⟨w.heap.size, 3, none⟩ = some (.int .u64 q) := k2.cell 3; have g4 : w2.cell? ⟨w.heap.size, 4, none⟩ = some (.int .i64 s) := k2.cell 4; have g5 : w2.cell? ⟨w.heap.size, 5, none⟩ = some (.int .u64 z) := k2.cell 5; have B2 := Lib.hid (Below.next B1.out b2); have K2 := Lib.hid k2; have K2f : w2.frozen? ⟨w.heap.size, 4, none⟩ = false := k2.free 4; clear k2 b2)

      )
    go_ret
    exact ⟨rfl, B2.out⟩
theorem walk (w : World) (cs : List Value) (ws : AllOk [some .i64, some .u64, some .i64, some .u64, some .i64, some .u64] cs) (u : Int) (wu : (Lit.int .u8 u).wf = true) :
    Calls Try.prog 6 #[.agg ⟨cs⟩, .int .u8 u] w fun e w' => e = .returned (.bool true) ∧ Below w.heap.size w w' := by
  obtain ⟨l, rfl, r⟩ := lineOf ws
  exact walk2 w l r u (bounds_u8 wu).1 (bounds_u8 wu).2
end irqStorm
namespace irqStorm
theorem own : ownKnob Try.prog.godebug = none := by kernel_rfl
set_option maxRecDepth 100000 in
theorem lifted (os : Os) (started : os.Started) (H : Type) (enc : TypeId × Value → H) :
    ReturnsInHanded {} Try.checked os 6 .any (Rows.irqStormSpec.pre6 enc Try.prog Try.f6 Rows.irqStormRow.domain false) (Rows.irqStormSpec.post enc Try.prog Try.f6 false true false false) := by
  refine returnsInHanded_of_change_sized (C := Try.checked) own started (by kernel_rfl) Try.func6
    (ChangeSpec.witness6 (enc := enc) (C := Try.checked) false ⟨#[], #[.agg #[.int .i64 0, .int .u64 0, .int .i64 0, .int .u64 0, .int .i64 0, .int .u64 0], .int .u8 0], []⟩ 8 (by kernel_rfl) (by kernel_rfl) (by kernel_rfl) (by kernel_rfl)) ?_
  intro W base args ds gs before hval0 hW hcnd hsz0 _
  have hsz : (DataW.weightsEach Try.prog (Try.f6.params.toList ++ Rows.irqStormSpec.plain.varTypes Try.prog) (ds ++ gs)).all (· ≤ reachBytes) = true := hsz0
  have hval : ∀ (j : Nat) t v, Try.f6.params[j]? = some t → args[j]? = some v → Value.okWide Try.prog W .any base t v := hval0
  have hW' := hW
  obtain ⟨p, q, hA0, hV, rfl, hfz, hnd⟩ := hW
  have hA : DataW.TrodAll enc Try.prog W 0 (fun _ => true) true Try.f6.params.toList args.toList ds p := hA0
  rw [Try.params6] at hA hval hsz
  obtain ⟨v0, vs0, d0, ds0, p0, q0, hargs, rfl, rfl, h0, r0⟩ := trodAll_cons hA
  obtain ⟨v1, vs1, d1, ds1, p1, q1, rfl, rfl, rfl, h1, r1⟩ := trodAll_cons r0
  obtain ⟨rfl, rfl, rfl⟩ := trodAll_nil r1
  obtain rfl : args = #[v0, v1] := by cases args; simp_all
  obtain ⟨rfl, rfl⟩ := trodVars_none hV
  obtain ⟨c0, rfl, w0⟩ := arg_agg [some .i64, some .u64, some .i64, some .u64, some .i64, some .u64] (by first | exact .inl ⟨_, Try.underlying24⟩ | exact .inr ⟨_, _, Try.underlying24⟩) 6 (by kernel_rfl) (by kernel_rfl) (hval 0 24 v0 rfl rfl) h0
  obtain ⟨a1, rfl, w1⟩ := arg_one Try.underlying5 (hval 1 5 v1 rfl rfl) h1
  clear hA0 hval0 hsz0 hsz
  refine (walk W c0 w0 a1 w1).mono fun e W' ⟨he, bel⟩ => ?_
  subst he
  exact ⟨_, rfl, _, _, _, [], _, [], hW', trodAll_mk1 (shut_bool Try.underlying4 _), (trodAll_cons_mk (Below.trod laidOut (by kernel_rfl) (of_decide_eq_true (by kernel_rfl)) h0 bel (fun x hx => by simpa using hW'.lt x (by simp [hx]))) (trodAll_cons_mk (Below.trod laidOut (by kernel_rfl) (of_decide_eq_true (by kernel_rfl)) h1 bel (fun x hx => by simpa using hW'.lt x (by simp [hx]))) trodAll_mk0)), rfl, bel.frame _, fun h => by cases h⟩
theorem over : Rows.irqStormRow.holds Try.pinned (OpenSpec.ofChange Rows.irqStormSpec) :=
  OpenClaim.holds_of_wide 6 Try.f6 rfl rfl rfl rfl rfl rfl rfl ⟨rfl, rfl, rfl, rfl, rfl⟩ rfl rfl rfl rfl rfl (by kernel_rfl) Try.func6 (by kernel_rfl)
    (of_decide_eq_true (by kernel_rfl)) (by unfold Func.isWrapper; first | (rw [if_pos (by decide +kernel)]; kernel_rfl) | (rw [if_neg (by decide +kernel)]; exact ⟨rfl, rfl⟩))
    (fun os started H enc _ => lifted os started H enc)
end irqStorm
theorem irqStorm_holds : Rows.IrqStormSaid := irqStorm.over
#print axioms irqStorm_holds
end Go.Proofs.Ytbdhmjlbogjkoaa
