/- IrqWindows: as many raises as a window lets, in each of several windows, are no storm; what was gathered is acknowledged, as far as there are tokens. No condition. -/
import Derived.Test.YtbdhmjlbogjkoaaIrqArg
import Derived.Test.YtbdhmjlbogjkoaaArg
import Derived.Test.YtbdhmjlbogjkoaaRows
import Derived.ProofKit
import Derived.OpenShut
import Derived.ShutString
import Derived.ChangeOld
import Derived.Below
import Derived.SizedLaws
namespace Go.Proofs.Ytbdhmjlbogjkoaa
open Go.ChangeShapes Go.WideShapes Go.ChangeAt Go.RowKit
open Go.ChangeMaps (open_string shut_string)
set_option linter.unusedVariables false
set_option linter.unusedSimpArgs false
namespace irqWindows
def RelW (w : World) (l : Lp) (B p : Nat) (rv av wv : Value) (wr : World) : Prop :=
  ∃ (k : Nat) (n : Ln) (N R ac : Int), wv = .int .u64 k ∧ rv = .int .i64 R ∧ av = .int .i64 ac ∧ k ≤ 10 ∧ 0 ≤ ac ∧ R ≤ 30 * k ∧ total n + ac = R ∧ Cur l N n ∧ 0 ≤ N ∧ N ≤ k * l.z ∧ n.masked = false ∧ Cw k 0 n ∧ n.raises ≤ 30 ∧ Ctl wr (fun i => B ≤ i) p [n] N ∧ Blk wr w.heap.size 24 (lpCells l) ∧ Below w.heap.size w wr
def RelI (w : World) (l : Lp) (B p : Nat) (k : Nat) (T ac : Int) (rv iv : Value) (wr : World) : Prop :=
  ∃ (i : Nat) (n : Ln) (N R : Int), iv = .int .i64 i ∧ rv = .int .i64 R ∧ i ≤ l.s ∧ R ≤ 30 * k + i ∧ total n + ac = R ∧ Cur l N n ∧ 0 ≤ N ∧ N ≤ T ∧ n.masked = false ∧ Cw k i n ∧ n.raises ≤ 30 ∧ Ctl wr (fun i => B ≤ i) p [n] N ∧ Blk wr w.heap.size 24 (lpCells l) ∧ Below w.heap.size w wr
set_option maxRecDepth 100000 in
set_option maxHeartbeats 4000000 in
theorem walk2 (w : World) (l : Lp) (r : l.rng) (u : Int) (u0 : 0 ≤ u) (u1 : u ≤ 255) :
    Calls Try.prog 4 #[.agg #[.int .i64 l.c, .int .u64 l.h, .int .i64 l.d, .int .u64 l.q, .int .i64 l.s, .int .u64 l.z], .int .u8 u] w fun e w' => e = .returned (.bool true) ∧ Below w.heap.size w w' := by
  have M := fun W => Lib.hid (rmay13_any l r W)
  have KL := Lib.hid (Blk.new w 24 (lpCells l))
  have B0 := Lib.hid ((Below.refl w.heap.size w).alloc (Nat.le_refl _) (.cells ⟨lpCells l⟩ 24))
  by_cases hm : mayI l = true
  · have ok := mayI_ok r hm
    have C := Lib.hid (Cur.new ok)
    have NW := fun W => Lib.hid (new1_any l ok W)
    rw [hm] at M
    obtain ⟨-, -, -, -, -, s0, s1, z0, z1⟩ := ok
    obtain ⟨c, h, d, q, s, z⟩ := l
    simp only at *
    clear r hm
    by_cases a1 : 30 < s
    · have d1 : decide (30 < s) = true := decide_eq_true a1
      go_enter Try.func4, Try.ntmps4
      go_wp2_with (first
| (go_at_call 9; (with_reducible refine Calls.mono (awake_any _) ?_); rintro e w1 ⟨rfl, b1⟩; have k1 := Blk.below KL.out b1 KL.out.lt; have f0 : w1.cell? ⟨w.heap.size, 0, none⟩ = some (.int .i64 c) := k1.cell 0; have f1 : w1.cell? ⟨w.heap.size, 1, none⟩ = some (.int .u64 h) := k1.cell 1; have f2 : w1.cell? ⟨w.heap.size, 2, none⟩ = some (.int .i64 d) := k1.cell 2; have f3 : w1.cell? ⟨w.heap.size, 3, none⟩ = some (.int .u64 q) := k1.cell 3; have f4 : w1.cell? ⟨w.heap.size, 4, none⟩ = some (.int .i64 s) := k1.cell 4; have f5 : w1.cell? ⟨w.heap.size, 5, none⟩ = some (.int .u64 z) := k1.cell 5; have K1 := Lib.hid k1; have B1 := Lib.hid (Below.next B0.out b1); clear k1 b1)
| (go_at_call 10; (with_reducible refine Calls.mono (M _).out ?_); rintro e w2 ⟨rfl, b2⟩; have k2 := Blk.below K1.out b2 K1.out.lt; have g0 : w2.cell? ⟨w.heap.size, 0, none⟩ = some (.int .i64 c) := k2.cell 0; have g1 : w2.cell? ⟨w.heap.size, 1, none⟩ = some (.int .u64 h) := k2.cell 1; have g2 : w2.cell? ⟨w.heap.size, 2, none⟩ = some (.int .i64 d) := k2.cell 2; have g3 : w2.cell? ⟨w.heap.size, 3, none⟩ = some (.int .u64 q) := k2.cell 3; have g4 : w2.cell? ⟨w.heap.size, 4, none⟩ = some (.int .i64 s) := k2.cell 4; have g5 : w2.cell? ⟨w.heap.size, 5, none⟩ = some (.int .u64 z) := k2.cell 5; have B2 := Lib.hid (Below.next B1.out b2); have K2 := Lib.hid k2; have K2f : w2.frozen? ⟨w.heap.size, 4, none⟩ = false := k2.free 4; clear k2 b2)

        )
      go_ret
      exact ⟨rfl, B2.out⟩
    · have d1 : decide (30 < s) = false := decide_eq_false a1
      by_cases a2 : 1048576 < z
      · have d2 : decide (1048576 < z) = true := decide_eq_true a2
        go_enter Try.func4, Try.ntmps4
        go_wp2_with (first
| (go_at_call 9; (with_reducible refine Calls.mono (awake_any _) ?_); rintro e w1 ⟨rfl, b1⟩; have k1 := Blk.below KL.out b1 KL.out.lt; have f0 : w1.cell? ⟨w.heap.size, 0, none⟩ = some (.int .i64 c) := k1.cell 0; have f1 : w1.cell? ⟨w.heap.size, 1, none⟩ = some (.int .u64 h) := k1.cell 1; have f2 : w1.cell? ⟨w.heap.size, 2, none⟩ = some (.int .i64 d) := k1.cell 2; have f3 : w1.cell? ⟨w.heap.size, 3, none⟩ = some (.int .u64 q) := k1.cell 3; have f4 : w1.cell? ⟨w.heap.size, 4, none⟩ = some (.int .i64 s) := k1.cell 4; have f5 : w1.cell? ⟨w.heap.size, 5, none⟩ = some (.int .u64 z) := k1.cell 5; have K1 := Lib.hid k1; have B1 := Lib.hid (Below.next B0.out b1); clear k1 b1)
| (go_at_call 10; (with_reducible refine Calls.mono (M _).out ?_); rintro e w2 ⟨rfl, b2⟩; have k2 := Blk.below K1.out b2 K1.out.lt; have g0 : w2.cell? ⟨w.heap.size, 0, none⟩ = some (.int .i64 c) := k2.cell 0; have g1 : w2.cell? ⟨w.heap.size, 1, none⟩ = some (.int .u64 h) := k2.cell 1; have g2 : w2.cell? ⟨w.heap.size, 2, none⟩ = some (.int .i64 d) := k2.cell 2; have g3 : w2.cell? ⟨w.heap.size, 3, none⟩ = some (.int .u64 q) := k2.cell 3; have g4 : w2.cell? ⟨w.heap.size, 4, none⟩ = some (.int .i64 s) := k2.cell 4; have g5 : w2.cell? ⟨w.heap.size, 5, none⟩ = some (.int .u64 z) := k2.cell 5; have B2 := Lib.hid (Below.next B1.out b2); have K2 := Lib.hid k2; have K2f : w2.frozen? ⟨w.heap.size, 4, none⟩ = false := k2.free 4; clear k2 b2)

          )
        go_ret
        exact ⟨rfl, B2.out⟩
      · have d2 : decide (1048576 < z) = false := decide_eq_false a2
        go_enter Try.func4, Try.ntmps4
        go_wp2_with (first
| (go_at_call 9; (with_reducible refine Calls.mono (awake_any _) ?_); rintro e w1 ⟨rfl, b1⟩; have k1 := Blk.below KL.out b1 KL.out.lt; have f0 : w1.cell? ⟨w.heap.size, 0, none⟩ = some (.int .i64 c) := k1.cell 0; have f1 : w1.cell? ⟨w.heap.size, 1, none⟩ = some (.int .u64 h) := k1.cell 1; have f2 : w1.cell? ⟨w.heap.size, 2, none⟩ = some (.int .i64 d) := k1.cell 2; have f3 : w1.cell? ⟨w.heap.size, 3, none⟩ = some (.int .u64 q) := k1.cell 3; have f4 : w1.cell? ⟨w.heap.size, 4, none⟩ = some (.int .i64 s) := k1.cell 4; have f5 : w1.cell? ⟨w.heap.size, 5, none⟩ = some (.int .u64 z) := k1.cell 5; have K1 := Lib.hid k1; have B1 := Lib.hid (Below.next B0.out b1); clear k1 b1)
| (go_at_call 10; (with_reducible refine Calls.mono (M _).out ?_); rintro e w2 ⟨rfl, b2⟩; have k2 := Blk.below K1.out b2 K1.out.lt; have g0 : w2.cell? ⟨w.heap.size, 0, none⟩ = some (.int .i64 c) := k2.cell 0; have g1 : w2.cell? ⟨w.heap.size, 1, none⟩ = some (.int .u64 h) := k2.cell 1; have g2 : w2.cell? ⟨w.heap.size, 2, none⟩ = some (.int .i64 d) := k2.cell 2; have g3 : w2.cell? ⟨w.heap.size, 3, none⟩ = some (.int .u64 q) := k2.cell 3; have g4 : w2.cell? ⟨w.heap.size, 4, none⟩ = some (.int .i64 s) := k2.cell 4; have g5 : w2.cell? ⟨w.heap.size, 5, none⟩ = some (.int .u64 z) := k2.cell 5; have B2 := Lib.hid (Below.next B1.out b2); have K2 := Lib.hid k2; have K2f : w2.frozen? ⟨w.heap.size, 4, none⟩ = false := k2.free 4; clear k2 b2)

          | (go_at_call 11; (with_reducible refine Calls.mono (NW _).out ?_); rintro e w3 ⟨p, rfl, k3, b3⟩; have K3 := Lib.hid k3; have B3 := Lib.hid b3; have L3 := Lib.hid (Blk.below K2.out b3 K2.out.lt); have hlw := K2.out.lt; clear k3 b3))
        go_loopw [7, 8, 9] (fun rv av wv wr => Hid (RelW w ⟨c, h, d, q, s, z⟩ w2.heap.size p rv av wv wr)) (fun _ _ wv _ => 10 - (intOf wv).toNat)
        case atStart => exact ⟨0, _, 0, 0, 0, rfl, rfl, rfl, by omega, by omega, by omega, by simp [total, newL], C.out, by omega, by simp, rfl, Cw.of rfl rfl, by simp [newL], K3.out, L3.out, Below.next B2.out B3.out⟩
        case round =>
          obtain ⟨k, n, N, R, ac, rfl, rfl, rfl, hk, ha0, hR, htot, hcur, hN0, hN, hmask, hcw, hra, hctl, hblk, hbel⟩ := hrel
          have hlz := hblk.lt
          have f4 : wr.cell? ⟨w.heap.size, 4, none⟩ = some (.int .i64 s) := hblk.cell 4
          have f5 : wr.cell? ⟨w.heap.size, 5, none⟩ = some (.int .u64 z) := hblk.cell 5
          have hb := hcur.le_bound
          have CUR := Lib.hid hcur
          have CTL := Lib.hid hctl
          have BLK := Lib.hid hblk
          have BEL := Lib.hid hbel
          have CW := Lib.hid hcw
          have HM := Lib.hid hmask
          have TOT := Lib.hid htot
          clear hcur hctl hblk hbel hcw C NW M K3 L3 B3 KL B0 g0 g1 g2 g3 g4 g5 f0 f1 f2 f3 K2f
          by_cases hk10 : k < 10
          · have hk2 : (k : Int) < 10 := by omega
            have kz0 : 0 ≤ (k : Int) * z := Int.mul_nonneg (by omega) (by omega)
            have kz1 : (k : Int) * z ≤ 10485760 := by
              have h1 : (k : Int) * z ≤ 10 * z := Int.mul_le_mul_of_nonneg_right (by omega) (by omega)
              omega
            have m0 : 0 ≤ u % z := Int.emod_nonneg _ (by omega)
            have m1 : u % z < z := Int.emod_lt_of_pos _ (by omega)
            have hT := div_at k z (u % z) m0 m1
            have HT := Lib.hid hT
            clear hT htot hmask
            generalize hkz : (k : Int) * z = kz at *
            have HKZ := Lib.hid hkz
            have W1 : Hid (IntKind.u64.wrap ((k : Int) * z) = kz) := by
              have h : IntKind.u64.wrap ((k : Int) * z) = kz := by rw [IntKind.wrap_u64, hkz]; omega
              exact h
            have W2 : Hid (IntKind.u64.wrap (kz + u % z) = kz + u % z) := by
              have h : IntKind.u64.wrap (kz + u % z) = kz + u % z := by rw [IntKind.wrap_u64]; omega
              exact h
            clear hkz
            go_wp2_with fail
            go_loopw [7, 10] (fun rv iv wr => Hid (RelI w ⟨c, h, d, q, s, z⟩ w2.heap.size p k (kz + u % z) ac rv iv wr)) (fun _ iv _ => (s - intOf iv).toNat)
            case atStart => exact ⟨0, n, N, R, rfl, rfl, by simp only; omega, by omega, TOT.out, CUR.out, hN0, by omega, HM.out, CW.out, hra, CTL.out, BLK.out, BEL.out⟩
            case round =>
              clear TOT CUR hN HM CW hra CTL BLK BEL f4 f5 hR hb hN0
              obtain ⟨i, n, N, R, rfl, rfl, hi, hR, htot, hcur, hN0, hN, hmask, hcw, hra, hctl, hblk, hbel⟩ := hrel
              have f4 : wr.cell? ⟨w.heap.size, 4, none⟩ = some (.int .i64 s) := hblk.cell 4
              have f5 : wr.cell? ⟨w.heap.size, 5, none⟩ = some (.int .u64 z) := hblk.cell 5
              have hb := hcur.le_bound
              have hlz := hblk.lt
              have CUR := Lib.hid hcur
              have CTL := Lib.hid hctl
              have BLK := Lib.hid hblk
              have BEL := Lib.hid hbel
              have CW := Lib.hid hcw
              have HM := Lib.hid hmask
              have TOT := Lib.hid htot
              simp only at hi
              have hR0 : 0 ≤ R := by omega
              have hR1 : R ≤ 1000 := by omega
              have htn : total n ≤ 1000 := by omega
              clear hcur hctl hblk hbel
              by_cases his : (i : Int) < s
              · obtain ⟨m, e1, e2, e3, e4, e5, e6, e7, e8⟩ := CUR.out.raises hN0 hN (by omega) hmask HT.out hcw (by simp only; omega)
                have RA := fun W k => Lib.hid (raise_is (w := W) (O := fun i => w2.heap.size ≤ i) (p := p) (now := N) k (H := 1000) (CUR.out.ok hN0 (by omega) (by omega) (by omega)) (by omega) (by omega) (kz + u % z) hN (by omega) (by omega) e1)
                have E2 := Lib.hid e2
                have E3 := Lib.hid e3
                have E6 := Lib.hid e6
                have E7 := Lib.hid e7
                have E8 := Lib.hid e8
                clear e1 e2 e3 e4 e5 e6 e7 e8 hcw hmask htot CUR CW HM
                have v1 := W1.out
                have v2 := W2.out
                go_wp2_with fail
                go_region_with (go_at_call 12; (with_reducible refine Calls.mono (RA _ CTL.out.drew).out ?_); rintro e w4 ⟨rfl, k4, o4⟩; have K4 := Lib.hid k4; have O4 := Lib.hid o4; clear k4 o4)
                all_goals
                  clear v1 v2
                  go_wp2_with fail
                  go_roundw
                  case rel => exact ⟨i + 1, m, _, R + 1, by go_num, rfl, by simp only; omega, by omega, by have := E3.out; have := TOT.out; omega, E2.out, by omega, Int.le_refl _, E6.out, by simpa using E7.out, by have := E8.out; omega, K4.out, Blk.only BLK.out.drew O4.out (by omega), Below.onlyF (Below.drewN' BEL.out 1) O4.out (fun i hi => by omega)⟩
                  case measure => simp [intOf]; omega
              · have hkn : IntKind.u64.wrap (kz + z - 1) = kz + z - 1 := by rw [IntKind.wrap_u64]; omega
                obtain ⟨x, y, m, e1, e2, e3, e4, e5, e6, e7, e8⟩ := CUR.out.acks (T := kz + z - 1) hN0 (by omega) (by omega) hmask
                have AC := Lib.hid (ack_is CTL.out (H := 1000) (CUR.out.ok hN0 (by omega) (by omega) (by omega)) (by omega) (by omega) (kz + z - 1) (by omega) (by omega) (by omega) e1)
                have hk3 : ((k + 1 : Nat) : Int) * z = kz + z := by rw [← HKZ.out, Int.natCast_add, Int.add_mul]; simp
                have HK3 := Lib.hid hk3
                have hdiv : N / z ≤ k := by
                  have h1 : N / z ≤ (kz + u % z) / z := Int.ediv_le_ediv (by omega) hN
                  have h2 := HT.out
                  omega
                have hw := CUR.out.w1
                simp only at hw
                have hwk : n.win ≤ k := by omega
                have hcm := e2.le_bound
                have hx1 : ac + x ≤ 1000 := by omega
                have E2 := Lib.hid e2
                have E3 := Lib.hid e3
                have E4 := Lib.hid e4
                have E5 := Lib.hid e5
                have E6 := Lib.hid e6
                have E8 := Lib.hid e8
                clear e1 e2 e3 e4 e5 e6 e7 hcw hmask htot CTL CW HM hk3 hdiv hkn hw hcm
                rcases e8 with ⟨rfl, hx, -⟩ | ⟨rfl, rfl, -⟩
                all_goals
                  clear E8
                  have v1 := W1.out
                  go_wp2_with (first
                    | (go_at_call 14; (with_reducible refine Calls.mono AC.out ?_); rintro e w4 ⟨rfl, k4, o4⟩; have K4 := Lib.hid k4; have O4 := Lib.hid o4; clear k4 o4))
                  clear v1
                  go_roundw
                  case rel => exact ⟨k + 1, m, _, R, _, by go_num, rfl, rfl, by omega, by omega, by omega, by have := E3.out; have := TOT.out; omega, E2.out, by omega, by simp only [HK3.out]; omega, E4.out, Cw.fresh (by rw [E5.out]; omega), by rw [E6.out]; exact hra, K4.out, Blk.only BLK.out O4.out (by omega), Below.onlyF BEL.out O4.out (fun i hi => by omega)⟩
                  case measure => simp [intOf]; omega
          · have hk2 : ¬ (k : Int) < 10 := by omega
            have hR0 : 0 ≤ R := by omega
            have hf : ac + n.held + n.pends ≤ R := by omega
            have hh1 : n.held ≤ 1000 := by omega
            have hh2 : n.pends ≤ 1000 := by omega
            have hh3 : ac ≤ 1000 := by omega
            have d3 : decide (ac + n.held + n.pends ≤ R) = true := decide_eq_true hf
            have SS := Lib.hid (state_one CTL.out)
            rw [hmask] at SS
            have h0 := CUR.out.e0
            have h1 := CUR.out.p0
            clear htot hmask hf
            go_wp2_with (first
              | (go_at_call 15; (with_reducible refine Calls.mono SS.out ?_); rintro e w4 ⟨rfl, k4, o4⟩; have K4 := Lib.hid k4; have O4 := Lib.hid o4; clear k4 o4))
            go_ret
            exact ⟨rfl, Below.next BEL.out O4.out⟩
  · have hm2 : mayI l = false := by simpa using hm
    rw [hm2] at M
    obtain ⟨c, h, d, q, s, z⟩ := l
    simp only at *
    clear r hm hm2
    go_enter Try.func4, Try.ntmps4
    go_wp2_with (first
| (go_at_call 9; (with_reducible refine Calls.mono (awake_any _) ?_); rintro e w1 ⟨rfl, b1⟩; have k1 := Blk.below KL.out b1 KL.out.lt; have f0 : w1.cell? ⟨w.heap.size, 0, none⟩ = some (.int .i64 c) := k1.cell 0; have f1 : w1.cell? ⟨w.heap.size, 1, none⟩ = some (.int .u64 h) := k1.cell 1; have f2 : w1.cell? ⟨w.heap.size, 2, none⟩ = some (.int .i64 d) := k1.cell 2; have f3 : w1.cell? ⟨w.heap.size, 3, none⟩ = some (.int .u64 q) := k1.cell 3; have f4 : w1.cell? ⟨w.heap.size, 4, none⟩ = some (.int .i64 s) := k1.cell 4; have f5 : w1.cell? ⟨w.heap.size, 5, none⟩ = some (.int .u64 z) := k1.cell 5; have K1 := Lib.hid k1; have B1 := Lib.hid (Below.next B0.out b1); clear k1 b1)
| (go_at_call 10; (with_reducible refine Calls.mono (M _).out ?_); rintro e w2 ⟨rfl, b2⟩; have k2 := Blk.below K1.out b2 K1.out.lt; have g0 : w2.cell? ⟨w.heap.size, 0, none⟩ = some (.int .i64 c) := k2.cell 0; have g1 : w2.cell? ⟨w.heap.size, 1, none⟩ = some (.int .u64 h) := k2.cell 1; have g2 : w2.cell? ⟨w.heap.size, 2, none⟩ = some (.int .i64 d) := k2.cell 2; have g3 : w2.cell? ⟨w.heap.size, 3, none⟩ = some (.int .u64 q) := k2.cell 3; have g4 : w2.cell? ⟨w.heap.size, 4, none⟩ = some (.int .i64 s) := k2.cell 4; have g5 : w2.cell? ⟨w.heap.size, 5, none⟩ = some (.int .u64 z) := k2.cell 5; have B2 := Lib.hid (Below.next B1.out b2); have K2 := Lib.hid k2; have K2f : w2.frozen? ⟨w.heap.size, 4, none⟩ = false := k2.free 4; clear k2 b2)

      )
    go_ret
    exact ⟨rfl, B2.out⟩
theorem walk (w : World) (cs : List Value) (ws : AllOk [some .i64, some .u64, some .i64, some .u64, some .i64, some .u64] cs) (u : Int) (wu : (Lit.int .u8 u).wf = true) :
    Calls Try.prog 4 #[.agg ⟨cs⟩, .int .u8 u] w fun e w' => e = .returned (.bool true) ∧ Below w.heap.size w w' := by
  obtain ⟨l, rfl, r⟩ := lineOf ws
  exact walk2 w l r u (bounds_u8 wu).1 (bounds_u8 wu).2
end irqWindows
namespace irqWindows
theorem own : ownKnob Try.prog.godebug = none := by kernel_rfl
set_option maxRecDepth 100000 in
theorem lifted (os : Os) (started : os.Started) (H : Type) (enc : TypeId × Value → H) :
    ReturnsInHanded {} Try.checked os 4 .any (Rows.irqWindowsSpec.pre6 enc Try.prog Try.f4 Rows.irqWindowsRow.domain false) (Rows.irqWindowsSpec.post enc Try.prog Try.f4 false true false false) := by
  refine returnsInHanded_of_change_sized (C := Try.checked) own started (by kernel_rfl) Try.func4
    (ChangeSpec.witness6 (enc := enc) (C := Try.checked) false ⟨#[], #[.agg #[.int .i64 0, .int .u64 0, .int .i64 0, .int .u64 0, .int .i64 0, .int .u64 0], .int .u8 0], []⟩ 8 (by kernel_rfl) (by kernel_rfl) (by kernel_rfl) (by kernel_rfl)) ?_
  intro W base args ds gs before hval0 hW hcnd hsz0 _
  have hsz : (DataW.weightsEach Try.prog (Try.f4.params.toList ++ Rows.irqWindowsSpec.plain.varTypes Try.prog) (ds ++ gs)).all (· ≤ reachBytes) = true := hsz0
  have hval : ∀ (j : Nat) t v, Try.f4.params[j]? = some t → args[j]? = some v → Value.okWide Try.prog W .any base t v := hval0
  have hW' := hW
  obtain ⟨p, q, hA0, hV, rfl, hfz, hnd⟩ := hW
  have hA : DataW.TrodAll enc Try.prog W 0 (fun _ => true) true Try.f4.params.toList args.toList ds p := hA0
  rw [Try.params4] at hA hval hsz
  obtain ⟨v0, vs0, d0, ds0, p0, q0, hargs, rfl, rfl, h0, r0⟩ := trodAll_cons hA
  obtain ⟨v1, vs1, d1, ds1, p1, q1, rfl, rfl, rfl, h1, r1⟩ := trodAll_cons r0
  obtain ⟨rfl, rfl, rfl⟩ := trodAll_nil r1
  obtain rfl : args = #[v0, v1] := by cases args; simp_all
  obtain ⟨rfl, rfl⟩ := trodVars_none hV
  obtain ⟨c0, rfl, w0⟩ := arg_agg [some .i64, some .u64, some .i64, some .u64, some .i64, some .u64] (by first | exact .inl ⟨_, Try.underlying24⟩ | exact .inr ⟨_, _, Try.underlying24⟩) 6 (by kernel_rfl) (by kernel_rfl) (hval 0 24 v0 rfl rfl) h0
  obtain ⟨a1, rfl, w1⟩ := arg_one Try.underlying5 (hval 1 5 v1 rfl rfl) h1
  clear hA0 hval0 hsz0 hsz
  refine (walk W c0 w0 a1 w1).mono fun e W' ⟨he, bel⟩ => ?_
  subst he
  exact ⟨_, rfl, _, _, _, [], _, [], hW', trodAll_mk1 (shut_bool Try.underlying4 _), (trodAll_cons_mk (Below.trod laidOut (by kernel_rfl) (of_decide_eq_true (by kernel_rfl)) h0 bel (fun x hx => by simpa using hW'.lt x (by simp [hx]))) (trodAll_cons_mk (Below.trod laidOut (by kernel_rfl) (of_decide_eq_true (by kernel_rfl)) h1 bel (fun x hx => by simpa using hW'.lt x (by simp [hx]))) trodAll_mk0)), rfl, bel.frame _, fun h => by cases h⟩
theorem over : Rows.irqWindowsRow.holds Try.pinned (OpenSpec.ofChange Rows.irqWindowsSpec) :=
  OpenClaim.holds_of_wide 4 Try.f4 rfl rfl rfl rfl rfl rfl rfl ⟨rfl, rfl, rfl, rfl, rfl⟩ rfl rfl rfl rfl rfl (by kernel_rfl) Try.func4 (by kernel_rfl)
    (of_decide_eq_true (by kernel_rfl)) (by unfold Func.isWrapper; first | (rw [if_pos (by decide +kernel)]; kernel_rfl) | (rw [if_neg (by decide +kernel)]; exact ⟨rfl, rfl⟩))
    (fun os started H enc _ => lifted os started H enc)
end irqWindows
theorem irqWindows_holds : Rows.IrqWindowsSaid := irqWindows.over
#print axioms irqWindows_holds
end Go.Proofs.Ytbdhmjlbogjkoaa
