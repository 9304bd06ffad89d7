/- IrqMasked: what is raised while a line is masked is nothing; what pended then pends again when it isn't. No condition. -/
import Derived.Test.YtbdhmjlbogjkoaaIrqArg
import Derived.Test.YtbdhmjlbogjkoaaIrqLawB
import Derived.Test.YtbdhmjlbogjkoaaArg
import Derived.Test.YtbdhmjlbogjkoaaRows
import Derived.ProofKit
import Derived.OpenShut
import Derived.ShutString
import Derived.ChangeOld
import Derived.Below
import Derived.SizedLaws
namespace Go.Proofs.Ytbdhmjlbogjkoaa
open Go.ChangeShapes Go.WideShapes Go.ChangeAt Go.RowKit
open Go.ChangeMaps (open_string shut_string)
set_option linter.unusedVariables false
set_option linter.unusedSimpArgs false
namespace irqMasked
def RelA (w : World) (l : Lp) (a : Int) (B p : Nat) (iv : Value) (wr : World) : Prop :=
  ∃ (i : Nat) (n : Ln) (N : Int), iv = .int .i64 i ∧ i ≤ a % 30 ∧ Cur l N n ∧ 0 ≤ N ∧ N ≤ 5 ∧ n.masked = false ∧ Cw (5 / l.z) i n ∧ n.raises ≤ 30 ∧ total n ≤ 30 + i ∧ Idle 5 n ∧ Ctl wr (fun i => B ≤ i) p [n] N ∧ Below w.heap.size w wr
def RelB (w : World) (l : Lp) (a hh pp : Int) (B p : Nat) (iv : Value) (wr : World) : Prop :=
  ∃ (i : Nat) (n : Ln), iv = .int .i64 i ∧ i ≤ a % 30 ∧ Cur l 5 n ∧ n.masked = true ∧ n.held = hh ∧ n.pends = pp ∧ n.raises ≤ 30 ∧ total n ≤ 100 ∧ Idle 5 n ∧ Ctl wr (fun i => B ≤ i) p [n] 5 ∧ Below w.heap.size w wr
theorem masks {O : Nat → Prop} {p : Nat} {l : Lp} {n : Ln} {N : Int} (W : World) (k : Ctl W O p [n] N) (c : Cur l N n) (h0 : 0 ≤ N) (h : N ≤ 5) (i : Idle 5 n) (hr : n.raises ≤ 30) (ht : total n ≤ 100) (on : Bool) :
    Calls Try.prog 23 #[.pointer (some ⟨p, 0, none⟩), .int .u64 5, .int .i64 0, .bool on] W fun e w' => e = .returned (.int .i64 0) ∧ (∃ m, Ctl w' O p [m] 5 ∧ Cur l 5 m ∧ Idle 5 m ∧ m.held = n.held ∧ m.pends = n.pends ∧ m.masked = on ∧ m.raises ≤ 30 ∧ total m ≤ 100) ∧ Only O W w' := by
  refine (mask_one k (c.ok h0 (by omega) (H := 1000) (by omega) (by omega)) (by omega) (by omega) 5 h (by omega) (by omega) on).mono fun e w' ⟨a, b, d⟩ => ⟨a, ⟨_, b, ?_⟩, d⟩
  obtain ⟨s1, s2, s3, s4, s5, s6, s7⟩ := c.step_idle h0 h (by omega) i
  obtain ⟨t1, t2, t3, t4, t5, t6, t7⟩ := s1.mask_idle (by omega) (by omega) s2 on
  exact ⟨t1, t2, t3.trans s3, t4.trans s4, t5, by rw [t6, s6]; exact hr, by rw [t7, s7]; exact ht⟩
set_option maxRecDepth 100000 in
set_option maxHeartbeats 1000000 in
theorem walk2 (w : World) (l : Lp) (r : l.rng) (a : Int) (a0 : 0 ≤ a) (a1 : a ≤ 255) (b : Int) (b0 : 0 ≤ b) (b1 : b ≤ 255) :
    Calls Try.prog 8 #[.agg #[.int .i64 l.c, .int .u64 l.h, .int .i64 l.d, .int .u64 l.q, .int .i64 l.s, .int .u64 l.z], .int .u8 a, .int .u8 b] w fun e w' => e = .returned (.bool true) ∧ Below w.heap.size w w' := by
  have M := fun W => Lib.hid (rmay13_any l r W)
  have KL := Lib.hid (Blk.new w 24 (lpCells l))
  have B0 := Lib.hid ((Below.refl w.heap.size w).alloc (Nat.le_refl _) (.cells ⟨lpCells l⟩ 24))
  by_cases hm : mayI l = true
  · have ok := mayI_ok r hm
    rw [hm] at M
    obtain ⟨c, h, d, q, s, z⟩ := l
    have ok2 : Lp.ok ⟨c, h, d, q, 1000, z⟩ := ⟨ok.c0, ok.c1, ok.h0, ok.h1, ok.d, by simp, by simp, ok.z0, ok.z1⟩
    have C := Lib.hid (Cur.new ok2)
    have NW := fun W B hB => Lib.hid (new1_at ⟨c, h, d, q, 1000, z⟩ ok2 W B hB)
    simp only at *
    have m0 : 0 ≤ a % 30 := Int.emod_nonneg _ (by omega)
    have m1 : a % 30 < 30 := Int.emod_lt_of_pos _ (by omega)
    have m2 : 0 ≤ b % 30 := Int.emod_nonneg _ (by omega)
    have m3 : b % 30 < 30 := Int.emod_lt_of_pos _ (by omega)
    clear r hm ok ok2
    go_enter Try.func8, Try.ntmps8
    go_wp2_with (first
| (go_at_call 9; (with_reducible refine Calls.mono (awake_any _) ?_); rintro e w1 ⟨rfl, b1⟩; have k1 := Blk.below KL.out b1 KL.out.lt; have f0 : w1.cell? ⟨w.heap.size, 0, none⟩ = some (.int .i64 c) := k1.cell 0; have f1 : w1.cell? ⟨w.heap.size, 1, none⟩ = some (.int .u64 h) := k1.cell 1; have f2 : w1.cell? ⟨w.heap.size, 2, none⟩ = some (.int .i64 d) := k1.cell 2; have f3 : w1.cell? ⟨w.heap.size, 3, none⟩ = some (.int .u64 q) := k1.cell 3; have f4 : w1.cell? ⟨w.heap.size, 4, none⟩ = some (.int .i64 s) := k1.cell 4; have f5 : w1.cell? ⟨w.heap.size, 5, none⟩ = some (.int .u64 z) := k1.cell 5; have K1 := Lib.hid k1; have B1 := Lib.hid (Below.next B0.out b1); clear k1 b1)
| (go_at_call 10; (with_reducible refine Calls.mono (M _).out ?_); rintro e w2 ⟨rfl, b2⟩; have k2 := Blk.below K1.out b2 K1.out.lt; have g0 : w2.cell? ⟨w.heap.size, 0, none⟩ = some (.int .i64 c) := k2.cell 0; have g1 : w2.cell? ⟨w.heap.size, 1, none⟩ = some (.int .u64 h) := k2.cell 1; have g2 : w2.cell? ⟨w.heap.size, 2, none⟩ = some (.int .i64 d) := k2.cell 2; have g3 : w2.cell? ⟨w.heap.size, 3, none⟩ = some (.int .u64 q) := k2.cell 3; have g4 : w2.cell? ⟨w.heap.size, 4, none⟩ = some (.int .i64 s) := k2.cell 4; have g5 : w2.cell? ⟨w.heap.size, 5, none⟩ = some (.int .u64 z) := k2.cell 5; have B2 := Lib.hid (Below.next B1.out b2); have K2 := Lib.hid k2; have K2f : w2.frozen? ⟨w.heap.size, 4, none⟩ = false := k2.free 4; clear k2 b2)

      | (go_at_call 11; (with_reducible refine Calls.mono (NW _ _ (by simp [World.setCell])).out ?_); rintro e w3 ⟨p, rfl, k3, b3⟩
         have K3 := Lib.hid k3
         have B3 := Lib.hid (Below.next (B2.out.setCell (p := ⟨w.heap.size, 4, none⟩) (Nat.le_refl _) (.int .i64 1000)) b3)
         have hlw := K2.out.lt
         clear k3 b3))
    go_loopw [9] (fun iv wr => Hid (RelA w ⟨c, h, d, q, 1000, z⟩ a w2.heap.size p iv wr)) (fun iv _ => (a % 30 - intOf iv).toNat)
    case atStart => exact ⟨0, _, 0, rfl, by omega, C.out, by omega, by omega, rfl, Cw.new _, by simp [newL], by simp [total, newL], Idle.new 5, K3.out, B3.out⟩
    case round =>
      clear C NW M KL B0 g0 g1 g2 g3 g4 g5 f0 f1 f2 f3 f4 f5 K2f K3 B3
      obtain ⟨i, n, N, rfl, hi, hcur, hN0, hN, hmask, hcw, hra, htot, hidle, hctl, hbel⟩ := hrel
      have hb := hcur.le_bound
      have CUR := Lib.hid hcur
      have CTL := Lib.hid hctl
      have BEL := Lib.hid hbel
      have CW := Lib.hid hcw
      have HM := Lib.hid hmask
      have HI := Lib.hid hidle
      clear hcur hctl hbel hidle
      by_cases hia : (i : Int) < a % 30
      · obtain ⟨m, e1, e2, e3, e4, e5, e6, e7, e8⟩ := CUR.out.raises hN0 hN (by omega) hmask rfl hcw (by simp only; omega)
        have e9 := CUR.out.raises_idle hN0 hN (by omega) hmask rfl hcw (by simp only; omega)
        rw [e1] at e9
        have RA := Lib.hid (raise_is CTL.out (H := 1000) (CUR.out.ok hN0 (by omega) (by omega) (by omega)) (by omega) (by omega) 5 hN (by omega) (by omega) e1)
        have E2 := Lib.hid e2
        have E3 := Lib.hid e3
        have E6 := Lib.hid e6
        have E7 := Lib.hid e7
        have E8 := Lib.hid e8
        have E9 := Lib.hid e9
        clear e1 e2 e3 e4 e5 e6 e7 e8 e9 hcw hmask CUR CW HM HI
        go_wp2_with (go_at_call 12; (with_reducible refine Calls.mono RA.out ?_); rintro e w4 ⟨rfl, k4, o4⟩; have K4 := Lib.hid k4; have O4 := Lib.hid o4; clear k4 o4)
        go_roundw
        case rel => exact ⟨i + 1, m, _, by go_num, by omega, E2.out, by omega, by omega, E6.out, by simpa using E7.out, by have := E8.out; omega, by have := E3.out; omega, E9.out, K4.out, Below.onlyF BEL.out O4.out (fun i hi => by omega)⟩
        case measure => simp [intOf]; omega
      · have MK := fun W k => Lib.hid (masks (O := fun i => w2.heap.size ≤ i) (p := p) W k CUR.out hN0 hN HI.out hra (by omega) true)
        have SS := Lib.hid (state_one CTL.out)
        have p0 := CUR.out.p0
        have h0 := CUR.out.e0
        have hcw0 : w.heap.size < w2.heap.size := hlw
        generalize hhd : n.held = hh at *
        generalize hpd : n.pends = pp at *
        clear hcw hmask CW HM HI CUR htot hra hhd hpd hb
        go_wp2_with (first
          | (go_at_call 15; (with_reducible refine Calls.mono SS.out ?_); rintro e w4 ⟨rfl, k4, o4⟩; have K4 := Lib.hid k4; have O4 := Lib.hid o4; clear k4 o4)
          | (go_at_call 23; (with_reducible refine Calls.mono (MK _ K4.out).out ?_); rintro e w5 ⟨rfl, hx, o5⟩; have HX := Lib.hid hx; have O5 := Lib.hid (Below.onlyF (Below.next BEL.out O4.out) o5 (fun i hi => by omega)); clear hx o5))
        go_loopw [13] (fun iv wr => Hid (RelB w ⟨c, h, d, q, 1000, z⟩ b hh pp w2.heap.size p iv wr)) (fun iv _ => (b % 30 - intOf iv).toNat)
        case atStart =>
          obtain ⟨m, x1, x2, x3, x4, x5, x6, x7, x8⟩ := HX.out
          exact ⟨0, m, rfl, by omega, x2, x6, x4, x5, x7, x8, x3, x1, O5.out⟩
        case round =>
          clear HX O5 O4 K4 SS MK CTL BEL
          obtain ⟨i, n, rfl, hi, hcur, hmask, hhd, hpd, hra, htot, hidle, hctl, hbel⟩ := hrel
          have CUR := Lib.hid hcur
          have CTL := Lib.hid hctl
          have BEL := Lib.hid hbel
          have HM := Lib.hid hmask
          have HI := Lib.hid hidle
          have HHD := Lib.hid hhd
          have HPD := Lib.hid hpd
          obtain ⟨s1, s2, s3, s4, s5, s6, s7⟩ := hcur.step_idle (by omega) (Int.le_refl 5) (by omega) hidle
          have okn := hcur.ok (by omega) (by omega) (H := 1000) (by omega) (by omega)
          have OK := Lib.hid okn
          by_cases hib : (i : Int) < b % 30
          · have RA := Lib.hid (raise_is hctl okn (by omega) (by omega) 5 (by omega) (by omega) (by omega) (raise_masked (n := stepL 5 n) (s5.trans hmask)))
            have S1 := Lib.hid s1
            have S2 := Lib.hid s2
            have S3 := Lib.hid (s3.trans hhd)
            have S4 := Lib.hid (s4.trans hpd)
            have S5 := Lib.hid (s5.trans hmask)
            have S6 := Lib.hid s6
            have S7 := Lib.hid s7
            clear s1 s2 s3 s4 s5 s6 s7 okn hcur hctl hbel hidle hmask hhd hpd
            go_wp2_with (go_at_call 12; (with_reducible refine Calls.mono RA.out ?_); rintro e w4 ⟨rfl, k4, o4⟩; have K4 := Lib.hid k4; have O4 := Lib.hid o4; clear k4 o4)
            go_roundw
            case rel => exact ⟨i + 1, _, by go_num, by omega, S1.out, S5.out, S3.out, S4.out, by rw [S6.out]; exact hra, by rw [S7.out]; exact htot, S2.out, K4.out, Below.onlyF BEL.out O4.out (fun i hi => by omega)⟩
            case measure => simp [intOf]; omega
          · have SS := Lib.hid (state_one CTL.out)
            rw [hmask, hhd, hpd] at SS
            have PP := fun W k => Lib.hid (pending_one (w := W) (O := fun i => w2.heap.size ≤ i) (p := p) (now := 5) (n := n) k (x := 0) (y := 0) (b := false) (by simp [pendQ, hmask]))
            have AK := fun W k => Lib.hid (ack_is (w := W) (O := fun i => w2.heap.size ≤ i) (p := p) (now := 5) (n := n) k okn (by omega) (by omega) 5 (by omega) (by omega) (by omega) (Cur.ack_no (n := stepL 5 n) (.inl (s5.trans hmask))))
            have MK := fun W k => Lib.hid (masks (O := fun i => w2.heap.size ≤ i) (p := p) W k s1 (by omega) (by omega) s2 (by omega) (by omega) false)
            rw [s3, s4, hhd, hpd] at MK
            clear s1 s2 s3 s4 s5 s6 s7 okn hcur hctl hbel hidle hmask hhd hpd
            have PY := fun W (m : Ln) (k : Ctl W (fun i => w2.heap.size ≤ i) p [m] 5) (h1 : m.masked = false) (h2 : m.pends = pp) => Lib.hid (show Calls Try.prog 25 #[.pointer (some ⟨p, 0, none⟩)] W fun e w' => e = .returned (.tuple #[.int .i64 0, .int .i64 (if 0 < pp then pp else 0), .bool (if 0 < pp then true else false)]) ∧ Ctl w' (fun i => w2.heap.size ≤ i) p [m] 5 ∧ Below W.heap.size W w' from pending_one k (by simp only [pendQ, h1, h2]; split <;> rename_i hc <;> simp at hc <;> simp [hc] <;> omega))
            by_cases hpp : 0 < pp
            · simp only [hpp, if_true] at PY
              have d9 : decide (0 < pp) = true := decide_eq_true hpp
              go_wp2_with (first
                | (go_at_call 15; (with_reducible refine Calls.mono SS.out ?_); rintro e w4 ⟨rfl, k4, o4⟩; have K4 := Lib.hid k4; have O4 := Lib.hid o4; clear k4 o4)
                | (go_at_call 25; (with_reducible refine Calls.mono (PP _ K4.out).out ?_); rintro e w5 ⟨rfl, k5, o5⟩; have K5 := Lib.hid k5; have O5 := Lib.hid o5; clear k5 o5)
                | (go_at_call 14; (with_reducible refine Calls.mono (AK _ K5.out).out ?_); rintro e w6 ⟨rfl, k6, o6⟩; have K6 := Lib.hid k6; have O6 := Lib.hid o6; clear k6 o6)
                | (go_at_call 23; (with_reducible refine Calls.mono (MK _ K6.out).out ?_); rintro e w7 ⟨rfl, ⟨m, k7, -, -, -, x2, x1, -⟩, o7⟩; have P7 := PY _ m k7 x1 x2; have O7 := Lib.hid o7; clear o7 k7 x1 x2)
                | (go_at_call 25; (with_reducible refine Calls.mono P7.out ?_); rintro e w8 ⟨rfl, k8, o8⟩; have O8 := Lib.hid o8; clear k8 o8))
              go_ret
              exact ⟨retb (by simp), Below.next (Below.onlyF (Below.onlyF (Below.next (Below.next BEL.out O4.out) O5.out) O6.out (fun i hi => by omega)) O7.out (fun i hi => by omega)) O8.out⟩
            · simp only [hpp, if_false] at PY
              have d9 : decide (0 < pp) = false := decide_eq_false hpp
              go_wp2_with (first
                | (go_at_call 15; (with_reducible refine Calls.mono SS.out ?_); rintro e w4 ⟨rfl, k4, o4⟩; have K4 := Lib.hid k4; have O4 := Lib.hid o4; clear k4 o4)
                | (go_at_call 25; (with_reducible refine Calls.mono (PP _ K4.out).out ?_); rintro e w5 ⟨rfl, k5, o5⟩; have K5 := Lib.hid k5; have O5 := Lib.hid o5; clear k5 o5)
                | (go_at_call 14; (with_reducible refine Calls.mono (AK _ K5.out).out ?_); rintro e w6 ⟨rfl, k6, o6⟩; have K6 := Lib.hid k6; have O6 := Lib.hid o6; clear k6 o6)
                | (go_at_call 23; (with_reducible refine Calls.mono (MK _ K6.out).out ?_); rintro e w7 ⟨rfl, ⟨m, k7, -, -, -, x2, x1, -⟩, o7⟩; have P7 := PY _ m k7 x1 x2; have O7 := Lib.hid o7; clear o7 k7 x1 x2)
                | (go_at_call 25; (with_reducible refine Calls.mono P7.out ?_); rintro e w8 ⟨rfl, k8, o8⟩; have O8 := Lib.hid o8; clear k8 o8))
              go_ret
              exact ⟨retb (by simp), Below.next (Below.onlyF (Below.onlyF (Below.next (Below.next BEL.out O4.out) O5.out) O6.out (fun i hi => by omega)) O7.out (fun i hi => by omega)) O8.out⟩
  · have hm2 : mayI l = false := by simpa using hm
    rw [hm2] at M
    obtain ⟨c, h, d, q, s, z⟩ := l
    simp only at *
    clear r hm hm2
    go_enter Try.func8, Try.ntmps8
    go_wp2_with (first
| (go_at_call 9; (with_reducible refine Calls.mono (awake_any _) ?_); rintro e w1 ⟨rfl, b1⟩; have k1 := Blk.below KL.out b1 KL.out.lt; have f0 : w1.cell? ⟨w.heap.size, 0, none⟩ = some (.int .i64 c) := k1.cell 0; have f1 : w1.cell? ⟨w.heap.size, 1, none⟩ = some (.int .u64 h) := k1.cell 1; have f2 : w1.cell? ⟨w.heap.size, 2, none⟩ = some (.int .i64 d) := k1.cell 2; have f3 : w1.cell? ⟨w.heap.size, 3, none⟩ = some (.int .u64 q) := k1.cell 3; have f4 : w1.cell? ⟨w.heap.size, 4, none⟩ = some (.int .i64 s) := k1.cell 4; have f5 : w1.cell? ⟨w.heap.size, 5, none⟩ = some (.int .u64 z) := k1.cell 5; have K1 := Lib.hid k1; have B1 := Lib.hid (Below.next B0.out b1); clear k1 b1)
| (go_at_call 10; (with_reducible refine Calls.mono (M _).out ?_); rintro e w2 ⟨rfl, b2⟩; have k2 := Blk.below K1.out b2 K1.out.lt; have g0 : w2.cell? ⟨w.heap.size, 0, none⟩ = some (.int .i64 c) := k2.cell 0; have g1 : w2.cell? ⟨w.heap.size, 1, none⟩ = some (.int .u64 h) := k2.cell 1; have g2 : w2.cell? ⟨w.heap.size, 2, none⟩ = some (.int .i64 d) := k2.cell 2; have g3 : w2.cell? ⟨w.heap.size, 3, none⟩ = some (.int .u64 q) := k2.cell 3; have g4 : w2.cell? ⟨w.heap.size, 4, none⟩ = some (.int .i64 s) := k2.cell 4; have g5 : w2.cell? ⟨w.heap.size, 5, none⟩ = some (.int .u64 z) := k2.cell 5; have B2 := Lib.hid (Below.next B1.out b2); have K2 := Lib.hid k2; have K2f : w2.frozen? ⟨w.heap.size, 4, none⟩ = false := k2.free 4; clear k2 b2)

      )
    go_ret
    exact ⟨rfl, B2.out⟩
theorem walk (w : World) (cs : List Value) (ws : AllOk [some .i64, some .u64, some .i64, some .u64, some .i64, some .u64] cs) (a : Int) (wa : (Lit.int .u8 a).wf = true) (b : Int) (wb : (Lit.int .u8 b).wf = true) :
    Calls Try.prog 8 #[.agg ⟨cs⟩, .int .u8 a, .int .u8 b] w fun e w' => e = .returned (.bool true) ∧ Below w.heap.size w w' := by
  obtain ⟨l, rfl, r⟩ := lineOf ws
  exact walk2 w l r a (bounds_u8 wa).1 (bounds_u8 wa).2 b (bounds_u8 wb).1 (bounds_u8 wb).2
end irqMasked
namespace irqMasked
theorem own : ownKnob Try.prog.godebug = none := by kernel_rfl
set_option maxRecDepth 100000 in
theorem lifted (os : Os) (started : os.Started) (H : Type) (enc : TypeId × Value → H) :
    ReturnsInHanded {} Try.checked os 8 .any (Rows.irqMaskedSpec.pre6 enc Try.prog Try.f8 Rows.irqMaskedRow.domain false) (Rows.irqMaskedSpec.post enc Try.prog Try.f8 false true false false) := by
  refine returnsInHanded_of_change_sized (C := Try.checked) own started (by kernel_rfl) Try.func8
    (ChangeSpec.witness6 (enc := enc) (C := Try.checked) false ⟨#[], #[.agg #[.int .i64 0, .int .u64 0, .int .i64 0, .int .u64 0, .int .i64 0, .int .u64 0], .int .u8 0, .int .u8 0], []⟩ 8 (by kernel_rfl) (by kernel_rfl) (by kernel_rfl) (by kernel_rfl)) ?_
  intro W base args ds gs before hval0 hW hcnd hsz0 _
  have hsz : (DataW.weightsEach Try.prog (Try.f8.params.toList ++ Rows.irqMaskedSpec.plain.varTypes Try.prog) (ds ++ gs)).all (· ≤ reachBytes) = true := hsz0
  have hval : ∀ (j : Nat) t v, Try.f8.params[j]? = some t → args[j]? = some v → Value.okWide Try.prog W .any base t v := hval0
  have hW' := hW
  obtain ⟨p, q, hA0, hV, rfl, hfz, hnd⟩ := hW
  have hA : DataW.TrodAll enc Try.prog W 0 (fun _ => true) true Try.f8.params.toList args.toList ds p := hA0
  rw [Try.params8] at hA hval hsz
  obtain ⟨v0, vs0, d0, ds0, p0, q0, hargs, rfl, rfl, h0, r0⟩ := trodAll_cons hA
  obtain ⟨v1, vs1, d1, ds1, p1, q1, rfl, rfl, rfl, h1, r1⟩ := trodAll_cons r0
  obtain ⟨v2, vs2, d2, ds2, p2, q2, rfl, rfl, rfl, h2, r2⟩ := trodAll_cons r1
  obtain ⟨rfl, rfl, rfl⟩ := trodAll_nil r2
  obtain rfl : args = #[v0, v1, v2] := by cases args; simp_all
  obtain ⟨rfl, rfl⟩ := trodVars_none hV
  obtain ⟨c0, rfl, w0⟩ := arg_agg [some .i64, some .u64, some .i64, some .u64, some .i64, some .u64] (by first | exact .inl ⟨_, Try.underlying24⟩ | exact .inr ⟨_, _, Try.underlying24⟩) 6 (by kernel_rfl) (by kernel_rfl) (hval 0 24 v0 rfl rfl) h0
  obtain ⟨a1, rfl, w1⟩ := arg_one Try.underlying5 (hval 1 5 v1 rfl rfl) h1
  obtain ⟨a2, rfl, w2⟩ := arg_one Try.underlying5 (hval 2 5 v2 rfl rfl) h2
  clear hA0 hval0 hsz0 hsz
  refine (walk W c0 w0 a1 w1 a2 w2).mono fun e W' ⟨he, bel⟩ => ?_
  subst he
  exact ⟨_, rfl, _, _, _, [], _, [], hW', trodAll_mk1 (shut_bool Try.underlying4 _), (trodAll_cons_mk (Below.trod laidOut (by kernel_rfl) (of_decide_eq_true (by kernel_rfl)) h0 bel (fun x hx => by simpa using hW'.lt x (by simp [hx]))) (trodAll_cons_mk (Below.trod laidOut (by kernel_rfl) (of_decide_eq_true (by kernel_rfl)) h1 bel (fun x hx => by simpa using hW'.lt x (by simp [hx]))) (trodAll_cons_mk (Below.trod laidOut (by kernel_rfl) (of_decide_eq_true (by kernel_rfl)) h2 bel (fun x hx => by simpa using hW'.lt x (by simp [hx]))) trodAll_mk0))), rfl, bel.frame _, fun h => by cases h⟩
theorem over : Rows.irqMaskedRow.holds Try.pinned (OpenSpec.ofChange Rows.irqMaskedSpec) :=
  OpenClaim.holds_of_wide 8 Try.f8 rfl rfl rfl rfl rfl rfl rfl ⟨rfl, rfl, rfl, rfl, rfl⟩ rfl rfl rfl rfl rfl (by kernel_rfl) Try.func8 (by kernel_rfl)
    (of_decide_eq_true (by kernel_rfl)) (by unfold Func.isWrapper; first | (rw [if_pos (by decide +kernel)]; kernel_rfl) | (rw [if_neg (by decide +kernel)]; exact ⟨rfl, rfl⟩))
    (fun os started H enc _ => lifted os started H enc)
end irqMasked
theorem irqMasked_holds : Rows.IrqMaskedSaid := irqMasked.over
#print axioms irqMasked_holds
end Go.Proofs.Ytbdhmjlbogjkoaa
