/- IrqOnce: each raise of a line that isn't masked is acknowledged once, held, gathered, or pends; it pends anew no more often in any span than its bucket lets. No condition. -/
import Derived.Test.YtbdhmjlbogjkoaaIrqArg
import Derived.Test.YtbdhmjlbogjkoaaIrqLawB
import Derived.Test.YtbdhmjlbogjkoaaArg
import Derived.Test.YtbdhmjlbogjkoaaRows
import Derived.ProofKit
import Derived.OpenShut
import Derived.ShutString
import Derived.ChangeOld
import Derived.Below
import Derived.SizedLaws
namespace Go.Proofs.Ytbdhmjlbogjkoaa
open Go.ChangeShapes Go.WideShapes Go.ChangeAt Go.RowKit
open Go.ChangeMaps (open_string shut_string)
set_option linter.unusedVariables false
set_option linter.unusedSimpArgs false
namespace irqOnce
theorem rmost12_any (d q s : Int) (w : World) (h : mayK d q = true) (h0 : 0 ≤ s) (h1 : s ≤ 1099511627776) :
    Calls Try.prog 16 #[.int .i64 d, .int .u64 q, .int .u64 s] w fun e w' => e = .returned (.int .u64 (d + 1 + s / q)) ∧ w = w' := by
  obtain ⟨m1, m2, m3, m4⟩ := mayK_iff.1 h
  have A := fun W => Lib.hid (rmay12_any d q (by omega) W)
  rw [h] at A
  have := mul_div_le s q h0 (by omega)
  have d1 : decide (1099511627776 < s) = false := decide_eq_false (by omega)
  go_enter Try.func16, Try.ntmps16
  go_wp2_with (go_at_call 28; (with_reducible refine Calls.mono (A _).out ?_); rintro e w' ⟨rfl, rfl⟩)
  go_ret
  exact ⟨ret1 (by omega), rfl⟩
/-- How often it was acknowledged in the span, and what may come yet. -/
def Ob (d q F G T p o : Int) : Prop := o ≤ d + 1 + (G - F) / q ∧ 0 ≤ o ∧ (T < F → o = 0) ∧ (F ≤ T → T < G → o + p ≤ d - F / q)
theorem Ob.less {d q F G T p p' o : Int} (h : Ob d q F G T p o) (hp : p' ≤ p) : Ob d q F G T p' o := ⟨h.1, h.2.1, h.2.2.1, fun a b => by have := h.2.2.2 a b; omega⟩
theorem Ob.tick {d q F G T p p' o : Int} (h : Ob d q F G T p o) (hp : p' ≤ p) (hp2 : p' ≤ d - (T + 1) / q) : Ob d q F G (T + 1) p' o := by
  refine ⟨h.1, h.2.1, fun a => h.2.2.1 (by omega), fun a b => ?_⟩
  by_cases e : F = T + 1
  · have := h.2.2.1 (by omega)
    rw [e]
    omega
  · have := h.2.2.2 (by omega) (by omega)
    omega
theorem Ob.out {d q F G T p p' o : Int} (h : Ob d q F G T p o) (hp : p' ≤ p) : Ob d q F G T p' o := h.less hp
theorem Ob.ack {d q F G T p p' o : Int} (h : Ob d q F G T p o) (hp : p' + 1 ≤ p) (h1 : F ≤ T) (h2 : T < G) (hF : 0 ≤ F) (hq : 0 < q) (hp2 : - (T / q) ≤ p') : Ob d q F G T p' (o + 1) := by
  have h3 := h.2.2.2 h1 h2
  have h4 := h.2.1
  have h5 := (div_add F (G - F) q hF (by omega) hq).2
  rw [show F + (G - F) = G by omega] at h5
  have h6 : T / q ≤ G / q := Int.ediv_le_ediv hq (by omega)
  exact ⟨by omega, by omega, fun a => by omega, fun _ _ => by omega⟩
theorem pot_hi {l : Lp} {n : Ln} {T : Int} (c : Cur l T n) (h : n.pends = 0) : pot T n ≤ l.d - T / l.q := by
  unfold pot pb
  rw [if_neg (by omega), c.kd, c.kq]
  omega
theorem pot_lo {l : Lp} {n : Ln} {T : Int} (c : Cur l T n) (h0 : 0 ≤ T) : - (T / l.q) ≤ pot T n := by
  have hr := c.hk.round c.kt
  have hk := c.hk.k0
  have hd := c.hk.d0
  rw [c.kq] at hr
  rw [c.kd] at hd
  unfold pot pb
  rw [c.kd, c.kq]
  split <;> omega
theorem cw_any (k : Int) (n : Ln) : Cw k (if n.win = k then n.raises else 0) n := by unfold Cw; split <;> rfl
def RelT (w : World) (l : Lp) (F G : Int) (B p : Nat) (rv av ov tv : Value) (wr : World) : Prop :=
  ∃ (t : Nat) (n : Ln) (N R A o : Int), tv = .int .i64 t ∧ rv = .int .i64 R ∧ av = .int .i64 A ∧ ov = .int .i64 o ∧ t ≤ 200 ∧ Cur l t n ∧ 0 ≤ N ∧ N ≤ t ∧ n.masked = false ∧ n.pends = 0 ∧ R ≤ 3 * t ∧ 0 ≤ A ∧ total n + A = R ∧ n.raises ≤ R ∧ o ≤ A ∧ Ob l.d l.q F G t (pot t n) o ∧ Ctl wr (fun i => B ≤ i) p [n] N ∧ Blk wr w.heap.size 24 (lpCells l) ∧ Below w.heap.size w wr
def RelK (w : World) (l : Lp) (F G : Int) (B p : Nat) (t : Nat) (A o : Int) (V : Nat) (rv kv : Value) (wr : World) : Prop :=
  ∃ (k : Nat) (n : Ln) (N R : Int), kv = .int .i64 k ∧ rv = .int .i64 R ∧ k ≤ V ∧ Cur l t n ∧ 0 ≤ N ∧ N ≤ t ∧ n.masked = false ∧ R ≤ 3 * t + k ∧ total n + A = R ∧ n.raises ≤ R ∧ o ≤ A ∧ Ob l.d l.q F G t (pot t n) o ∧ Ctl wr (fun i => B ≤ i) p [n] N ∧ Blk wr w.heap.size 24 (lpCells l) ∧ Below w.heap.size w wr
def RelA (w : World) (l : Lp) (F G : Int) (B p : Nat) (t : Nat) (R : Int) (av ov : Value) (wr : World) : Prop :=
  ∃ (n : Ln) (A o : Int), av = .int .i64 A ∧ ov = .int .i64 o ∧ Cur l t n ∧ n.masked = false ∧ 0 ≤ A ∧ total n + A = R ∧ n.raises ≤ R ∧ o ≤ A ∧ Ob l.d l.q F G t (pot t n) o ∧ Ctl wr (fun i => B ≤ i) p [n] t ∧ Blk wr w.heap.size 24 (lpCells l) ∧ Below w.heap.size w wr
set_option maxRecDepth 100000 in
set_option maxHeartbeats 4000000 in
theorem walk2 (w : World) (l : Lp) (r : l.rng) (A : Option Addr) (n cap : Nat) (U : Nat → Int) (hA : Hid (IntsAt w .u8 A n U)) (hU : Hid (∀ i, i < n → 0 ≤ U i ∧ U i ≤ 255)) (hn : n ≤ 140737488351232) (x : Int) (x0 : 0 ≤ x) (x1 : x ≤ 255) (y : Int) (y0 : 0 ≤ y) (y1 : y ≤ 255) :
    Calls Try.prog 3 #[.agg #[.int .i64 l.c, .int .u64 l.h, .int .i64 l.d, .int .u64 l.q, .int .i64 l.s, .int .u64 l.z], .slice A n cap, .agg #[.int .u8 x, .int .u8 y]] w fun e w' => e = .returned (.bool true) ∧ Below w.heap.size w w' := by
  have M := fun W => Lib.hid (rmay13_any l r W)
  have KL := Lib.hid ((Blk.new w 24 (lpCells l)).alloc (.cells #[.int .u8 x, .int .u8 y] 26))
  have hs1 : (w.alloc (.cells ⟨lpCells l⟩ 24)).heap.size = w.heap.size + 1 := by simp
  have KS := Lib.hid (show Blk ((w.alloc (.cells ⟨lpCells l⟩ 24)).alloc (.cells #[.int .u8 x, .int .u8 y] 26)) (w.heap.size + 1) 26 [.int .u8 x, .int .u8 y] from hs1 ▸ Blk.new (w.alloc (.cells ⟨lpCells l⟩ 24)) 26 [.int .u8 x, .int .u8 y])
  have B0 := Lib.hid (((Below.refl w.heap.size w).alloc (Nat.le_refl _) (.cells ⟨lpCells l⟩ 24)).alloc (by simp) (.cells #[.int .u8 x, .int .u8 y] 26))
  clear hs1
  by_cases hm : mayI l = true
  · have ok := mayI_ok r hm
    rw [hm] at M
    obtain ⟨c, h, d, q, s, z⟩ := l
    have ok2 : Lp.ok ⟨c, h, d, q, 10000, z⟩ := ⟨ok.c0, ok.c1, ok.h0, ok.h1, ok.d, by simp, by simp, ok.z0, ok.z1⟩
    have C := Lib.hid (Cur.new ok2)
    have NW := fun W B hB => Lib.hid (new1_at ⟨c, h, d, q, 10000, z⟩ ok2 W B hB)
    obtain ⟨c0, c1, -, -, od, -, -, z0, z1⟩ := ok
    obtain ⟨m1, m2, m3, m4⟩ := mayK_iff.1 od
    simp only at *
    have OD := Lib.hid od
    clear r hm ok2 od
    by_cases hz : n = 0
    · subst hz
      go_enter Try.func3, Try.ntmps3
      go_wp2_with (first
| (go_at_call 9; (with_reducible refine Calls.mono (awake_any _) ?_); rintro e w1 ⟨rfl, b1⟩; have k1 := Blk.below KL.out b1 KL.out.lt; have f0 : w1.cell? ⟨w.heap.size, 0, none⟩ = some (.int .i64 c) := k1.cell 0; have f1 : w1.cell? ⟨w.heap.size, 1, none⟩ = some (.int .u64 h) := k1.cell 1; have f2 : w1.cell? ⟨w.heap.size, 2, none⟩ = some (.int .i64 d) := k1.cell 2; have f3 : w1.cell? ⟨w.heap.size, 3, none⟩ = some (.int .u64 q) := k1.cell 3; have f4 : w1.cell? ⟨w.heap.size, 4, none⟩ = some (.int .i64 s) := k1.cell 4; have f5 : w1.cell? ⟨w.heap.size, 5, none⟩ = some (.int .u64 z) := k1.cell 5; have K1 := Lib.hid k1; have S1 := Lib.hid (Blk.below KS.out b1 KS.out.lt); have B1 := Lib.hid (Below.next B0.out b1); clear k1 b1)
| (go_at_call 10; (with_reducible refine Calls.mono (M _).out ?_); rintro e w2 ⟨rfl, b2⟩; have k2 := Blk.below K1.out b2 K1.out.lt; have g0 : w2.cell? ⟨w.heap.size, 0, none⟩ = some (.int .i64 c) := k2.cell 0; have g1 : w2.cell? ⟨w.heap.size, 1, none⟩ = some (.int .u64 h) := k2.cell 1; have g2 : w2.cell? ⟨w.heap.size, 2, none⟩ = some (.int .i64 d) := k2.cell 2; have g3 : w2.cell? ⟨w.heap.size, 3, none⟩ = some (.int .u64 q) := k2.cell 3; have g4 : w2.cell? ⟨w.heap.size, 4, none⟩ = some (.int .i64 s) := k2.cell 4; have g5 : w2.cell? ⟨w.heap.size, 5, none⟩ = some (.int .u64 z) := k2.cell 5; have B2 := Lib.hid (Below.next B1.out b2); have K2 := Lib.hid k2; have S2 := Lib.hid (Blk.below S1.out b2 S1.out.lt); have K2f : w2.frozen? ⟨w.heap.size, 4, none⟩ = false := k2.free 4; clear k2 b2)

        )
      go_ret
      exact ⟨rfl, B2.out⟩
    · have hn0 : 0 < n := by omega
      have zn : ((n : Int) == 0) = false := beq_eq_false_iff_ne.2 (by omega)
      have f0 : 0 ≤ x % 200 := by omega
      have f1 : x % 200 < 200 := by omega
      have f2 : 0 ≤ y % 100 := by omega
      have f3 : y % 100 < 100 := by omega
      go_enter Try.func3, Try.ntmps3
      go_wp2_with (first
| (go_at_call 9; (with_reducible refine Calls.mono (awake_any _) ?_); rintro e w1 ⟨rfl, b1⟩; have k1 := Blk.below KL.out b1 KL.out.lt; have f0 : w1.cell? ⟨w.heap.size, 0, none⟩ = some (.int .i64 c) := k1.cell 0; have f1 : w1.cell? ⟨w.heap.size, 1, none⟩ = some (.int .u64 h) := k1.cell 1; have f2 : w1.cell? ⟨w.heap.size, 2, none⟩ = some (.int .i64 d) := k1.cell 2; have f3 : w1.cell? ⟨w.heap.size, 3, none⟩ = some (.int .u64 q) := k1.cell 3; have f4 : w1.cell? ⟨w.heap.size, 4, none⟩ = some (.int .i64 s) := k1.cell 4; have f5 : w1.cell? ⟨w.heap.size, 5, none⟩ = some (.int .u64 z) := k1.cell 5; have K1 := Lib.hid k1; have S1 := Lib.hid (Blk.below KS.out b1 KS.out.lt); have B1 := Lib.hid (Below.next B0.out b1); clear k1 b1)
| (go_at_call 10; (with_reducible refine Calls.mono (M _).out ?_); rintro e w2 ⟨rfl, b2⟩; have k2 := Blk.below K1.out b2 K1.out.lt; have g0 : w2.cell? ⟨w.heap.size, 0, none⟩ = some (.int .i64 c) := k2.cell 0; have g1 : w2.cell? ⟨w.heap.size, 1, none⟩ = some (.int .u64 h) := k2.cell 1; have g2 : w2.cell? ⟨w.heap.size, 2, none⟩ = some (.int .i64 d) := k2.cell 2; have g3 : w2.cell? ⟨w.heap.size, 3, none⟩ = some (.int .u64 q) := k2.cell 3; have g4 : w2.cell? ⟨w.heap.size, 4, none⟩ = some (.int .i64 s) := k2.cell 4; have g5 : w2.cell? ⟨w.heap.size, 5, none⟩ = some (.int .u64 z) := k2.cell 5; have B2 := Lib.hid (Below.next B1.out b2); have K2 := Lib.hid k2; have S2 := Lib.hid (Blk.below S1.out b2 S1.out.lt); have K2f : w2.frozen? ⟨w.heap.size, 4, none⟩ = false := k2.free 4; clear k2 b2)

        | (go_at_call 11; (with_reducible refine Calls.mono (NW _ _ (by simp [World.setCell])).out ?_); rintro e w3 ⟨p, rfl, k3, b3⟩
           have K3 := Lib.hid k3
           have L3 := Lib.hid (Blk.below (K2.out.put 4 (.int .i64 10000)) b3 (K2.out.put 4 _).lt)
           have B3 := Lib.hid (Below.next (B2.out.setCell (p := ⟨w.heap.size, 4, none⟩) (Nat.le_refl _) (.int .i64 10000)) b3)
           have hlw := K2.out.lt
           have s3 := Blk.below (Blk.far S2.out (p := ⟨w.heap.size, 4, none⟩) (by simp) (.int .i64 10000)) b3 (Blk.far S2.out (p := ⟨w.heap.size, 4, none⟩) (by simp) _).lt
           have s30 : w3.cell? ⟨w.heap.size + 1, 0, none⟩ = some (.int .u8 x) := s3.cell 0
           have s31 : w3.cell? ⟨w.heap.size + 1, 1, none⟩ = some (.int .u8 y) := s3.cell 1
           clear k3 b3 s3))
      generalize x % 200 = F at *
      generalize y % 100 = y2 at *
      go_loopw [11, 12, 13, 14] (fun rv av ov tv wr => Hid (RelT w ⟨c, h, d, q, 10000, z⟩ F (F + y2) w2.heap.size p rv av ov tv wr)) (fun _ _ _ tv _ => 200 - (intOf tv).toNat)
      case atStart => exact ⟨0, _, 0, 0, 0, 0, rfl, rfl, rfl, rfl, by omega, C.out, by omega, by omega, rfl, rfl, by omega, by omega, by simp [total, newL], by simp [newL], by omega, ⟨by have := mul_div_le (F + y2 - F) q (by omega) (by omega); simp only; omega, by omega, fun _ => rfl, fun _ _ => by
        have := pot_hi C.out rfl
        obtain rfl : F = 0 := by omega
        simpa using this⟩, K3.out, L3.out, B3.out⟩
      case round =>
        clear C NW M KL KS B0 g0 g1 g2 g3 g4 g5 K2f K3 B3 L3 s30 s31
        obtain ⟨t, nl, N, R, A', o, rfl, rfl, rfl, rfl, ht, hcur, hN0, hN, hmask, hpz, hR, hA0, htot, hra, hoR, hob, hctl, hblk, hbel⟩ := hrel
        have CUR := Lib.hid hcur
        have CTL := Lib.hid hctl
        have BLK := Lib.hid hblk
        have BEL := Lib.hid hbel
        have HM := Lib.hid hmask
        have TOT := Lib.hid htot
        have OB := Lib.hid hob
        have HPZ := Lib.hid hpz
        have f4 : wr.cell? ⟨w.heap.size, 0, none⟩ = some (.int .i64 c) := hblk.cell 0
        have f5 : wr.cell? ⟨w.heap.size, 2, none⟩ = some (.int .i64 d) := hblk.cell 2
        have f6 : wr.cell? ⟨w.heap.size, 3, none⟩ = some (.int .u64 q) := hblk.cell 3
        have hb := hcur.le_bound
        have o0 := hob.2.1
        by_cases ht2 : t < 200
        · have ht3 : (t : Int) < 200 := by omega
          have hmod : t % n < n := Nat.mod_lt _ hn0
          obtain ⟨ab, ao, rfl, hlt, hcw⟩ := hA.out.at_ hmod
          obtain ⟨v0, v1⟩ := hU.out _ hmod
          have hbz : ∀ wx, Below w.heap.size w wx → wx.cell? ⟨ab, ao + t % n, none⟩ = some (.int .u8 (U (t % n))) := fun wx hx => (hx.cell (p := ⟨ab, ao + t % n, none⟩) hlt).trans hcw
          have HBZ := Lib.hid hbz
          clear hbz hcw
          generalize U (t % n) = u at *
          obtain ⟨V, hV⟩ : ∃ V : Nat, (V : Int) = u % 4 := ⟨(u % 4).toNat, by omega⟩
          have hV4 : V ≤ 3 := by omega
          clear hcur hctl hblk hbel hmask htot hob hpz hb
          go_wp2_with fail
          go_loopw [11, 15] (fun rv kv wr => Hid (RelK w ⟨c, h, d, q, 10000, z⟩ F (F + y2) w2.heap.size p t A' o V rv kv wr)) (fun _ kv _ => V - (intOf kv).toNat)
          case atStart => exact ⟨0, nl, N, R, rfl, rfl, by omega, CUR.out, hN0, hN, HM.out, by omega, TOT.out, hra, hoR, OB.out, CTL.out, BLK.out, BEL.out⟩
          case round =>
            clear CUR CTL BLK BEL HM TOT OB HPZ f4 f5 f6 hN0 hN hR hra hoR
            obtain ⟨k, nl, N, R, rfl, rfl, hk, hcur, hN0, hN, hmask, hR, htot, hra, hoR, hob, hctl, hblk, hbel⟩ := hrel
            have CUR := Lib.hid hcur
            have CTL := Lib.hid hctl
            have BLK := Lib.hid hblk
            have BEL := Lib.hid hbel
            have HM := Lib.hid hmask
            have TOT := Lib.hid htot
            have OB := Lib.hid hob
            have hcell := HBZ.out _ hbel
            have hb := hcur.le_bound
            have okn := hcur.ok (by omega) (by omega) (H := 1000) (by omega) (by omega)
            have hR0 : 0 ≤ R := by omega
            by_cases hkV : k < V
            · have hk4 : (k : Int) < u % 4 := by omega
              obtain ⟨m, e1, e2, e3, e4, e5, e6, e7, e8⟩ := hcur.raises (T := t) (by omega) (Int.le_refl _) (by omega) hmask rfl (cw_any _ _) (by simp only; split <;> omega)
              have hw0 : m.raises ≤ R + 1 := by rw [e8]; split <;> omega
              have RA := Lib.hid (raise_is CTL.out okn (by omega) (by omega) t hN (by omega) (by omega) e1)
              have E2 := Lib.hid e2
              have E3 := Lib.hid e3
              have E6 := Lib.hid e6
              have OB2 := Lib.hid (hob.less e4)
              clear hcur hctl hblk hbel hmask htot hob e1 e2 e3 e4 e5 e6 e7 e8 okn hb
              go_wp2_with (go_at_call 12; (with_reducible refine Calls.mono RA.out ?_); rintro e w4 ⟨rfl, k4, o4⟩; have K4 := Lib.hid k4; have O4 := Lib.hid o4; clear k4 o4)
              go_roundw
              case rel => exact ⟨k + 1, m, t, R + 1, by go_num, rfl, by omega, E2.out, by omega, Int.le_refl _, E6.out, by omega, by have := E3.out; have := TOT.out; omega, hw0, hoR, OB2.out, K4.out, Blk.only BLK.out O4.out (by omega), Below.onlyF BEL.out O4.out (fun i hi => by omega)⟩
              case measure => simp [intOf]; omega
            · have hk4 : ¬ (k : Int) < u % 4 := by omega
              obtain ⟨s1, s2, s3, s4, s5, s6, s7⟩ := hcur.step (T := t) (by omega) (Int.le_refl _) (by omega)
              have GO := Lib.hid (go_one CTL.out okn (by omega) t hN (by omega) (by omega))
              have S1 := Lib.hid s1
              have S2 := Lib.hid (s2.trans (show total nl = R - A' by omega))
              have S5 := Lib.hid (s5.trans hmask)
              have S7 := Lib.hid (show (stepL t nl).raises ≤ R by omega)
              have OB2 := Lib.hid (hob.less s3)
              have hR9 : R ≤ 3 * (t + 1) := by omega
              have hR8 : R ≤ 1000 := by omega
              clear hcur hctl hblk hbel hmask htot hob okn hb s1 s2 s3 s4 s5 s6 s7
              go_wp2_with (go_at_call 13; (with_reducible refine Calls.mono GO.out ?_); rintro e w4 ⟨rfl, k4, o4⟩; have K4 := Lib.hid k4; have O4 := Lib.hid o4; clear k4 o4)
              go_loopw [12, 13] (fun av ov wr => Hid (RelA w ⟨c, h, d, q, 10000, z⟩ F (F + y2) w2.heap.size p t R av ov wr)) (fun av _ _ => (R - intOf av).toNat)
              case atStart => exact ⟨_, A', o, rfl, rfl, S1.out, S5.out, hA0, by have := S2.out; omega, S7.out, hoR, OB2.out, K4.out, Blk.only BLK.out O4.out (by omega), Below.onlyF BEL.out O4.out (fun i hi => by omega)⟩
              case round =>
                clear CUR CTL BLK BEL HM TOT OB GO S1 S2 S5 S7 OB2 K4 O4 hcell hra hoR hA0 o0 hk hk4 hkV hR
                obtain ⟨nl, A', o, rfl, rfl, hcur, hmask, hA0, htot, hra, hoR, hob, hctl, hblk, hbel⟩ := hrel
                have CUR := Lib.hid hcur
                have CTL := Lib.hid hctl
                have BLK := Lib.hid hblk
                have BEL := Lib.hid hbel
                have TOT := Lib.hid htot
                have OB := Lib.hid hob
                have hb := hcur.le_bound
                have hx5 : o + 1 ≤ 2000 := by omega
                have hx6 : A' ≤ 1000 := by omega
                have o0 := hob.2.1
                have okn := hcur.ok (by omega) (by omega) (H := 1000) (by omega) (by omega)
                obtain ⟨x', e, m, e1, e2, e3, e4, e5, e6, e7, e8⟩ := hcur.acks (T := t) (by omega) (Int.le_refl _) (by omega) hmask
                have AC := Lib.hid (ack_is CTL.out okn (by omega) (by omega) t (Int.le_refl _) (by omega) (by omega) e1)
                have hb2 := e2.le_bound
                have E2 := Lib.hid e2
                have E3 := Lib.hid (show total m + (A' + x') = R by omega)
                have E4 := Lib.hid e4
                have E6 := Lib.hid (show m.raises ≤ R by omega)
                have hax : A' + x' ≤ R := by omega
                have hx7 : x' ≤ 1000 := by omega
                have hx8 : A' + x' ≤ 1000 := by omega
                rcases e8 with ⟨rfl, hx1, hp⟩ | ⟨rfl, rfl, hp, hpz⟩
                · by_cases hin : F ≤ t ∧ (t : Int) < F + y2
                  · obtain ⟨i1, i2⟩ := hin
                    have OB2 := Lib.hid (hob.ack hp i1 i2 (by omega) (by simp only; omega) (pot_lo e2 (by omega)))
                    have i3 : decide (F ≤ (t : Int)) = true := decide_eq_true i1
                    have i4 : decide ((t : Int) < F + y2) = true := decide_eq_true i2
                    clear hcur hctl hblk hbel hmask htot hob okn hb hb2 e1 e2 e3 e4 e5 e6 e7 hp
                    go_wp2_with (go_at_call 14; (with_reducible refine Calls.mono AC.out ?_); rintro e w4 ⟨rfl, k4, o4⟩; have K4 := Lib.hid k4; have O4 := Lib.hid o4; clear k4 o4)
                    go_roundw
                    case rel => exact ⟨m, A' + x', o + 1, rfl, rfl, E2.out, E4.out, by omega, E3.out, E6.out, by omega, OB2.out, K4.out, Blk.only BLK.out O4.out (by omega), Below.onlyF BEL.out O4.out (fun i hi => by omega)⟩
                    case measure => simp [intOf]; omega
                  · have OB2 := Lib.hid (hob.less (p' := pot t m) (by omega))
                    by_cases i1 : F ≤ t
                    all_goals
                      first | (have i3 : decide (F ≤ (t : Int)) = true := decide_eq_true i1; have i4 : decide ((t : Int) < F + y2) = false := decide_eq_false (by omega)) | have i3 : decide (F ≤ (t : Int)) = false := decide_eq_false i1
                      clear hcur hctl hblk hbel hmask htot hob okn hb hb2 e1 e2 e3 e4 e5 e6 e7 hp hin i1
                      go_wp2_with (go_at_call 14; (with_reducible refine Calls.mono AC.out ?_); rintro e w4 ⟨rfl, k4, o4⟩; have K4 := Lib.hid k4; have O4 := Lib.hid o4; clear k4 o4)
                      go_roundw
                      case rel => exact ⟨m, A' + x', o, rfl, rfl, E2.out, E4.out, by omega, E3.out, E6.out, by omega, OB2.out, K4.out, Blk.only BLK.out O4.out (by omega), Below.onlyF BEL.out O4.out (fun i hi => by omega)⟩
                      case measure => simp [intOf]; omega
                · obtain ⟨l1, l2⟩ := e2.later (T := t + 1) (by omega) (by omega)
                  have et : ((t + 1 : Nat) : Int) = t + 1 := by omega
                  have OB2 := Lib.hid (hob.tick (p' := pot (t + 1) m) (by omega) (pot_hi l1 hpz))
                  have L1 := Lib.hid l1
                  have ET := Lib.hid et
                  have HPZ := Lib.hid hpz
                  have SS := fun W k => Lib.hid (state_one (w := W) (O := fun i => w2.heap.size ≤ i) (p := p) (now := t) (n := m) k)
                  rw [e4, hpz] at SS
                  have gn := e2.hg.n1
                  have gc := e2.gc
                  have he0 := e2.e0
                  simp only at gc
                  have ht5 : total m = m.g.n + m.held + m.pends := rfl
                  have d3 : decide (R < A' + m.held) = false := decide_eq_false (by omega)
                  have d4 : decide (c ≤ R - A' - m.held) = false := decide_eq_false (by omega)
                  have d5 : A' ≤ 1000 := by omega
                  have d6 : m.held ≤ 1000 := by omega
                  have d7 : R ≤ 1000 := by omega
                  have d8 : 0 ≤ R := by omega
                  have d9 : o ≤ R := by omega
                  have d10 : R ≤ 3 * (t + 1) := by omega
                  clear hcur hctl hblk hbel hmask htot hob okn hb hb2 e1 e2 e3 e4 e5 e6 e7 hp hpz gn gc ht5 l1 l2 et
                  go_wp2_with (first
                    | (go_at_call 14; (with_reducible refine Calls.mono AC.out ?_); rintro e w4 ⟨rfl, k4, o4⟩; have K4 := Lib.hid k4; have O4 := Lib.hid o4; clear k4 o4)
                    | (go_at_call 15; (with_reducible refine Calls.mono (SS _ K4.out).out ?_); rintro e w5 ⟨rfl, k5, o5⟩; have K5 := Lib.hid k5; have O5 := Lib.hid o5; have l5 := Blk.below (Blk.only BLK.out O4.out (by omega)) o5 (Blk.only BLK.out O4.out (by omega)).lt; have y0 : w5.cell? ⟨w.heap.size, 0, none⟩ = some (.int .i64 c) := l5.cell 0; have L5 := Lib.hid l5; clear k5 o5 l5))
                  go_roundw
                  case rel => exact ⟨t + 1, m, t, R, A', o, by go_num, rfl, rfl, rfl, by omega, by rw [ET.out]; exact L1.out, by omega, by omega, E4.out, HPZ.out, by omega, hA0, by have := E3.out; omega, E6.out, hoR, by rw [ET.out]; exact OB2.out, K5.out, L5.out, Below.next (Below.onlyF BEL.out O4.out (fun i hi => by omega)) O5.out⟩
                  case measure => simp [intOf]; omega
        · have ht3 : ¬ (t : Int) < 200 := by omega
          have hq := mul_div_le (F + y2 - F) q (by omega) (by omega)
          have ho := hob.1
          simp only at ho
          have MO := fun W => Lib.hid (rmost12_any d q (F + y2 - F) W OD.out (by omega) (by omega))
          have d1 : decide (o ≤ d + 1 + (F + y2 - F) / q) = true := decide_eq_true ho
          have d2 : o ≤ 100000 := by omega
          clear hcur hctl hblk hbel hmask htot hob hpz hb ho hq
          go_wp2_with (go_at_call 16; (with_reducible refine Calls.mono (MO _).out ?_); rintro e w4 ⟨rfl, rfl⟩)
          go_ret
          exact ⟨rfl, BEL.out⟩
  · have hm2 : mayI l = false := by simpa using hm
    rw [hm2] at M
    obtain ⟨c, h, d, q, s, z⟩ := l
    simp only at *
    clear r hm hm2
    go_enter Try.func3, Try.ntmps3
    go_wp2_with (first
| (go_at_call 9; (with_reducible refine Calls.mono (awake_any _) ?_); rintro e w1 ⟨rfl, b1⟩; have k1 := Blk.below KL.out b1 KL.out.lt; have f0 : w1.cell? ⟨w.heap.size, 0, none⟩ = some (.int .i64 c) := k1.cell 0; have f1 : w1.cell? ⟨w.heap.size, 1, none⟩ = some (.int .u64 h) := k1.cell 1; have f2 : w1.cell? ⟨w.heap.size, 2, none⟩ = some (.int .i64 d) := k1.cell 2; have f3 : w1.cell? ⟨w.heap.size, 3, none⟩ = some (.int .u64 q) := k1.cell 3; have f4 : w1.cell? ⟨w.heap.size, 4, none⟩ = some (.int .i64 s) := k1.cell 4; have f5 : w1.cell? ⟨w.heap.size, 5, none⟩ = some (.int .u64 z) := k1.cell 5; have K1 := Lib.hid k1; have S1 := Lib.hid (Blk.below KS.out b1 KS.out.lt); have B1 := Lib.hid (Below.next B0.out b1); clear k1 b1)
| (go_at_call 10; (with_reducible refine Calls.mono (M _).out ?_); rintro e w2 ⟨rfl, b2⟩; have k2 := Blk.below K1.out b2 K1.out.lt; have g0 : w2.cell? ⟨w.heap.size, 0, none⟩ = some (.int .i64 c) := k2.cell 0; have g1 : w2.cell? ⟨w.heap.size, 1, none⟩ = some (.int .u64 h) := k2.cell 1; have g2 : w2.cell? ⟨w.heap.size, 2, none⟩ = some (.int .i64 d) := k2.cell 2; have g3 : w2.cell? ⟨w.heap.size, 3, none⟩ = some (.int .u64 q) := k2.cell 3; have g4 : w2.cell? ⟨w.heap.size, 4, none⟩ = some (.int .i64 s) := k2.cell 4; have g5 : w2.cell? ⟨w.heap.size, 5, none⟩ = some (.int .u64 z) := k2.cell 5; have B2 := Lib.hid (Below.next B1.out b2); have K2 := Lib.hid k2; have S2 := Lib.hid (Blk.below S1.out b2 S1.out.lt); have K2f : w2.frozen? ⟨w.heap.size, 4, none⟩ = false := k2.free 4; clear k2 b2)

      )
    go_ret
    exact ⟨rfl, B2.out⟩
theorem walk (w : World) (cs : List Value) (ws : AllOk [some .i64, some .u64, some .i64, some .u64, some .i64, some .u64] cs) (A : Option Addr) (n cap : Nat) (D : Nat → List Value) (w2 : Elems w [some .u8] A n D) (hl : n * 1 ≤ 140737488351232) (ds : List Value) (vs : AllOk [some .u8, some .u8] ds) :
    Calls Try.prog 3 #[.agg ⟨cs⟩, .slice A n cap, .agg ⟨ds⟩] w fun e w' => e = .returned (.bool true) ∧ Below w.heap.size w w' := by
  obtain ⟨l, rfl, r⟩ := lineOf ws
  obtain ⟨_, _, rfl, ⟨x, rfl, wx⟩, k1⟩ := allOk_cons vs
  obtain ⟨_, _, rfl, ⟨y, rfl, wy⟩, k2⟩ := allOk_cons k1
  obtain rfl := allOk_nil k2
  obtain ⟨U, hU, hw⟩ := ints_of w2
  exact walk2 w l r A n cap U hU (fun i hi => bounds_u8 (hw i hi)) (by omega) x (bounds_u8 wx).1 (bounds_u8 wx).2 y (bounds_u8 wy).1 (bounds_u8 wy).2
end irqOnce
namespace irqOnce
theorem own : ownKnob Try.prog.godebug = none := by kernel_rfl
set_option maxRecDepth 100000 in
theorem lifted (os : Os) (started : os.Started) (H : Type) (enc : TypeId × Value → H) :
    ReturnsInHanded {} Try.checked os 3 .any (Rows.irqOnceSpec.pre6 enc Try.prog Try.f3 Rows.irqOnceRow.domain false) (Rows.irqOnceSpec.post enc Try.prog Try.f3 false true false false) := by
  refine returnsInHanded_of_change_sized (C := Try.checked) own started (by kernel_rfl) Try.func3
    (ChangeSpec.witness6 (enc := enc) (C := Try.checked) false ⟨#[], #[.agg #[.int .i64 0, .int .u64 0, .int .i64 0, .int .u64 0, .int .i64 0, .int .u64 0], .slice none 0 0, .agg #[.int .u8 0, .int .u8 0]], []⟩ 8 (by kernel_rfl) (by kernel_rfl) (by kernel_rfl) (by kernel_rfl)) ?_
  intro W base args ds gs before hval0 hW hcnd hsz0 _
  have hsz : (DataW.weightsEach Try.prog (Try.f3.params.toList ++ Rows.irqOnceSpec.plain.varTypes Try.prog) (ds ++ gs)).all (· ≤ reachBytes) = true := hsz0
  have hval : ∀ (j : Nat) t v, Try.f3.params[j]? = some t → args[j]? = some v → Value.okWide Try.prog W .any base t v := hval0
  have hW' := hW
  obtain ⟨p, q, hA0, hV, rfl, hfz, hnd⟩ := hW
  have hA : DataW.TrodAll enc Try.prog W 0 (fun _ => true) true Try.f3.params.toList args.toList ds p := hA0
  rw [Try.params3] at hA hval hsz
  obtain ⟨v0, vs0, d0, ds0, p0, q0, hargs, rfl, rfl, h0, r0⟩ := trodAll_cons hA
  obtain ⟨v1, vs1, d1, ds1, p1, q1, rfl, rfl, rfl, h1, r1⟩ := trodAll_cons r0
  obtain ⟨v2, vs2, d2, ds2, p2, q2, rfl, rfl, rfl, h2, r2⟩ := trodAll_cons r1
  obtain ⟨rfl, rfl, rfl⟩ := trodAll_nil r2
  obtain rfl : args = #[v0, v1, v2] := by cases args; simp_all
  obtain ⟨rfl, rfl⟩ := trodVars_none hV
  obtain ⟨c0, rfl, w0⟩ := arg_agg [some .i64, some .u64, some .i64, some .u64, some .i64, some .u64] (by first | exact .inl ⟨_, Try.underlying24⟩ | exact .inr ⟨_, _, Try.underlying24⟩) 6 (by kernel_rfl) (by kernel_rfl) (hval 0 24 v0 rfl rfl) h0
  obtain ⟨A1, n1, cap1, D1, rfl, w1, m1, z1⟩ := arg_slice [some .u8] Try.underlying25 6 (by kernel_rfl) (by kernel_rfl) (hval 1 25 v1 rfl rfl) h1
  have l1 : n1 * Try.prog.bytesOf 5 ≤ reachBytes := by
    rcases z1 with ⟨_, e⟩ | ⟨es, sp, e, el⟩
    · subst e; simp
    · subst e; subst el; exact Nat.le_trans (Nat.mul_le_mul_right _ (Nat.le_add_right _ _)) (sized_slice hsz (j := 1) (t := 25) (e := 5) rfl rfl Try.underlying25)
  have b1 : Try.prog.bytesOf 5 = 1 := by kernel_rfl
  rw [b1] at l1
  simp only [reachBytes] at l1
  clear z1 b1
  obtain ⟨c2, rfl, w2⟩ := arg_agg [some .u8, some .u8] (by first | exact .inl ⟨_, Try.underlying26⟩ | exact .inr ⟨_, _, Try.underlying26⟩) 6 (by kernel_rfl) (by kernel_rfl) (hval 2 26 v2 rfl rfl) h2
  clear hA0 hval0 hsz0 hsz
  refine (walk W c0 w0 A1 n1 cap1 D1 w1 l1 c2 w2).mono fun e W' ⟨he, bel⟩ => ?_
  subst he
  exact ⟨_, rfl, _, _, _, [], _, [], hW', trodAll_mk1 (shut_bool Try.underlying4 _), (trodAll_cons_mk (Below.trod laidOut (by kernel_rfl) (of_decide_eq_true (by kernel_rfl)) h0 bel (fun x hx => by simpa using hW'.lt x (by simp [hx]))) (trodAll_cons_mk (Below.trod laidOut (by kernel_rfl) (of_decide_eq_true (by kernel_rfl)) h1 bel (fun x hx => by simpa using hW'.lt x (by simp [hx]))) (trodAll_cons_mk (Below.trod laidOut (by kernel_rfl) (of_decide_eq_true (by kernel_rfl)) h2 bel (fun x hx => by simpa using hW'.lt x (by simp [hx]))) trodAll_mk0))), rfl, bel.frame _, fun h => by cases h⟩
theorem over : Rows.irqOnceRow.holds Try.pinned (OpenSpec.ofChange Rows.irqOnceSpec) :=
  OpenClaim.holds_of_wide 3 Try.f3 rfl rfl rfl rfl rfl rfl rfl ⟨rfl, rfl, rfl, rfl, rfl⟩ rfl rfl rfl rfl rfl (by kernel_rfl) Try.func3 (by kernel_rfl)
    (of_decide_eq_true (by kernel_rfl)) (by unfold Func.isWrapper; first | (rw [if_pos (by decide +kernel)]; kernel_rfl) | (rw [if_neg (by decide +kernel)]; exact ⟨rfl, rfl⟩))
    (fun os started H enc _ => lifted os started H enc)
end irqOnce
theorem irqOnce_holds : Rows.IrqOnceSaid := irqOnce.over
#print axioms irqOnce_holds
end Go.Proofs.Ytbdhmjlbogjkoaa
