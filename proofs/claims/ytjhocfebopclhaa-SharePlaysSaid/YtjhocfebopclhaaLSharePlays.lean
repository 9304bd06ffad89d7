/- SharePlays: of any share it is told whether it is one; whatever is taken, and whenever: each answer is what the document says. No condition. -/
import Derived.Test.YtjhocfebopclhaaShareLaw
import Derived.Test.YtjhocfebopclhaaShareRefB
import Derived.Test.YtjhocfebopclhaaStill
import Derived.Test.YtjhocfebopclhaaArg
import Derived.Test.YtjhocfebopclhaaRows
import Derived.ProofKit
import Derived.OpenShut
import Derived.ShutString
import Derived.ChangeOld
import Derived.Below
import Derived.SizedLaws
namespace Go.Proofs.Ytjhocfebopclhaa
open Go.ChangeShapes Go.WideShapes Go.ChangeAt Go.RowKit
open Go.ChangeMaps (open_string shut_string)
set_option linter.unusedVariables false
set_option linter.unusedSimpArgs false
namespace sharePlays
def W0 (w : World) (u p : Int) : World := w.alloc (.cells #[.int .u64 u, .int .u64 p] 24)
theorem triple_of {a b c : Option IntKind} {cs : List Value} (h : AllOk [a, b, c] cs) : ∃ x y z, cs = [x, y, z] ∧ CellOk a x ∧ CellOk b y ∧ CellOk c z := by
  match cs, h with
  | [x, y, z], ⟨hx, hy, hz, _⟩ => exact ⟨x, y, z, rfl, hx, hy, hz⟩
/-- The script: of each step its kind, how much later, how many. -/
def Script (w : World) (A : Option Addr) (n : Nat) (K Wt V : Nat → Int) : Prop :=
  ∀ i, i < n → ∃ b off, A = some ⟨b, off, none⟩ ∧ b < w.heap.size ∧ w.cell? ⟨b, off + i * 3, none⟩ = some (.int .i64 (K i)) ∧ w.cell? ⟨b, off + i * 3 + 1, none⟩ = some (.int .u64 (Wt i)) ∧ w.cell? ⟨b, off + i * 3 + 2, none⟩ = some (.int .u64 (V i)) ∧ 0 ≤ Wt i ∧ Wt i ≤ 18446744073709551615 ∧ 0 ≤ V i ∧ V i ≤ 18446744073709551615 ∧ -9223372036854775808 ≤ K i ∧ K i ≤ 9223372036854775807
theorem script_of {w : World} {A : Option Addr} {n : Nat} {D : Nat → List Value} (h : Elems w [some .i64, some .u64, some .u64] A n D) : ∃ K Wt V, Script w A n K Wt V := by
  have key : ∀ i, ∃ (t : Int × Int × Int), i < n → D i = [.int .i64 t.1, .int .u64 t.2.1, .int .u64 t.2.2] ∧ (Lit.int .i64 t.1).wf = true ∧ (Lit.int .u64 t.2.1).wf = true ∧ (Lit.int .u64 t.2.2).wf = true := by
    intro i
    by_cases hi : i < n
    · obtain ⟨hok, _⟩ := h i hi
      obtain ⟨x, y, z, e, ⟨a, rfl, ha⟩, ⟨b, rfl, hb⟩, ⟨c, rfl, hc⟩⟩ := triple_of hok
      exact ⟨(a, b, c), fun _ => ⟨e, ha, hb, hc⟩⟩
    · exact ⟨(0, 0, 0), fun h => absurd h hi⟩
  refine ⟨fun i => (key i).choose.1, fun i => (key i).choose.2.1, fun i => (key i).choose.2.2, fun i hi => ?_⟩
  have hD := (key i).choose_spec hi
  obtain ⟨b, off, e, hb, hc⟩ := rows_of h (by simp) i hi
  refine ⟨b, off, e, hb, ?_, ?_, ?_, (bounds_u64 hD.2.2.1).1, (bounds_u64 hD.2.2.1).2, (bounds_u64 hD.2.2.2).1, (bounds_u64 hD.2.2.2).2, (bounds_i64 hD.2.1).1, (bounds_i64 hD.2.1).2⟩
  · have := hc i 0 hi (by simp)
    rw [hD.1] at this
    simpa using this
  · have := hc i 1 hi (by simp)
    rw [hD.1] at this
    simpa [Nat.add_assoc] using this
  · have := hc i 2 hi (by simp)
    rw [hD.1] at this
    simpa [Nat.add_assoc] using this
theorem rlow {w : World} {base r c : Nat} {s : Ms} (h : IsR w base r s c) : base ≤ r := by
  obtain ⟨v, L, kb, ks, kr, hb1, hb2⟩ := h
  exact hb1
theorem keepM {w w' : World} {base r m c : Nat} {s s2 : Ms} (k : IsM w m s2) (h : IsR w base r s c) (o : Only (· = r) w w') : IsM w' m s2 := by
  obtain ⟨v, L, kb, ks, kr, hb1, hb2⟩ := h
  exact Blk.only k o (Blk.ne k kb (by decide))
def Rel (w : World) (m r : Nat) (b p : Int) (n : Nat) (nv iv : Value) (wr : World) : Prop :=
  ∃ (k : Nat) (N : Int) (s : Ms), nv = .int .u64 N ∧ iv = .int .i64 k ∧ k ≤ 100 ∧ 0 ≤ N ∧ N ≤ 18446744073709551615 ∧ s.ok ∧ IsM wr m s ∧ IsR wr (W0 w b p).heap.size r s k ∧ Below (W0 w b p).heap.size (W0 w b p) wr
set_option maxRecDepth 100000 in
set_option maxHeartbeats 8000000 in
theorem walk2 (w : World) (b p : Int) (bb : 0 ≤ b) (bb' : b ≤ 18446744073709551615) (bp : 0 ≤ p) (bp' : p ≤ 18446744073709551615) (f : Int) (f0 : 0 ≤ f) (f1 : f ≤ 18446744073709551615) (A : Option Addr) (n cap : Nat) (K Wt V : Nat → Int) (hA : Hid (Script w A n K Wt V)) (hn9 : n ≤ 140737488351232) :
    Calls Try.prog 3 #[.agg #[.int .u64 b, .int .u64 p], .int .u64 f, .slice A n cap] w fun e w' => e = .returned (.bool true) ∧ Below w.heap.size w w' := by
  have M1 := fun W => Lib.hid (maym_any b p W bb bb' bp bp')
  have M2 := fun W => Lib.hid (rmaym_any b p W bb bb' bp bp')
  have BOX := Lib.hid (boxm w b p)
  cases h1 : mayM b p with
  | false =>
    rw [h1] at M1 M2
    have C1 := fun W => Lib.hid (newM_no b p f W bb bb' bp bp' f0 f1 h1)
    clear h1
    go_enter Try.func3, Try.ntmps3
    go_wp2_with (first
        | (go_at_call 8; (with_reducible refine Calls.mono (awake_any _) ?_); rintro e w0 ⟨rfl, bel0⟩
           have HB := Lib.hid bel0; clear bel0; obtain ⟨q0, q1⟩ := BOX.out _ HB.out)
        | (go_at_call 9; (with_reducible refine Calls.mono (C1 _).out ?_); rintro e w1 ⟨rfl, bel0⟩
           have HB := Lib.hid (Below.next HB.out bel0); clear bel0; obtain ⟨q0, q1⟩ := BOX.out _ HB.out))
    have hs0 := HB.out.size
    simp only [World.size_alloc] at hs0
    have g0 := SubW.cell q0 (by omega)
    have g1 := SubW.cell q1 (by omega)
    refine wp_region_sub (by kernel_rfl) (by kernel_rfl) ?_
    repeat (go_big_quiet_step (first | (go_at_call 10; exact sub_call _ (M1 _).out) | (go_at_call 11; exact sub_call _ (M2 _).out)))
    refine wpQuiet_nil ?_
    intro _ hw'
    obtain ⟨⟨w5, hw5⟩, rfl⟩ := hw'
    have HB := Lib.hid (Below.next HB.out hw5)
    clear g0 g1 hw5 q0 q1 hs0
    obtain ⟨q0, q1⟩ := BOX.out _ HB.out
    go_wp2_with (first
        | (go_at_call 11; (with_reducible refine Calls.mono (M2 _).out ?_); rintro e w1 ⟨rfl, bel0⟩
           have HB := Lib.hid (Below.next HB.out bel0); clear bel0; obtain ⟨q0, q1⟩ := BOX.out _ HB.out))
    go_ret
    exact ⟨rfl, Below.next ((Below.refl _ _).alloc (Nat.le_refl _) _) HB.out⟩
  | true =>
    rw [h1] at M1 M2
    by_cases h2 : 4611686018427387904 ≤ f
    · have C1 := fun W => Lib.hid (newM_far b p f W bb bb' bp bp' f0 f1 h1 h2)
      have d1 : decide (4611686018427387904 ≤ f) = true := decide_eq_true h2
      clear h1
      go_enter Try.func3, Try.ntmps3
      go_wp2_with (first
        | (go_at_call 8; (with_reducible refine Calls.mono (awake_any _) ?_); rintro e w0 ⟨rfl, bel0⟩
           have HB := Lib.hid bel0; clear bel0; obtain ⟨q0, q1⟩ := BOX.out _ HB.out)
        | (go_at_call 9; (with_reducible refine Calls.mono (C1 _).out ?_); rintro e w1 ⟨rfl, bel0⟩
           have HB := Lib.hid (Below.next HB.out bel0); clear bel0; obtain ⟨q0, q1⟩ := BOX.out _ HB.out))
      have hs0 := HB.out.size
      simp only [World.size_alloc] at hs0
      have g0 := SubW.cell q0 (by omega)
      have g1 := SubW.cell q1 (by omega)
      refine wp_region_sub (by kernel_rfl) (by kernel_rfl) ?_
      repeat (go_big_quiet_step (first | (go_at_call 10; exact sub_call _ (M1 _).out) | (go_at_call 11; exact sub_call _ (M2 _).out)))
      refine wpQuiet_nil ?_
      intro _ hw'
      obtain ⟨⟨w5, hw5⟩, rfl⟩ := hw'
      have HB := Lib.hid (Below.next HB.out hw5)
      clear g0 g1 hw5 q0 q1 hs0
      obtain ⟨q0, q1⟩ := BOX.out _ HB.out
      go_wp2_with (first
        | (go_at_call 11; (with_reducible refine Calls.mono (M2 _).out ?_); rintro e w1 ⟨rfl, bel0⟩
           have HB := Lib.hid (Below.next HB.out bel0); clear bel0; obtain ⟨q0, q1⟩ := BOX.out _ HB.out))
      go_ret
      exact ⟨rfl, Below.next ((Below.refl _ _).alloc (Nat.le_refl _) _) HB.out⟩
    · have C1 := fun W => Lib.hid (newM_any b p f W bb bb' bp bp' f0 f1 h1 (by omega))
      have C2 := fun W base hb => Lib.hid (rnewM_any b p f W base hb f0 f1)
      have d1 : decide (4611686018427387904 ≤ f) = false := decide_eq_false h2
      have B1 := Lib.hid h1
      clear h1
      go_enter Try.func3, Try.ntmps3
      go_wp2_with (first
        | (go_at_call 8; (with_reducible refine Calls.mono (awake_any _) ?_); rintro e w0 ⟨rfl, bel0⟩
           have HB := Lib.hid bel0; clear bel0; obtain ⟨q0, q1⟩ := BOX.out _ HB.out)
        | (go_at_call 9; (with_reducible refine Calls.mono (C1 _).out ?_); rintro e w1 ⟨m, rfl, hb, kb, bel0⟩
           have hwm := Nat.le_trans HB.out.size hb
           have KM := Lib.hid kb
           have HB := Lib.hid (Below.next HB.out bel0); clear bel0 kb; obtain ⟨q0, q1⟩ := BOX.out _ HB.out))
      have hs0 := HB.out.size
      simp only [World.size_alloc] at hs0
      have g0 := SubW.cell q0 (by omega)
      have g1 := SubW.cell q1 (by omega)
      refine wp_region_sub (by kernel_rfl) (by kernel_rfl) ?_
      repeat (go_big_quiet_step (first | (go_at_call 10; exact sub_call _ (M1 _).out) | (go_at_call 11; exact sub_call _ (M2 _).out)))
      refine wpQuiet_nil ?_
      intro _ hw'
      obtain ⟨⟨w5, hw5⟩, rfl⟩ := hw'
      have KM := Lib.hid (show IsM _ m _ from Blk.below KM.out hw5 (Blk.lt KM.out))
      have HB := Lib.hid (Below.next HB.out hw5)
      clear g0 g1 hw5 q0 q1 hs0
      obtain ⟨q0, q1⟩ := BOX.out _ HB.out
      go_wp2_with (first
        | (go_at_call 11; (with_reducible refine Calls.mono (M2 _).out ?_); rintro e w6 ⟨rfl, bel0⟩
           have KM := Lib.hid (show IsM w6 m _ from Blk.below KM.out bel0 (Blk.lt KM.out))
           have HB := Lib.hid (Below.next HB.out bel0); clear bel0; obtain ⟨q0, q1⟩ := BOX.out _ HB.out
           have hsz : (W0 w b p).heap.size ≤ w6.heap.size := HB.out.size)
        | (go_at_call 12; (with_reducible refine Calls.mono (C2 _ _ hsz).out ?_); rintro e w7 ⟨r, rfl, kr, bel0⟩
           have KM := Lib.hid (show IsM w7 m _ from Blk.below KM.out bel0 (Blk.lt KM.out))
           have KR := Lib.hid kr
           have HB := Lib.hid (Below.next HB.out bel0); clear bel0 kr; obtain ⟨q0, q1⟩ := BOX.out _ HB.out))
      go_loopw [10, 11] (fun nv iv wr => Hid (Rel w m r b p n nv iv wr)) (fun _ iv _ => 100 - (intOf iv).toNat)
      case atStart => exact ⟨0, f, _, rfl, rfl, by omega, f0, f1, m0_ok B1.out f0 (by omega), KM.out, KR.out, HB.out⟩
      case round =>
        clear KM KR HB q0 q1
        obtain ⟨k, N, s, rfl, rfl, hk, hN0, hN1, ok, km, kr, hbel⟩ := hrel
        have KM := Lib.hid km
        have KR := Lib.hid kr
        have BEL := Lib.hid hbel
        obtain ⟨q0, q1⟩ := BOX.out _ hbel
        by_cases hkn : k < n ∧ k < 100
        · obtain ⟨hkn, hk100⟩ := hkn
          obtain ⟨ab, ao, rfl, hlt, hc0, hc1, hc2, hw0, hw1, hv0, hv1, hk0, hk1⟩ := hA.out k hkn
          have hbw : Below w.heap.size w wr := Below.next ((Below.refl _ _).alloc (Nat.le_refl _) _) hbel
          have hcell0 := (hbw.cell (p := ⟨ab, ao + k * 3, none⟩) hlt).trans hc0
          have hcell1 := (hbw.cell (p := ⟨ab, ao + k * 3 + 1, none⟩) hlt).trans hc1
          have hcell2 := (hbw.cell (p := ⟨ab, ao + k * 3 + 2, none⟩) hlt).trans hc2
          generalize Wt k = u at *
          generalize V k = v at *
          generalize K k = kd at *
          have n1 : 0 ≤ IntKind.u64.wrap (N + u) := by rw [IntKind.wrap_u64]; omega
          have n2 : IntKind.u64.wrap (N + u) ≤ 18446744073709551615 := by rw [IntKind.wrap_u64]; omega
          generalize hN' : IntKind.u64.wrap (N + u) = N' at *
          clear hc0 hc1 hc2 hbel hbw km kr
          have hk3 : (k : Int) < n := by omega
          have hk4 : (k : Int) < 100 := by omega
          by_cases hkd : kd = 0
          · subst hkd
            have c1 := fun W (kk : IsM W m s) => takem_any kk ok N' v (by omega) (by omega) (by omega) (by omega)
            have c2 := fun W (kk : IsR W (W0 w b p).heap.size r s k) => rtakem_any kk (by omega) ok N' v (by omega) (by omega) (by omega) (by omega)
            have ok1 := takeM_ok ok N' v (by omega)
            generalize takeM N' v s = res at *
            obtain ⟨⟨r1, r2⟩, s1⟩ := res
            simp only at c1 c2 ok1
            have c3 := fun W (kk : IsM W m s1) => leftm_any kk ok1 N' (by omega) (by omega)
            have c4 := fun W (kk : IsR W (W0 w b p).heap.size r s1 (k + 1)) => rleftm_any kk (by omega) ok1 N' (by omega) (by omega)
            have ok2 := leftM_ok ok1 N'
            generalize leftM N' s1 = res2 at *
            obtain ⟨⟨x1, x2⟩, s2⟩ := res2
            simp only at c3 c4 ok2
            have T1 := fun W kk => Lib.hid (c1 W kk)
            have T2 := fun W kk => Lib.hid (c2 W kk)
            have T3 := fun W kk => Lib.hid (c3 W kk)
            have T4 := fun W kk => Lib.hid (c4 W kk)
            have OK := Lib.hid ok2
            clear c1 c2 c3 c4 ok1 ok2 ok
            have KMd := Lib.hid (show IsM (wr.alloc (.cells #[.int .i64 0, .int .u64 u, .int .u64 v] 35)) m s from Blk.alloc KM.out _)
            have KRd := Lib.hid (IsR.below KR.out ((Below.refl wr.heap.size wr).alloc (Nat.le_refl _) (.cells #[.int .i64 0, .int .u64 u, .int .u64 v] 35)))
            have BELd := Lib.hid (BEL.out.alloc BEL.out.size (.cells #[.int .i64 0, .int .u64 u, .int .u64 v] 35))
            have hmr : wr.heap.size ≠ m := by have := Blk.lt KM.out; omega
            go_wp2_with (first
              | (go_at_call 13; (with_reducible refine Calls.mono (T1 _ KMd.out).out ?_); rintro e w2 ⟨rfl, k2, o2⟩
                 have HB2 := Lib.hid (Below.only BELd.out o2 hwm)
                 have KM2 := Lib.hid k2
                 have KR2 := Lib.hid (IsR.only KRd.out KMd.out o2)
                 have dq2 : w2.cell? ⟨wr.heap.size, 2, none⟩ = some (.int .u64 v) := (Blk.only (Blk.new wr 35 [.int .i64 0, .int .u64 u, .int .u64 v]) o2 hmr).cell 2
                 clear k2 o2)
              | (go_at_call 14; (with_reducible refine Calls.mono (T2 _ KR2.out).out ?_); rintro e w3 ⟨rfl, k3, bel3, hm3⟩
                 have HB3 := Lib.hid (HB2.out.trans bel3)
                 have KM3 := Lib.hid (hm3 _ _ KM2.out)
                 have KR3 := Lib.hid k3
                 clear k3 bel3 hm3)
              | (go_at_call 17; (with_reducible refine Calls.mono (T3 _ KM3.out).out ?_); rintro e w4 ⟨rfl, k4, o4⟩
                 have HB4 := Lib.hid (Below.only HB3.out o4 hwm)
                 have KM4 := Lib.hid k4
                 have KR4 := Lib.hid (IsR.only KR3.out KM3.out o4)
                 clear k4 o4)
              | (go_at_call 18; (with_reducible refine Calls.mono (T4 _ KR4.out).out ?_); rintro e w5 ⟨rfl, k5, o5⟩
                 have HB5 := Lib.hid (Below.only HB4.out o5 (rlow KR4.out))
                 have KM5 := Lib.hid (keepM KM4.out KR4.out o5)
                 have KR5 := Lib.hid k5
                 clear k5 o5
                 obtain ⟨q0, q1⟩ := BOX.out _ HB5.out))
            go_roundw
            case rel => exact ⟨k + 1, N', s2, rfl, by go_num, by omega, by omega, by omega, OK.out, KM5.out, KR5.out, HB5.out⟩
            case measure => simp [intOf]; omega
          · have hz : (kd == 0) = false := beq_eq_false_iff_ne.2 hkd
            have c1 := fun W (kk : IsM W m s) => waitm_any kk ok N' (by omega) (by omega)
            have c2 := fun W (kk : IsR W (W0 w b p).heap.size r s k) => rwaitm_any kk (by omega) ok N' (by omega) (by omega)
            have ok1 := waitM_ok ok N'
            generalize waitM N' s = res at *
            obtain ⟨⟨r1, r2⟩, s1⟩ := res
            simp only at c1 c2 ok1
            have c3 := fun W (kk : IsM W m s1) => leftm_any kk ok1 N' (by omega) (by omega)
            have c4 := fun W (kk : IsR W (W0 w b p).heap.size r s1 (k + 1)) => rleftm_any kk (by omega) ok1 N' (by omega) (by omega)
            have ok2 := leftM_ok ok1 N'
            generalize leftM N' s1 = res2 at *
            obtain ⟨⟨x1, x2⟩, s2⟩ := res2
            simp only at c3 c4 ok2
            have T1 := fun W kk => Lib.hid (c1 W kk)
            have T2 := fun W kk => Lib.hid (c2 W kk)
            have T3 := fun W kk => Lib.hid (c3 W kk)
            have T4 := fun W kk => Lib.hid (c4 W kk)
            have OK := Lib.hid ok2
            clear c1 c2 c3 c4 ok1 ok2 ok
            have KMd := Lib.hid (show IsM (wr.alloc (.cells #[.int .i64 kd, .int .u64 u, .int .u64 v] 35)) m s from Blk.alloc KM.out _)
            have KRd := Lib.hid (IsR.below KR.out ((Below.refl wr.heap.size wr).alloc (Nat.le_refl _) (.cells #[.int .i64 kd, .int .u64 u, .int .u64 v] 35)))
            have BELd := Lib.hid (BEL.out.alloc BEL.out.size (.cells #[.int .i64 kd, .int .u64 u, .int .u64 v] 35))
            have hmr : wr.heap.size ≠ m := by have := Blk.lt KM.out; omega
            go_wp2_with (first
              | (go_at_call 15; (with_reducible refine Calls.mono (T1 _ KMd.out).out ?_); rintro e w2 ⟨rfl, k2, o2⟩
                 have HB2 := Lib.hid (Below.only BELd.out o2 hwm)
                 have KM2 := Lib.hid k2
                 have KR2 := Lib.hid (IsR.only KRd.out KMd.out o2)
                 have dq2 : w2.cell? ⟨wr.heap.size, 2, none⟩ = some (.int .u64 v) := (Blk.only (Blk.new wr 35 [.int .i64 kd, .int .u64 u, .int .u64 v]) o2 hmr).cell 2
                 clear k2 o2)
              | (go_at_call 16; (with_reducible refine Calls.mono (T2 _ KR2.out).out ?_); rintro e w3 ⟨rfl, k3, o3⟩
                 have HB3 := Lib.hid (Below.only HB2.out o3 (rlow KR2.out))
                 have KM3 := Lib.hid (keepM KM2.out KR2.out o3)
                 have KR3 := Lib.hid (IsR.more k3 (Nat.le_succ k))
                 clear k3 o3)
              | (go_at_call 17; (with_reducible refine Calls.mono (T3 _ KM3.out).out ?_); rintro e w4 ⟨rfl, k4, o4⟩
                 have HB4 := Lib.hid (Below.only HB3.out o4 hwm)
                 have KM4 := Lib.hid k4
                 have KR4 := Lib.hid (IsR.only KR3.out KM3.out o4)
                 clear k4 o4)
              | (go_at_call 18; (with_reducible refine Calls.mono (T4 _ KR4.out).out ?_); rintro e w5 ⟨rfl, k5, o5⟩
                 have HB5 := Lib.hid (Below.only HB4.out o5 (rlow KR4.out))
                 have KM5 := Lib.hid (keepM KM4.out KR4.out o5)
                 have KR5 := Lib.hid k5
                 clear k5 o5
                 obtain ⟨q0, q1⟩ := BOX.out _ HB5.out))
            go_roundw
            case rel => exact ⟨k + 1, N', s2, rfl, by go_num, by omega, by omega, by omega, OK.out, KM5.out, KR5.out, HB5.out⟩
            case measure => simp [intOf]; omega
        · rcases (show ¬ k < n ∨ (k < n ∧ ¬ k < 100) by omega) with q | ⟨q, q2⟩
          · have hk3 : ¬ (k : Int) < n := by omega
            go_wp2_with fail
            go_ret
            exact ⟨rfl, Below.next ((Below.refl _ _).alloc (Nat.le_refl _) _) hbel⟩
          · have hk3 : (k : Int) < n := by omega
            have hk4 : ¬ (k : Int) < 100 := by omega
            go_wp2_with fail
            go_ret
            exact ⟨rfl, Below.next ((Below.refl _ _).alloc (Nat.le_refl _) _) hbel⟩
theorem walk (w : World) (cs : List Value) (ws : AllOk [some .u64, some .u64] cs) (f : Int) (w1 : (Lit.int .u64 f).wf = true) (A : Option Addr) (n cap : Nat) (D : Nat → List Value) (w2 : Elems w [some .i64, some .u64, some .u64] A n D) (hl : n * 24 ≤ 140737488351232) :
    Calls Try.prog 3 #[.agg ⟨cs⟩, .int .u64 f, .slice A n cap] w fun e w' => e = .returned (.bool true) ∧ Below w.heap.size w w' := by
  obtain ⟨b, p, rfl, b1, b2, b3, b4⟩ := shareOf ws
  obtain ⟨f0, f1⟩ := bounds_u64 w1
  obtain ⟨K, Wt, V, hA⟩ := script_of w2
  exact walk2 w b p b1 b2 b3 b4 f f0 f1 A n cap K Wt V hA (by omega)
end sharePlays
namespace sharePlays
theorem own : ownKnob Try.prog.godebug = none := by kernel_rfl
set_option maxRecDepth 100000 in
theorem lifted (os : Os) (started : os.Started) (H : Type) (enc : TypeId × Value → H) :
    ReturnsInHanded {} Try.checked os 3 .any (Rows.sharePlaysSpec.pre6 enc Try.prog Try.f3 Rows.sharePlaysRow.domain false) (Rows.sharePlaysSpec.post enc Try.prog Try.f3 false true false false) := by
  refine returnsInHanded_of_change_sized (C := Try.checked) own started (by kernel_rfl) Try.func3
    (ChangeSpec.witness6 (enc := enc) (C := Try.checked) false ⟨#[], #[.agg #[.int .u64 0, .int .u64 0], .int .u64 0, .slice none 0 0], []⟩ 8 (by kernel_rfl) (by kernel_rfl) (by kernel_rfl) (by kernel_rfl)) ?_
  intro W base args ds gs before hval0 hW hcnd hsz0 _
  have hsz : (DataW.weightsEach Try.prog (Try.f3.params.toList ++ Rows.sharePlaysSpec.plain.varTypes Try.prog) (ds ++ gs)).all (· ≤ reachBytes) = true := hsz0
  have hval : ∀ (j : Nat) t v, Try.f3.params[j]? = some t → args[j]? = some v → Value.okWide Try.prog W .any base t v := hval0
  have hW' := hW
  obtain ⟨p, q, hA0, hV, rfl, hfz, hnd⟩ := hW
  have hA : DataW.TrodAll enc Try.prog W 0 (fun _ => true) true Try.f3.params.toList args.toList ds p := hA0
  rw [Try.params3] at hA hval hsz
  obtain ⟨v0, vs0, d0, ds0, p0, q0, hargs, rfl, rfl, h0, r0⟩ := trodAll_cons hA
  obtain ⟨v1, vs1, d1, ds1, p1, q1, rfl, rfl, rfl, h1, r1⟩ := trodAll_cons r0
  obtain ⟨v2, vs2, d2, ds2, p2, q2, rfl, rfl, rfl, h2, r2⟩ := trodAll_cons r1
  obtain ⟨rfl, rfl, rfl⟩ := trodAll_nil r2
  obtain rfl : args = #[v0, v1, v2] := by cases args; simp_all
  obtain ⟨rfl, rfl⟩ := trodVars_none hV
  obtain ⟨c0, rfl, w0⟩ := arg_agg [some .u64, some .u64] (by first | exact .inl ⟨_, Try.underlying24⟩ | exact .inr ⟨_, _, Try.underlying24⟩) 6 (by kernel_rfl) (by kernel_rfl) (hval 0 24 v0 rfl rfl) h0
  obtain ⟨a1, rfl, w1⟩ := arg_one Try.underlying22 (hval 1 22 v1 rfl rfl) h1
  obtain ⟨A2, n2, cap2, D2, rfl, w2, m2, z2⟩ := arg_slice [some .i64, some .u64, some .u64] Try.underlying25 6 (by kernel_rfl) (by kernel_rfl) (hval 2 25 v2 rfl rfl) h2
  have l2 : n2 * Try.prog.bytesOf 35 ≤ reachBytes := by
    rcases z2 with ⟨_, e⟩ | ⟨es, sp, e, el⟩
    · subst e; simp
    · subst e; subst el; exact Nat.le_trans (Nat.mul_le_mul_right _ (Nat.le_add_right _ _)) (sized_slice hsz (j := 2) (t := 25) (e := 35) rfl rfl Try.underlying25)
  have b2 : Try.prog.bytesOf 35 = 24 := by kernel_rfl
  rw [b2] at l2
  simp only [reachBytes] at l2
  clear z2 b2
  clear hA0 hval0 hsz0 hsz
  refine (walk W c0 w0 a1 w1 A2 n2 cap2 D2 w2 l2).mono fun e W' ⟨he, bel⟩ => ?_
  subst he
  exact ⟨_, rfl, _, _, _, [], _, [], hW', trodAll_mk1 (shut_bool Try.underlying4 _), (trodAll_cons_mk (Below.trod laidOut (by kernel_rfl) (of_decide_eq_true (by kernel_rfl)) h0 bel (fun x hx => by simpa using hW'.lt x (by simp [hx]))) (trodAll_cons_mk (Below.trod laidOut (by kernel_rfl) (of_decide_eq_true (by kernel_rfl)) h1 bel (fun x hx => by simpa using hW'.lt x (by simp [hx]))) (trodAll_cons_mk (Below.trod laidOut (by kernel_rfl) (of_decide_eq_true (by kernel_rfl)) h2 bel (fun x hx => by simpa using hW'.lt x (by simp [hx]))) trodAll_mk0))), rfl, bel.frame _, fun h => by cases h⟩
theorem over : Rows.sharePlaysRow.holds Try.pinned (OpenSpec.ofChange Rows.sharePlaysSpec) :=
  OpenClaim.holds_of_wide 3 Try.f3 rfl rfl rfl rfl rfl rfl rfl ⟨rfl, rfl, rfl, rfl, rfl⟩ rfl rfl rfl rfl rfl (by kernel_rfl) Try.func3 (by kernel_rfl)
    (of_decide_eq_true (by kernel_rfl)) (by unfold Func.isWrapper; first | (rw [if_pos (by decide +kernel)]; kernel_rfl) | (rw [if_neg (by decide +kernel)]; exact ⟨rfl, rfl⟩))
    (fun os started H enc _ => lifted os started H enc)
end sharePlays
theorem sharePlays_holds : Rows.SharePlaysSaid := sharePlays.over
#print axioms sharePlays_holds
end Go.Proofs.Ytjhocfebopclhaa
