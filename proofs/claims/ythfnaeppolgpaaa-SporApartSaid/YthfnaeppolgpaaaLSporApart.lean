/- SporApart: two servers' budgets don't touch one another; what is left is never above the budget, nor below nothing. No condition. -/
import Derived.Test.YthfnaeppolgpaaaSporLaw
import Derived.Test.YthfnaeppolgpaaaArg
import Derived.Test.YthfnaeppolgpaaaRows
import Derived.ProofKit
import Derived.OpenShut
import Derived.ShutString
import Derived.ChangeOld
import Derived.Below
import Derived.SizedLaws
namespace Go.Proofs.Ythfnaeppolgpaaa
open Go.ChangeShapes Go.WideShapes Go.ChangeAt Go.RowKit
open Go.ChangeMaps (open_string shut_string)
set_option linter.unusedVariables false
set_option linter.unusedSimpArgs false
namespace sporApart
def W0 (w : World) (u p uo po : Int) : World := (w.alloc (.cells #[.int .i64 u, .int .u64 p] 24)).alloc (.cells #[.int .i64 uo, .int .u64 po] 24)
def Rel (w : World) (a b c n : Nat) (u p uo po : Int) (nv iv : Value) (wr : World) : Prop :=
  ∃ (k : Nat) (N : Int) (s z : Bs), nv = .int .u64 N ∧ iv = .int .i64 k ∧ k ≤ n ∧ 0 ≤ N ∧ N ≤ 1000 * k ∧ s.ok ∧ z.ok ∧ s.u = u ∧ z.u = uo ∧ IsB wr a s false ∧ IsB wr b z false ∧ IsB wr c z false ∧ Below (W0 w u p uo po).heap.size (W0 w u p uo po) wr
theorem two_boxes (w : World) (u p uo po : Int) (W : World) (h : Below ((w.alloc (.cells #[.int .i64 u, .int .u64 p] 24)).alloc (.cells #[.int .i64 uo, .int .u64 po] 24)).heap.size ((w.alloc (.cells #[.int .i64 u, .int .u64 p] 24)).alloc (.cells #[.int .i64 uo, .int .u64 po] 24)) W) :
    W.cell? ⟨w.heap.size, 0, none⟩ = some (.int .i64 u) ∧ W.cell? ⟨w.heap.size, 1, none⟩ = some (.int .u64 p) ∧ W.cell? ⟨w.heap.size + 1, 0, none⟩ = some (.int .i64 uo) ∧ W.cell? ⟨w.heap.size + 1, 1, none⟩ = some (.int .u64 po) := by
  have k1 := ((Blk.new w 24 [.int .i64 u, .int .u64 p]).alloc (.cells #[.int .i64 uo, .int .u64 po] 24)).below h (by simp; omega)
  have k2 := (Blk.new (w.alloc (.cells #[.int .i64 u, .int .u64 p] 24)) 24 [.int .i64 uo, .int .u64 po]).below h (by simp)
  simp only [World.size_alloc] at k2
  exact ⟨k1.cell 0, k1.cell 1, k2.cell 0, k2.cell 1⟩
set_option maxRecDepth 100000 in
set_option maxHeartbeats 8000000 in
theorem walk2 (w : World) (u p uo po : Int) (bu : -9223372036854775808 ≤ u) (bu' : u ≤ 9223372036854775807) (bp : 0 ≤ p) (bp' : p ≤ 18446744073709551615)
    (bo : -9223372036854775808 ≤ uo) (bo' : uo ≤ 9223372036854775807) (bq : 0 ≤ po) (bq' : po ≤ 18446744073709551615)
    (A : Option Addr) (n cap : Nat) (R : Nat → Bool) (Wt : Nat → Int) (hA : Hid (Script w A n R Wt)) (hn : n ≤ 140737488351232) :
    Calls Try.prog 6 #[.agg #[.int .i64 u, .int .u64 p], .agg #[.int .i64 uo, .int .u64 po], .slice A n cap] w fun e w' => e = .returned (.bool true) ∧ Below w.heap.size w w' := by
  have M1 := fun W => Lib.hid (rmays_any u p W bu bu' bp bp')
  have M2 := fun W => Lib.hid (rmays_any uo po W bo bo' bq bq')
  cases h1 : mayS u p with
  | false =>
    rw [h1] at M1
    clear h1
    have BOX := Lib.hid (two_boxes w u p uo po)
    go_enter Try.func6, Try.ntmps6
    go_wp2_with (first
      | (go_at_call 7; (with_reducible refine Calls.mono (awake_any _) ?_); rintro e w0 ⟨rfl, bel0⟩
         have HB := Lib.hid bel0; clear bel0; obtain ⟨q0, q1, q2, q3⟩ := BOX.out _ HB.out)
      | (go_at_call 9; (with_reducible refine Calls.mono (M1 _).out ?_); rintro e w0 ⟨rfl, bel0⟩
         have HB := Lib.hid (Below.next HB.out bel0); clear bel0; obtain ⟨q0, q1, q2, q3⟩ := BOX.out _ HB.out)
      | (go_at_call 9; (with_reducible refine Calls.mono (M2 _).out ?_); rintro e w0 ⟨rfl, bel0⟩
         have HB := Lib.hid (Below.next HB.out bel0); clear bel0; obtain ⟨q0, q1, q2, q3⟩ := BOX.out _ HB.out))
    go_ret
    exact ⟨rfl, Below.next (((Below.refl _ _).alloc (Nat.le_refl _) _).alloc (by simp) _) HB.out⟩
  | true =>
    rw [h1] at M1
    cases h2 : mayS uo po with
    | false =>
      rw [h2] at M2
      clear h1 h2
      have BOX := Lib.hid (two_boxes w u p uo po)
      go_enter Try.func6, Try.ntmps6
      go_wp2_with (first
        | (go_at_call 7; (with_reducible refine Calls.mono (awake_any _) ?_); rintro e w0 ⟨rfl, bel0⟩
           have HB := Lib.hid bel0; clear bel0; obtain ⟨q0, q1, q2, q3⟩ := BOX.out _ HB.out)
        | (go_at_call 9; (with_reducible refine Calls.mono (M1 _).out ?_); rintro e w0 ⟨rfl, bel0⟩
           have HB := Lib.hid (Below.next HB.out bel0); clear bel0; obtain ⟨q0, q1, q2, q3⟩ := BOX.out _ HB.out)
        | (go_at_call 9; (with_reducible refine Calls.mono (M2 _).out ?_); rintro e w0 ⟨rfl, bel0⟩
           have HB := Lib.hid (Below.next HB.out bel0); clear bel0; obtain ⟨q0, q1, q2, q3⟩ := BOX.out _ HB.out))
      go_ret
      exact ⟨rfl, Below.next (((Below.refl _ _).alloc (Nat.le_refl _) _).alloc (by simp) _) HB.out⟩
    | true =>
      rw [h2] at M2
      have C1 := fun W => Lib.hid (newB_any u p W bu bu' bp bp' h1)
      have C2 := fun W => Lib.hid (newB_any uo po W bo bo' bq bq' h2)
      have B1 := Lib.hid h1
      have B2 := Lib.hid h2
      clear h1 h2
      have BOX := Lib.hid (two_boxes w u p uo po)
      go_enter Try.func6, Try.ntmps6
      go_wp2_with (first
        | (go_at_call 7; (with_reducible refine Calls.mono (awake_any _) ?_); rintro e w0 ⟨rfl, bel0⟩
           have HB := Lib.hid bel0; clear bel0; obtain ⟨q0, q1, q2, q3⟩ := BOX.out _ HB.out)
        | (go_at_call 9; (with_reducible refine Calls.mono (M1 _).out ?_); rintro e w0 ⟨rfl, bel0⟩
           have HB := Lib.hid (Below.next HB.out bel0); clear bel0; obtain ⟨q0, q1, q2, q3⟩ := BOX.out _ HB.out)
        | (go_at_call 9; (with_reducible refine Calls.mono (M2 _).out ?_); rintro e w0 ⟨rfl, bel0⟩
           have HB := Lib.hid (Below.next HB.out bel0); clear bel0; obtain ⟨q0, q1, q2, q3⟩ := BOX.out _ HB.out)
        | (go_at_call 8; (with_reducible refine Calls.mono (C1 _).out ?_); rintro e w1 ⟨a, rfl, ha, ka, bel0⟩
           have hwa := Nat.le_trans HB.out.size ha
           have HB := Lib.hid (Below.next HB.out bel0); clear bel0; obtain ⟨q0, q1, q2, q3⟩ := BOX.out _ HB.out)
        | (have mark := kb; clear mark; go_at_call 8; (with_reducible refine Calls.mono (C2 _).out ?_); rintro e w3 ⟨c, rfl, hc, kc, bel0⟩
           have hwc := Nat.le_trans HB.out.size hc
           have hbc := Nat.lt_of_lt_of_le kb.lt hc
           have hac := Nat.lt_of_lt_of_le ka.lt hc
           replace ka := ka.below bel0
           replace kb := kb.below bel0
           have HB := Lib.hid (Below.next HB.out bel0); clear bel0; obtain ⟨q0, q1, q2, q3⟩ := BOX.out _ HB.out)
        | (go_at_call 8; (with_reducible refine Calls.mono (C2 _).out ?_); rintro e w2 ⟨b, rfl, hb, kb, bel0⟩
           have hwb := Nat.le_trans HB.out.size hb
           have hab := Nat.lt_of_lt_of_le ka.lt hb
           replace ka := ka.below bel0
           have HB := Lib.hid (Below.next HB.out bel0); clear bel0; obtain ⟨q0, q1, q2, q3⟩ := BOX.out _ HB.out))
      have hW : w.heap.size + 2 = ((w.alloc (.cells #[.int .i64 u, .int .u64 p] 24)).alloc (.cells #[.int .i64 uo, .int .u64 po] 24)).heap.size := by simp
      go_loopw [13, 14] (fun nv iv wr => Hid (Rel w a b c n u p uo po nv iv wr)) (fun _ iv _ => n - (intOf iv).toNat)
      case atStart =>
        exact ⟨0, 0, ⟨u, p, [], 0⟩, ⟨uo, po, [], 0⟩, rfl, rfl, by omega, by omega, by omega, b0_ok B1.out, b0_ok B2.out, rfl, rfl, ka.weak, kb.weak, kc.weak, HB.out⟩
      case round =>
        obtain ⟨k, N, s, z, rfl, rfl, hk, hN0, hN1, oks, okz, hsu, hzu, ka, kb, kc, hbel⟩ := hrel
        have BEL := Lib.hid hbel
        obtain ⟨q0, q1, q2, q3⟩ := BOX.out _ hbel
        by_cases hkn : k < n ∧ k < 150
        · obtain ⟨hkn, hk150⟩ := hkn
          obtain ⟨ab, ao, rfl, hlt, hc0, hc1, hw0, hw1⟩ := hA.out k hkn
          have hbw : Below w.heap.size w wr := Below.next (((Below.refl _ _).alloc (Nat.le_refl _) _).alloc (by simp) _) hbel
          have hcell0 := (hbw.cell (p := ⟨ab, ao + k * 2, none⟩) hlt).trans hc0
          have hcell1 := (hbw.cell (p := ⟨ab, ao + k * 2 + 1, none⟩) hlt).trans hc1
          generalize hU' : Wt k = v at *
          generalize hR' : R k = r at *
          have hv0 : 0 ≤ v % 1000 := by omega
          have hv1 : v % 1000 < 1000 := by omega
          have KA := Lib.hid ka
          have KB := Lib.hid kb
          have KC := Lib.hid kc
          clear hU' hR' hc0 hc1 hbel hbw ka kb kc
          cases r with
          | true =>
            have okS := useB_ok oks (N + v % 1000) (by omega)
            have huS := useB_u (N + v % 1000) s
            have U1 := Lib.hid (use_any KA.out oks (N + v % 1000) (by omega) (by omega))
            generalize hgg : useB (N + v % 1000) s = res at *
            obtain ⟨⟨r1, r2⟩, s1⟩ := res
            simp only at okS huS U1
            have okS2 := leftB_ok okS (N + v % 1000) (by omega)
            have okZ2 := leftB_ok okz (N + v % 1000) (by omega)
            have huS2 := leftB_u (N + v % 1000) s1
            have huZ2 := leftB_u (N + v % 1000) z
            obtain ⟨x0, x1⟩ := leftB_rng okS (N + v % 1000)
            obtain ⟨y0, y1⟩ := leftB_rng okz (N + v % 1000)
            have D1 := fun W (k : IsB W a s1 false) => Lib.hid (left_any k okS (N + v % 1000) (by omega) (by omega))
            have D2 := fun W d (k : IsB W d z false) => Lib.hid (left_any k okz (N + v % 1000) (by omega) (by omega))
            generalize hg1 : leftB (N + v % 1000) s1 = res1 at *
            generalize hg2 : leftB (N + v % 1000) z = res2 at *
            obtain ⟨⟨x, e1⟩, s2⟩ := res1
            obtain ⟨⟨y, e2⟩, z2⟩ := res2
            simp only at okS2 okZ2 huS2 huZ2 x0 x1 y0 y1 D1 D2
            have OK := Lib.hid (And.intro okS2 okZ2)
            clear hgg hg1 hg2 okS2 okZ2 okS
            have t1 : decide (x < 0) = false := decide_eq_false (by omega)
            have t2 : decide (u < x) = false := decide_eq_false (by omega)
            have t3 : decide (y < 0) = false := decide_eq_false (by omega)
            have t4 : decide (uo < y) = false := decide_eq_false (by omega)
            go_wp2_with (first
              | (go_at_call 10; (with_reducible refine Calls.mono U1.out ?_); rintro e w4 ⟨rfl, ka', o4⟩
                 have kb2 := Lib.hid (KB.out.keep KA.out (Nat.ne_of_gt hab) o4)
                 have kc2 := Lib.hid (KC.out.keep KA.out (Nat.ne_of_gt hac) o4)
                 have HB2 := Lib.hid (Below.only BEL.out o4 hwa)
                 have ka2 := Lib.hid ka'
                 clear ka' o4)
              | (go_at_call 14; (with_reducible refine Calls.mono (D1 _ ka2.out).out ?_); rintro e w5 ⟨rfl, ka', o5⟩
                 have kb3 := Lib.hid (kb2.out.keep ka2.out (Nat.ne_of_gt hab) o5)
                 have kc3 := Lib.hid (kc2.out.keep ka2.out (Nat.ne_of_gt hac) o5)
                 have HB3 := Lib.hid (Below.only HB2.out o5 hwa)
                 have ka3 := Lib.hid ka'.weak
                 clear ka' o5)
              | (go_at_call 14; (with_reducible refine Calls.mono (D2 _ _ kb3.out).out ?_); rintro e w6 ⟨rfl, kb', o6⟩
                 have ka4 := Lib.hid (ka3.out.keep kb3.out (Nat.ne_of_lt hab) o6)
                 have kc4 := Lib.hid (kc3.out.keep kb3.out (Nat.ne_of_gt hbc) o6)
                 have HB4 := Lib.hid (Below.only HB3.out o6 hwb)
                 have kb4 := Lib.hid kb'.weak
                 clear kb' o6)
              | (go_at_call 14; (with_reducible refine Calls.mono (D2 _ _ kc4.out).out ?_); rintro e w7 ⟨rfl, kc', o7⟩
                 have ka5 := Lib.hid (ka4.out.keep kc4.out (Nat.ne_of_lt hac) o7)
                 have kb5 := Lib.hid (kb4.out.keep kc4.out (Nat.ne_of_lt hbc) o7)
                 have HB5 := Lib.hid (Below.only HB4.out o7 hwc)
                 have kc5 := Lib.hid kc'.weak
                 clear kc' o7
                 obtain ⟨q0, q1, q2, q3⟩ := BOX.out _ HB5.out))
            go_roundw
            case rel => exact ⟨k + 1, N + v % 1000, s2, z2, rfl, by go_num, by omega, by omega, by omega, OK.out.1, OK.out.2, by omega, by omega, ka5.out, kb5.out, kc5.out, HB5.out⟩
            case measure => simp [intOf]; omega
          | false =>
            have okZ := useB_ok okz (N + v % 1000) (by omega)
            have huZ := useB_u (N + v % 1000) z
            have U1 := fun W d (k : IsB W d z false) => Lib.hid (use_any k okz (N + v % 1000) (by omega) (by omega))
            generalize hgg : useB (N + v % 1000) z = res at *
            obtain ⟨⟨r1, r2⟩, z1⟩ := res
            simp only at okZ huZ U1
            have okS2 := leftB_ok oks (N + v % 1000) (by omega)
            have okZ2 := leftB_ok okZ (N + v % 1000) (by omega)
            have huS2 := leftB_u (N + v % 1000) s
            have huZ2 := leftB_u (N + v % 1000) z1
            obtain ⟨x0, x1⟩ := leftB_rng oks (N + v % 1000)
            obtain ⟨y0, y1⟩ := leftB_rng okZ (N + v % 1000)
            have D1 := fun W (k : IsB W a s false) => Lib.hid (left_any k oks (N + v % 1000) (by omega) (by omega))
            have D2 := fun W d (k : IsB W d z1 false) => Lib.hid (left_any k okZ (N + v % 1000) (by omega) (by omega))
            generalize hg1 : leftB (N + v % 1000) s = res1 at *
            generalize hg2 : leftB (N + v % 1000) z1 = res2 at *
            obtain ⟨⟨x, e1⟩, s2⟩ := res1
            obtain ⟨⟨y, e2⟩, z2⟩ := res2
            simp only at okS2 okZ2 huS2 huZ2 x0 x1 y0 y1 D1 D2
            have OK := Lib.hid (And.intro okS2 okZ2)
            clear hgg hg1 hg2 okS2 okZ2 okZ
            have t1 : decide (x < 0) = false := decide_eq_false (by omega)
            have t2 : decide (u < x) = false := decide_eq_false (by omega)
            have t3 : decide (y < 0) = false := decide_eq_false (by omega)
            have t4 : decide (uo < y) = false := decide_eq_false (by omega)
            go_wp2_with (first
              | (go_at_call 10; (with_reducible refine Calls.mono (U1 _ _ KB.out).out ?_); rintro e w4 ⟨rfl, kb', o4⟩
                 have ka1 := Lib.hid (KA.out.keep KB.out (Nat.ne_of_lt hab) o4)
                 have kc1 := Lib.hid (KC.out.keep KB.out (Nat.ne_of_gt hbc) o4)
                 have HB1 := Lib.hid (Below.only BEL.out o4 hwb)
                 have kb1 := Lib.hid kb'
                 clear kb' o4)
              | (go_at_call 10; (with_reducible refine Calls.mono (U1 _ _ kc1.out).out ?_); rintro e w4 ⟨rfl, kc', o4⟩
                 have ka2 := Lib.hid (ka1.out.keep kc1.out (Nat.ne_of_lt hac) o4)
                 have kb2 := Lib.hid (kb1.out.keep kc1.out (Nat.ne_of_lt hbc) o4)
                 have HB2 := Lib.hid (Below.only HB1.out o4 hwc)
                 have kc2 := Lib.hid kc'
                 clear kc' o4)
              | (go_at_call 14; (with_reducible refine Calls.mono (D1 _ ka2.out).out ?_); rintro e w5 ⟨rfl, ka', o5⟩
                 have kb3 := Lib.hid (kb2.out.keep ka2.out (Nat.ne_of_gt hab) o5)
                 have kc3 := Lib.hid (kc2.out.keep ka2.out (Nat.ne_of_gt hac) o5)
                 have HB3 := Lib.hid (Below.only HB2.out o5 hwa)
                 have ka3 := Lib.hid ka'.weak
                 clear ka' o5)
              | (go_at_call 14; (with_reducible refine Calls.mono (D2 _ _ kb3.out).out ?_); rintro e w6 ⟨rfl, kb', o6⟩
                 have ka4 := Lib.hid (ka3.out.keep kb3.out (Nat.ne_of_lt hab) o6)
                 have kc4 := Lib.hid (kc3.out.keep kb3.out (Nat.ne_of_gt hbc) o6)
                 have HB4 := Lib.hid (Below.only HB3.out o6 hwb)
                 have kb4 := Lib.hid kb'.weak
                 clear kb' o6)
              | (go_at_call 14; (with_reducible refine Calls.mono (D2 _ _ kc4.out).out ?_); rintro e w7 ⟨rfl, kc', o7⟩
                 have ka5 := Lib.hid (ka4.out.keep kc4.out (Nat.ne_of_lt hac) o7)
                 have kb5 := Lib.hid (kb4.out.keep kc4.out (Nat.ne_of_lt hbc) o7)
                 have HB5 := Lib.hid (Below.only HB4.out o7 hwc)
                 have kc5 := Lib.hid kc'.weak
                 clear kc' o7
                 obtain ⟨q0, q1, q2, q3⟩ := BOX.out _ HB5.out))
            go_roundw
            case rel => exact ⟨k + 1, N + v % 1000, s2, z2, rfl, by go_num, by omega, by omega, by omega, OK.out.1, OK.out.2, by omega, by omega, ka5.out, kb5.out, kc5.out, HB5.out⟩
            case measure => simp [intOf]; omega
        · rcases (show ¬ k < n ∨ (k < n ∧ ¬ k < 150) by omega) with q | ⟨q, q5⟩
          all_goals
            clear hkn hbel ka kb kc oks okz
            go_wp2_with fail
            go_ret
            exact ⟨rfl, Below.next (((Below.refl _ _).alloc (Nat.le_refl _) _).alloc (by simp) _) BEL.out⟩
theorem walk (w : World) (cs : List Value) (ws : AllOk [some .i64, some .u64] cs) (ds : List Value) (wd : AllOk [some .i64, some .u64] ds) (A : Option Addr) (n cap : Nat) (D : Nat → List Value) (w2 : Elems w [none, some .u64] A n D) (hl : n * 16 ≤ 140737488351232) :
    Calls Try.prog 6 #[.agg ⟨cs⟩, .agg ⟨ds⟩, .slice A n cap] w fun e w' => e = .returned (.bool true) ∧ Below w.heap.size w w' := by
  obtain ⟨u, p, rfl, b1, b2, b3, b4⟩ := serverOf ws
  obtain ⟨uo, po, rfl, c1, c2, c3, c4⟩ := serverOf wd
  obtain ⟨R, Wt, hS⟩ := script_of w2
  exact walk2 w u p uo po b1 b2 b3 b4 c1 c2 c3 c4 A n cap R Wt hS (by omega)
end sporApart
namespace sporApart
theorem own : ownKnob Try.prog.godebug = none := by kernel_rfl
set_option maxRecDepth 100000 in
theorem lifted (os : Os) (started : os.Started) (H : Type) (enc : TypeId × Value → H) :
    ReturnsInHanded {} Try.checked os 6 .any (Rows.sporApartSpec.pre6 enc Try.prog Try.f6 Rows.sporApartRow.domain false) (Rows.sporApartSpec.post enc Try.prog Try.f6 false true false false) := by
  refine returnsInHanded_of_change_sized (C := Try.checked) own started (by kernel_rfl) Try.func6
    (ChangeSpec.witness6 (enc := enc) (C := Try.checked) false ⟨#[], #[.agg #[.int .i64 0, .int .u64 0], .agg #[.int .i64 0, .int .u64 0], .slice none 0 0], []⟩ 8 (by kernel_rfl) (by kernel_rfl) (by kernel_rfl) (by kernel_rfl)) ?_
  intro W base args ds gs before hval0 hW hcnd hsz0 _
  have hsz : (DataW.weightsEach Try.prog (Try.f6.params.toList ++ Rows.sporApartSpec.plain.varTypes Try.prog) (ds ++ gs)).all (· ≤ reachBytes) = true := hsz0
  have hval : ∀ (j : Nat) t v, Try.f6.params[j]? = some t → args[j]? = some v → Value.okWide Try.prog W .any base t v := hval0
  have hW' := hW
  obtain ⟨p, q, hA0, hV, rfl, hfz, hnd⟩ := hW
  have hA : DataW.TrodAll enc Try.prog W 0 (fun _ => true) true Try.f6.params.toList args.toList ds p := hA0
  rw [Try.params6] at hA hval hsz
  obtain ⟨v0, vs0, d0, ds0, p0, q0, hargs, rfl, rfl, h0, r0⟩ := trodAll_cons hA
  obtain ⟨v1, vs1, d1, ds1, p1, q1, rfl, rfl, rfl, h1, r1⟩ := trodAll_cons r0
  obtain ⟨v2, vs2, d2, ds2, p2, q2, rfl, rfl, rfl, h2, r2⟩ := trodAll_cons r1
  obtain ⟨rfl, rfl, rfl⟩ := trodAll_nil r2
  obtain rfl : args = #[v0, v1, v2] := by cases args; simp_all
  obtain ⟨rfl, rfl⟩ := trodVars_none hV
  obtain ⟨c0, rfl, w0⟩ := arg_agg [some .i64, some .u64] (by first | exact .inl ⟨_, Try.underlying24⟩ | exact .inr ⟨_, _, Try.underlying24⟩) 6 (by kernel_rfl) (by kernel_rfl) (hval 0 24 v0 rfl rfl) h0
  obtain ⟨c1, rfl, w1⟩ := arg_agg [some .i64, some .u64] (by first | exact .inl ⟨_, Try.underlying24⟩ | exact .inr ⟨_, _, Try.underlying24⟩) 6 (by kernel_rfl) (by kernel_rfl) (hval 1 24 v1 rfl rfl) h1
  obtain ⟨A2, n2, cap2, D2, rfl, w2, m2, z2⟩ := arg_slice [none, some .u64] Try.underlying45 6 (by kernel_rfl) (by kernel_rfl) (hval 2 45 v2 rfl rfl) h2
  have l2 : n2 * Try.prog.bytesOf 47 ≤ reachBytes := by
    rcases z2 with ⟨_, e⟩ | ⟨es, sp, e, el⟩
    · subst e; simp
    · subst e; subst el; exact Nat.le_trans (Nat.mul_le_mul_right _ (Nat.le_add_right _ _)) (sized_slice hsz (j := 2) (t := 45) (e := 47) rfl rfl Try.underlying45)
  have b2 : Try.prog.bytesOf 47 = 16 := by kernel_rfl
  rw [b2] at l2
  simp only [reachBytes] at l2
  clear z2 b2
  clear hA0 hval0 hsz0 hsz
  refine (walk W c0 w0 c1 w1 A2 n2 cap2 D2 w2 l2).mono fun e W' ⟨he, bel⟩ => ?_
  subst he
  exact ⟨_, rfl, _, _, _, [], _, [], hW', trodAll_mk1 (shut_bool Try.underlying4 _), (trodAll_cons_mk (Below.trod laidOut (by kernel_rfl) (of_decide_eq_true (by kernel_rfl)) h0 bel (fun x hx => by simpa using hW'.lt x (by simp [hx]))) (trodAll_cons_mk (Below.trod laidOut (by kernel_rfl) (of_decide_eq_true (by kernel_rfl)) h1 bel (fun x hx => by simpa using hW'.lt x (by simp [hx]))) (trodAll_cons_mk (Below.trod laidOut (by kernel_rfl) (of_decide_eq_true (by kernel_rfl)) h2 bel (fun x hx => by simpa using hW'.lt x (by simp [hx]))) trodAll_mk0))), rfl, bel.frame _, fun h => by cases h⟩
theorem over : Rows.sporApartRow.holds Try.pinned (OpenSpec.ofChange Rows.sporApartSpec) :=
  OpenClaim.holds_of_wide 6 Try.f6 rfl rfl rfl rfl rfl rfl rfl ⟨rfl, rfl, rfl, rfl, rfl⟩ rfl rfl rfl rfl rfl (by kernel_rfl) Try.func6 (by kernel_rfl)
    (of_decide_eq_true (by kernel_rfl)) (by unfold Func.isWrapper; first | (rw [if_pos (by decide +kernel)]; kernel_rfl) | (rw [if_neg (by decide +kernel)]; exact ⟨rfl, rfl⟩))
    (fun os started H enc _ => lifted os started H enc)
end sporApart
theorem sporApart_holds : Rows.SporApartSaid := sporApart.over
#print axioms sporApart_holds
end Go.Proofs.Ythfnaeppolgpaaa
