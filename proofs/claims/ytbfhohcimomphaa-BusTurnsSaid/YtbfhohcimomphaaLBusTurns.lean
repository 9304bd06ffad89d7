/- BusTurns: of two alike masters with a burst, who always want the bus, the first one has it for a burst, then the other one for a slot. No condition. -/
import Derived.Test.YtbfhohcimomphaaBusEight
import Derived.Test.YtbfhohcimomphaaBusTurn
import Derived.Test.YtbfhohcimomphaaArg
import Derived.Test.YtbfhohcimomphaaRows
import Derived.ProofKit
import Derived.OpenShut
import Derived.ShutString
import Derived.ChangeOld
import Derived.Below
import Derived.SizedLaws
namespace Go.Proofs.Ytbfhohcimomphaa
open Go.ChangeShapes Go.WideShapes Go.ChangeAt Go.RowKit
open Go.ChangeMaps (open_string shut_string)
set_option linter.unusedVariables false
set_option linter.unusedSimpArgs false
namespace busTurns
theorem mok {b : Nat} (h : 1 ≤ b) (h9 : b ≤ 9) : (turnM b).ok := by
  constructor
  · show (0 : Int) ≤ 4; decide
  · show (4 : Int) ≤ 100; decide
  · show (0 : Int) ≤ b; omega
  · show (b : Int) ≤ 1000; omega
  · show mayM 1000 1000 = true; decide
def RelT (w : World) (A : Bl) (b : Nat) (iv : Value) (wr : World) : Prop :=
  ∃ t : Nat, iv = .int .i64 t ∧ t ≤ 100 ∧ IsB wr A (turnB b t) ∧ BuAt (turnB b t) t t ∧ Below w.heap.size w wr
theorem made (w : World) {b : Nat} (h : 1 ≤ b) (h9 : b ≤ 9) :
    Calls Try.prog 10 #[.slice (some ⟨w.heap.size + 1, 0, none⟩) 2 2, .int .u64 0] ((w.alloc (.cells #[.int .i64 4, .int .i64 b, .int .u64 1000, .int .u64 1000] 41)).alloc (.cells #[.int .i64 4, .int .i64 b, .int .u64 1000, .int .u64 1000, .int .i64 4, .int .i64 b, .int .u64 1000, .int .u64 1000] 41)) fun e w' =>
      ∃ A : Bl, e = .returned (.tuple #[.pointer (some ⟨A.p, 0, none⟩), .int .i64 0]) ∧ IsB w' A (turnB b 0) ∧ BuAt (turnB b 0) 0 0 ∧ (∀ a, A.own a → w.heap.size ≤ a) ∧ Below w.heap.size w w' := by
  have mm : ∀ x ∈ [turnM b, turnM b], x.ok := fun x hx => by simp at hx; subst hx; exact mok h h9
  have hsz : (w.alloc (.cells #[.int .i64 4, .int .i64 b, .int .u64 1000, .int .u64 1000] 41)).heap.size = w.heap.size + 1 := by simp
  have c0 := newb_any (((w.alloc (.cells #[.int .i64 4, .int .i64 b, .int .u64 1000, .int .u64 1000] 41))).alloc (.cells #[.int .i64 4, .int .i64 b, .int .u64 1000, .int .u64 1000, .int .i64 4, .int .i64 b, .int .u64 1000, .int .u64 1000] 41)) (some ⟨(w.alloc (.cells #[.int .i64 4, .int .i64 b, .int .u64 1000, .int .u64 1000] 41)).heap.size, 0, none⟩) 2 [turnM b, turnM b] 0 (Lib.hid (mps2 (turnM b) _)) (Lib.hid mm) (by simp) (by simp) (by decide) (by decide)
  rw [hsz, show [turnM b, turnM b].length = 2 from rfl] at c0
  refine Calls.mono c0 fun e w1 ⟨A, e1, k1, lo, b1⟩ => ⟨A, e1, k1, newB_at mm (by simp) (by decide) (by decide), fun a ha => ?_, ?_⟩
  · have := lo a (.inl ha); simp only [World.alloc, Array.size_push] at this; omega
  · exact Below.trans (((Below.refl w.heap.size w).alloc (Nat.le_refl _) _).alloc (by simp) _) (Below.mono b1 (show w.heap.size ≤ _ from by simp only [World.alloc, Array.size_push]; omega))
set_option maxRecDepth 100000 in
set_option maxHeartbeats 4000000 in
theorem walk (w : World) (u : Int) (wu : (Lit.int .u8 u).wf = true) :
    Calls Try.prog 8 #[.int .u8 u] w fun e w' => e = .returned (.bool true) ∧ Below w.heap.size w w' := by
  obtain ⟨u0, u1⟩ := bounds_u8 wu
  obtain ⟨b, hb⟩ : ∃ b : Nat, (b : Int) = 1 + u % 9 := ⟨(1 + u % 9).toNat, by omega⟩
  have hb1 : 1 ≤ b := by omega
  have hb9 : b ≤ 9 := by omega
  have AW := fun W => Lib.hid (awake_any W)
  have MD := fun W => Lib.hid (by have := made W hb1 hb9; rwa [hb] at this)
  go_enter Try.func8, Try.ntmps8
  go_wp2_with (first
    | (go_at_call 9; (with_reducible refine Calls.mono (AW _).out ?_); rintro e w0 ⟨rfl, b0⟩; have B0 := Lib.hid b0; clear b0)
    | (go_at_call 10; (with_reducible refine Calls.mono (MD _).out ?_); rintro e w1 ⟨A, rfl, k1, h1, lo1, b1⟩; have K1 := Lib.hid k1; have H1 := Lib.hid h1; have LO := Lib.hid lo1; have B1 := Lib.hid b1; clear k1 h1 lo1 b1))
  rw [← hb]
  have LO2 := Lib.hid (show ∀ a, A.own a → w.heap.size ≤ a from fun a ha => Nat.le_trans B0.out.size (LO.out a ha))
  clear LO
  have W9 := Lib.hid (show (1 + u % 9 : Int) = b from hb.symm)
  clear hb MD AW
  go_loopw [7] (fun iv wr => Hid (RelT w A b iv wr)) (fun iv _ => 100 - (intOf iv).toNat)
  case atStart => exact ⟨0, rfl, by omega, K1.out, H1.out, Below.next B0.out B1.out⟩
  case round =>
    clear K1 H1 B1 B0
    obtain ⟨t, rfl, ht, ks, hs, hbel⟩ := hrel
    have KS := Lib.hid ks
    have HS := Lib.hid hs
    have BEL := Lib.hid hbel
    clear ks hs hbel
    by_cases hi : t < 100
    · obtain ⟨e1, e2, e3, e4⟩ := turn_step hb1 hb9 hi
      have C1 := Lib.hid (show Calls Try.prog 12 #[.pointer (some ⟨A.p, 0, none⟩), .int .u64 t, .slice (some ⟨wr.heap.size, 0, none⟩) 2 2] (wr.alloc (.cells #[.int .i64 1, .int .i64 0] 3)) (fun e w' => e = .returned (.tuple #[.int .i64 (turnW b t), .int .i64 0]) ∧ IsB w' A (turnB b (t + 1)) ∧ BuAt (turnB b (t + 1)) (t + 1) (t + 1) ∧ Only A.own wr w') from slot_new (l := [1, 0]) KS.out HS.out (by omega) (by omega) (by omega) (by decide) (by unfold turnB; split <;> rfl) e1 2)
      have C2 := fun W (k : IsB W A (turnB b (t + 1))) => Lib.hid (row_any k)
      rw [e2] at C2
      have E3 := Lib.hid e3
      have E4 := Lib.hid e4
      clear e1 e2
      obtain ⟨r, hr⟩ : ∃ r, (turnB b (t + 1)).row = r := ⟨_, rfl⟩
      rw [hr] at e3 e4
      simp only [hr] at C2
      by_cases hc : t % (b + 1) = b
      · have hw : turnW b t = 1 := if_pos hc
        rw [hw] at C1
        simp only [hw] at C2
        have hc1 : ((t : Int) % ((b : Int) + 1) == b) = true := by simpa using (show (t : Int) % ((b : Int) + 1) = b from by exact_mod_cast hc)
        have hb2 : (b : Int) + 1 ≠ 0 := by omega
        go_wp2_with (first
          | (go_at_call 12; (with_reducible refine Calls.mono C1.out ?_); rintro e w2 ⟨rfl, k2, h2, o2⟩; have K2 := Lib.hid k2; have H2 := Lib.hid h2; have B2 := Lib.hid (Below.onlyF BEL.out o2 LO2.out); clear k2 h2 o2)
          | (go_at_call 19; (with_reducible refine Calls.mono (C2 _ K2.out).out ?_); rintro e w3 ⟨rfl, nd, rfl⟩))
        go_roundw
        case rel => exact ⟨t + 1, by go_num, by omega, (by repeat (first | exact K2.out | refine IsB.drewN ?_ _)), H2.out, Below.drewN' B2.out _⟩
        case measure => simp [intOf]; omega
      · have hw : turnW b t = 0 := if_neg hc
        rw [hw] at C1
        simp only [hw] at C2
        have hc1 : ((t : Int) % ((b : Int) + 1) == b) = false := by simpa using (show ¬ (t : Int) % ((b : Int) + 1) = b from by exact_mod_cast hc)
        have hb2 : (b : Int) + 1 ≠ 0 := by omega
        go_wp2_with (first
          | (go_at_call 12; (with_reducible refine Calls.mono C1.out ?_); rintro e w2 ⟨rfl, k2, h2, o2⟩; have K2 := Lib.hid k2; have H2 := Lib.hid h2; have B2 := Lib.hid (Below.onlyF BEL.out o2 LO2.out); clear k2 h2 o2)
          | (go_at_call 19; (with_reducible refine Calls.mono (C2 _ K2.out).out ?_); rintro e w3 ⟨rfl, nd, rfl⟩))
        go_roundw
        case rel => exact ⟨t + 1, by go_num, by omega, (by repeat (first | exact K2.out | refine IsB.drewN ?_ _)), H2.out, Below.drewN' B2.out _⟩
        case measure => simp [intOf]; omega
    · obtain rfl : t = 100 := by omega
      have T0 := fun W (k : IsB W A (turnB b 100)) => Lib.hid (stalls_any (i := 0) (x := ((100 / (b + 1) : Nat) : Int)) k HS.out.l16 (by unfold turnB; simp) (by unfold turnB; simp))
      have T1 := fun W (k : IsB W A (turnB b 100)) => Lib.hid (stalls_any (i := 1) (x := ((100 - 100 / (b + 1) : Nat) : Int)) k HS.out.l16 (by unfold turnB; simp) (by unfold turnB; simp))
      have hq : 100 / (b + 1) ≤ 100 := Nat.div_le_self _ _
      obtain ⟨q, hq2⟩ : ∃ q, 100 / (b + 1) = q := ⟨_, rfl⟩
      simp only [hq2] at T0 T1 hq
      have e : ((q : Int) + ((100 - q : Nat) : Int) == 100) = true := by simp; omega
      go_wp2_with (first
        | (go_at_call 16; (with_reducible refine Calls.mono (T0 _ KS.out).out ?_); rintro e w3 ⟨rfl, rfl⟩)
        | (go_at_call 16; (with_reducible refine Calls.mono (T1 _ KS.out).out ?_); rintro e w3 ⟨rfl, rfl⟩))
      go_ret
      exact ⟨rfl, BEL.out⟩
end busTurns
namespace busTurns
theorem own : ownKnob Try.prog.godebug = none := by kernel_rfl
set_option maxRecDepth 100000 in
theorem lifted (os : Os) (started : os.Started) (H : Type) (enc : TypeId × Value → H) :
    ReturnsInHanded {} Try.checked os 8 .any (Rows.busTurnsSpec.pre6 enc Try.prog Try.f8 Rows.busTurnsRow.domain false) (Rows.busTurnsSpec.post enc Try.prog Try.f8 false true false false) := by
  refine returnsInHanded_of_change_sized (C := Try.checked) own started (by kernel_rfl) Try.func8
    (ChangeSpec.witness6 (enc := enc) (C := Try.checked) false ⟨#[], #[.int .u8 0], []⟩ 8 (by kernel_rfl) (by kernel_rfl) (by kernel_rfl) (by kernel_rfl)) ?_
  intro W base args ds gs before hval0 hW hcnd hsz0 _
  have hsz : (DataW.weightsEach Try.prog (Try.f8.params.toList ++ Rows.busTurnsSpec.plain.varTypes Try.prog) (ds ++ gs)).all (· ≤ reachBytes) = true := hsz0
  have hval : ∀ (j : Nat) t v, Try.f8.params[j]? = some t → args[j]? = some v → Value.okWide Try.prog W .any base t v := hval0
  have hW' := hW
  obtain ⟨p, q, hA0, hV, rfl, hfz, hnd⟩ := hW
  have hA : DataW.TrodAll enc Try.prog W 0 (fun _ => true) true Try.f8.params.toList args.toList ds p := hA0
  rw [Try.params8] at hA hval hsz
  obtain ⟨v0, vs0, d0, ds0, p0, q0, hargs, rfl, rfl, h0, r0⟩ := trodAll_cons hA
  obtain ⟨rfl, rfl, rfl⟩ := trodAll_nil r0
  obtain rfl : args = #[v0] := by cases args; simp_all
  obtain ⟨rfl, rfl⟩ := trodVars_none hV
  obtain ⟨a0, rfl, w0⟩ := arg_one Try.underlying5 (hval 0 5 v0 rfl rfl) h0
  clear hA0 hval0 hsz0 hsz
  refine (walk W a0 w0).mono fun e W' ⟨he, bel⟩ => ?_
  subst he
  exact ⟨_, rfl, _, _, _, [], _, [], hW', trodAll_mk1 (shut_bool Try.underlying4 _), (trodAll_cons_mk (Below.trod laidOut (by kernel_rfl) (of_decide_eq_true (by kernel_rfl)) h0 bel (fun x hx => by simpa using hW'.lt x (by simp [hx]))) trodAll_mk0), rfl, bel.frame _, fun h => by cases h⟩
theorem over : Rows.busTurnsRow.holds Try.pinned (OpenSpec.ofChange Rows.busTurnsSpec) :=
  OpenClaim.holds_of_wide 8 Try.f8 rfl rfl rfl rfl rfl rfl rfl ⟨rfl, rfl, rfl, rfl, rfl⟩ rfl rfl rfl rfl rfl (by kernel_rfl) Try.func8 (by kernel_rfl)
    (of_decide_eq_true (by kernel_rfl)) (by unfold Func.isWrapper; first | (rw [if_pos (by decide +kernel)]; kernel_rfl) | (rw [if_neg (by decide +kernel)]; exact ⟨rfl, rfl⟩))
    (fun os started H enc _ => lifted os started H enc)
end busTurns
theorem busTurns_holds : Rows.BusTurnsSaid := busTurns.over
#print axioms busTurns_holds
end Go.Proofs.Ytbfhohcimomphaa
