/- PoolShares: a buffer that is shared is free when it was dropped once more often; while another one owns it nobody shares or drops it. No condition. -/
import Derived.Test.YtbhpdljfkcdnbaaPoolLaw
import Derived.Test.YtbhpdljfkcdnbaaArg
import Derived.Test.YtbhpdljfkcdnbaaRows
import Derived.ProofKit
import Derived.OpenShut
import Derived.ShutString
import Derived.ChangeOld
import Derived.Below
import Derived.SizedLaws
namespace Go.Proofs.Ytbhpdljfkcdnbaa
open Go.ChangeShapes Go.WideShapes Go.ChangeAt Go.RowKit
open Go.ChangeMaps (open_string shut_string)
set_option linter.unusedVariables false
set_option linter.unusedSimpArgs false
namespace poolShares
def S1 : Nat → Int := fun _ => 4
def C1 : Nat → Int := fun _ => 1
def b1 (g o r : Int) : Bf := ⟨g, o, r, List.replicate 4 0⟩
theorem bufs1 : bufsOf S1 C1 1 = [b1 1 0 0] := by rfl
theorem may1 : mayC 1 S1 C1 := ⟨by omega, by omega, fun i hi => by
  obtain rfl : i = 0 := by omega
  decide⟩
theorem cls1 (w : World) : Cls (w.alloc (.cells #[.int .i64 4, .int .i64 1] 26)) (some ⟨w.heap.size, 0, none⟩) 1 S1 C1 := by
  intro i hi
  have k := Blk.new w 26 [.int .i64 4, .int .i64 1]
  obtain rfl : i = 0 := by omega
  exact ⟨w.heap.size, 0, rfl, k.lt, k.cell 0, k.cell 1⟩
theorem len1 {g o r : Int} : ∀ b ∈ [b1 g o r], b.bytes.length ≤ 65536 := by
  intro b hb
  simp at hb
  subst hb
  simp [b1]
theorem ok1 {g o r : Int} (h : 0 ≤ g ∧ g ≤ 5 ∧ 0 ≤ o ∧ o ≤ 3 ∧ 0 ≤ r ∧ r ≤ 100 ∧ (o ≠ 0 → 1 ≤ r)) : ∀ b ∈ [b1 g o r], b.ok 5 := by
  intro b hb
  simp at hb
  subst hb
  exact ⟨h.1, h.2.1, h.2.2.1, h.2.2.2.1, h.2.2.2.2.1, h.2.2.2.2.2.1, h.2.2.2.2.2.2, by simp [b1], by simp [b1]⟩
theorem get1 : getP 4 [b1 1 0 0] = ((0, 1, 0), [b1 1 1 1]) := by rfl
theorem share1 {r : Int} (h : r < 100) : shareQ 0 1 [b1 1 1 r] = (0, [b1 1 1 (r + 1)]) := by
  simp [shareQ, look, shareB, b1, show ¬ 100 ≤ r by omega]
theorem share2 {o r : Int} (h : o = 2 ∨ o = 3) : shareQ 0 1 [b1 1 o r] = (8, [b1 1 o r]) := by
  rcases h with rfl | rfl <;> simp [shareQ, look, shareB, b1]
theorem drop1 {r : Int} (h : r ≠ 1) : dropQ 0 1 [b1 1 1 r] = (0, [b1 1 1 (r - 1)]) := by
  simp [dropQ, look, dropB, b1, h]
theorem drop2 {o r : Int} (h : o = 2 ∨ o = 3) : dropQ 0 1 [b1 1 o r] = (8, [b1 1 o r]) := by
  rcases h with rfl | rfl <;> simp [dropQ, look, dropB, b1]
theorem drop3 : dropQ 0 1 [b1 1 1 1] = (0, [b1 2 0 0]) := by rfl
theorem drop4 : dropQ 0 1 [b1 2 0 0] = (3, [b1 2 0 0]) := by rfl
theorem give1 {o r : Int} (h : o = 2 ∨ o = 3) : giveQ 0 1 1 o [b1 1 1 r] = (0, [b1 1 o r]) := by
  rcases h with rfl | rfl <;> simp [giveQ, look, giveB, b1, mayOwn]
theorem give2 {o r : Int} (h : o = 2 ∨ o = 3) : giveQ 0 1 o 1 [b1 1 o r] = (0, [b1 1 1 r]) := by
  rcases h with rfl | rfl <;> simp [giveQ, look, giveB, b1, mayOwn]
theorem free1 {r : Int} : freeP [b1 1 1 r] = 0 := by simp [freeP, b1]
theorem free2 : freeP [b1 2 0 0] = 1 := by rfl
theorem owner1 {r : Int} : ownerQ 0 1 [b1 1 1 r] = (1, r, 0) := by simp [ownerQ, look, b1]
def Rel (w : World) (P : Pl) (H K : Nat) (iv : Value) (wr : World) : Prop :=
  ∃ k : Nat, iv = .int .i64 k ∧ k ≤ K ∧ IsP wr P [b1 1 1 ((k : Int) + 1)] ∧ Blk wr H 34 [.int .i64 0, .int .u64 1] ∧ Below w.heap.size w wr
def Rel2 (w : World) (P : Pl) (H K : Nat) (iv : Value) (wr : World) : Prop :=
  ∃ k : Nat, iv = .int .i64 k ∧ k ≤ K ∧ IsP wr P [b1 1 1 ((K : Int) + 1 - k)] ∧ Blk wr H 34 [.int .i64 0, .int .u64 1] ∧ Below w.heap.size w wr
set_option maxRecDepth 100000 in
set_option maxHeartbeats 8000000 in
theorem walk2 (w : World) (n t : Int) (n0 : 0 ≤ n) (n1 : n ≤ 255) (t0 : 0 ≤ t) (t1 : t ≤ 255) :
    Calls Try.prog 6 #[.int .u8 n, .int .u8 t] w fun e w' => e = .returned (.bool true) ∧ Below w.heap.size w w' := by
  have C0 := fun W A hA => Lib.hid (newc_any W A 1 1 S1 C1 hA (fun i hi => by simp [S1, C1]) (by omega) may1)
  have C1 := fun W P (k : IsP W P [b1 1 0 0]) => Lib.hid (get1 ▸ getp_any k len1 (by simp) 4)
  obtain ⟨K, hK⟩ : ∃ K : Nat, n % 99 = K := ⟨(n % 99).toNat, by omega⟩
  have hK9 : K < 99 := by omega
  have HK := Lib.hid hK
  clear hK
  go_enter Try.func6, Try.ntmps6
  go_wp2_with (first
    | (go_at_call 8; (with_reducible refine Calls.mono (awake_any _) ?_); rintro e w0 ⟨rfl, bel0⟩
       have HB0 := Lib.hid bel0
       have CL := Lib.hid (cls1 w0)
       clear bel0)
    | (go_at_call 10; (with_reducible refine Calls.mono (C0 _ _ CL).out ?_); rintro e w1 ⟨p, rfl, hm⟩
       obtain ⟨P, hP, bel⟩ := Pool.of_made hm
       have hb0 := HB0.out.size
       have K1 := Lib.hid hP.is
       have LOW := Lib.hid (fun i (h : P.own i) => show w.heap.size ≤ i by have := hP.low i (.inr (.inr h)); simp only [World.size_alloc] at this; omega)
       have HB1 := Lib.hid (Below.next (HB0.out.alloc hb0 _) bel)
       obtain rfl := hP.p
       clear hm hP bel)
    | (go_at_call 12; (with_reducible refine Calls.mono (C1 _ _ K1.out).out ?_); rintro e w2 ⟨rfl, k2, o2⟩
       have LT := Lib.hid (fun i (h : P.own i) => Nat.lt_of_lt_of_le (K1.out.lt (.inr (.inr h))) o2.size)
       have K2 := Lib.hid k2
       have HB2 := Lib.hid (Below.onlyF HB1.out o2 LOW.out)
       clear k2 o2))
  rw [HK.out]
  have NO : Hid (¬ P.own w2.heap.size) := fun h => by have := LT.out _ h; omega
  go_loopw [10] (fun iv wr => Hid (Rel w P w2.heap.size K iv wr)) (fun iv _ => K - (intOf iv).toNat)
  case atStart => exact ⟨0, rfl, by omega, K2.out.alloc _, Blk.new w2 34 [.int .i64 0, .int .u64 1], HB2.out.alloc HB2.out.size _⟩
  case round =>
    clear C0 C1 CL
    obtain ⟨k, rfl, hk, kP, kB, hbel⟩ := hrel
    have c0 : wr.cell? ⟨w2.heap.size, 0, none⟩ = some (.int .i64 0) := kB.cell 0
    have c1 : wr.cell? ⟨w2.heap.size, 1, none⟩ = some (.int .u64 1) := kB.cell 1
    have lth := kB.lt
    have KP := Lib.hid kP
    have KB := Lib.hid kB
    have BL := Lib.hid hbel
    clear kP kB hbel
    by_cases hkn : k < K
    · have hkn2 : (k : Int) < K := by omega
      have C2 := fun W (kk : IsP W P [b1 1 1 ((k : Int) + 1)]) => Lib.hid (share1 (show (k : Int) + 1 < 100 by omega) ▸ sharep_any kk 0 1 (ok1 (by omega)))
      go_wp2_with (first
        | (go_at_call 18; (with_reducible refine Calls.mono (C2 _ KP.out).out ?_); rintro e w3 ⟨rfl, k3, o3⟩
           have K3 := Lib.hid k3
           have B3 := Lib.hid (KB.out.only o3 NO.out)
           have HB3 := Lib.hid (Below.onlyF BL.out o3 LOW.out)
           clear k3 o3))
      go_roundw
      case rel =>
        refine ⟨k + 1, by go_num, by omega, ?_, B3.out, HB3.out⟩
        have := K3.out
        rw [show ((k : Int) + 1 + 1) = ((k + 1 : Nat) : Int) + 1 by omega] at this
        exact this
      case measure => simp [intOf]; omega
    · obtain rfl : k = K := by omega
      have hkn2 : ¬ (k : Int) < k := by omega
      have C2 := fun W (kk : IsP W P [b1 1 1 ((k : Int) + 1)]) => Lib.hid (owner1 ▸ ownerp_any kk 0 1)
      have C3 := fun W (kk : IsP W P [b1 1 1 ((k : Int) + 1)]) o (ho : o = 2 ∨ o = 3) => Lib.hid (give1 ho ▸ givep_any kk 0 1 1 o)
      have C4 := fun W o (ho : o = 2 ∨ o = 3) (kk : IsP W P [b1 1 o ((k : Int) + 1)]) => Lib.hid (share2 ho ▸ sharep_any kk 0 1 (ok1 (by omega)))
      have C5 := fun W o (ho : o = 2 ∨ o = 3) (kk : IsP W P [b1 1 o ((k : Int) + 1)]) => Lib.hid (drop2 ho ▸ dropp_any kk 0 1 (ok1 (by omega)) (by omega))
      have C6 := fun W o (ho : o = 2 ∨ o = 3) (kk : IsP W P [b1 1 o ((k : Int) + 1)]) => Lib.hid (give2 ho ▸ givep_any kk 0 1 o 1)
      have hO : Hid (2 + t % 2 = 2 ∨ 2 + t % 2 = 3) := by show _ ∨ _; omega
      go_wp2_with (first
        | (go_at_call 19; (with_reducible refine Calls.mono (C2 _ KP.out).out ?_); rintro e w3 ⟨rfl, k3, o3⟩
           have K3 := Lib.hid k3
           have B3 := Lib.hid (KB.out.below o3 KB.out.lt)
           have HB3 := Lib.hid (Below.next BL.out o3)
           have c0 : w3.cell? ⟨w2.heap.size, 0, none⟩ = some (.int .i64 0) := B3.out.cell 0
           have c1 : w3.cell? ⟨w2.heap.size, 1, none⟩ = some (.int .u64 1) := B3.out.cell 1
           have lth3 := B3.out.lt
           clear k3 o3)
        | (go_at_call 17; (with_reducible refine Calls.mono (C3 _ K3.out _ hO.out).out ?_); rintro e w4 ⟨rfl, k4, o4⟩
           have K4 := Lib.hid k4
           have B4 := Lib.hid (B3.out.only o4 NO.out)
           have HB4 := Lib.hid (Below.onlyF HB3.out o4 LOW.out)
           have c0 : w4.cell? ⟨w2.heap.size, 0, none⟩ = some (.int .i64 0) := B4.out.cell 0
           have c1 : w4.cell? ⟨w2.heap.size, 1, none⟩ = some (.int .u64 1) := B4.out.cell 1
           have lth4 := B4.out.lt
           clear k4 o4)
        | (go_at_call 18; (with_reducible refine Calls.mono (C4 _ _ hO.out K4.out).out ?_); rintro e w5 ⟨rfl, k5, o5⟩
           have K5 := Lib.hid k5
           have B5 := Lib.hid (B4.out.only o5 NO.out)
           have HB5 := Lib.hid (Below.onlyF HB4.out o5 LOW.out)
           have c0 : w5.cell? ⟨w2.heap.size, 0, none⟩ = some (.int .i64 0) := B5.out.cell 0
           have c1 : w5.cell? ⟨w2.heap.size, 1, none⟩ = some (.int .u64 1) := B5.out.cell 1
           have lth5 := B5.out.lt
           clear k5 o5)
        | (go_at_call 20; (with_reducible refine Calls.mono (C5 _ _ hO.out K5.out).out ?_); rintro e w6 ⟨rfl, k6, o6⟩
           have K6 := Lib.hid k6
           have B6 := Lib.hid (B5.out.only o6 NO.out)
           have HB6 := Lib.hid (Below.onlyF HB5.out o6 LOW.out)
           have c0 : w6.cell? ⟨w2.heap.size, 0, none⟩ = some (.int .i64 0) := B6.out.cell 0
           have c1 : w6.cell? ⟨w2.heap.size, 1, none⟩ = some (.int .u64 1) := B6.out.cell 1
           have lth6 := B6.out.lt
           clear k6 o6)
        | (go_at_call 17; (with_reducible refine Calls.mono (C6 _ _ hO.out K6.out).out ?_); rintro e w7 ⟨rfl, k7, o7⟩
           have K7 := Lib.hid k7
           have B7 := Lib.hid (B6.out.only o7 NO.out)
           have HB7 := Lib.hid (Below.onlyF HB6.out o7 LOW.out)
           have c0 : w7.cell? ⟨w2.heap.size, 0, none⟩ = some (.int .i64 0) := B7.out.cell 0
           have c1 : w7.cell? ⟨w2.heap.size, 1, none⟩ = some (.int .u64 1) := B7.out.cell 1
           have lth7 := B7.out.lt
           clear k7 o7))
      clear C2 C3 C4 C5 C6
      go_loopw [15] (fun iv wx => Hid (Rel2 w P w2.heap.size k iv wx)) (fun iv _ => k - (intOf iv).toNat)
      case atStart => exact ⟨0, rfl, by omega, by simpa using K7.out, B7.out, HB7.out⟩
      case round =>
        obtain ⟨j, rfl, hj, jP, jB, hbel2⟩ := hrel
        have e0 : wr.cell? ⟨w2.heap.size, 0, none⟩ = some (.int .i64 0) := jB.cell 0
        have e1 : wr.cell? ⟨w2.heap.size, 1, none⟩ = some (.int .u64 1) := jB.cell 1
        have lth2 := jB.lt
        have JP := Lib.hid jP
        have JB := Lib.hid jB
        have BL2 := Lib.hid hbel2
        clear jP jB hbel2
        by_cases hjk : j < k
        · have hjk2 : (j : Int) < k := by omega
          have C2 := fun W (kk : IsP W P [b1 1 1 ((k : Int) + 1 - j)]) => Lib.hid (drop1 (show (k : Int) + 1 - j ≠ 1 by omega) ▸ dropp_any kk 0 1 (ok1 (by omega)) (by omega))
          have C3 := fun W (kk : IsP W P [b1 1 1 ((k : Int) + 1 - j - 1)]) => Lib.hid (free1 ▸ freep_any kk)
          go_wp2_with (first
            | (go_at_call 20; (with_reducible refine Calls.mono (C2 _ JP.out).out ?_); rintro e w8 ⟨rfl, k8, o8⟩
               have K8 := Lib.hid k8
               have B8 := Lib.hid (JB.out.only o8 NO.out)
               have HB8 := Lib.hid (Below.onlyF BL2.out o8 LOW.out)
               clear k8 o8)
            | (go_at_call 13; (with_reducible refine Calls.mono (C3 _ K8.out).out ?_); rintro e w9 ⟨rfl, rfl⟩))
          go_roundw
          case rel =>
            refine ⟨j + 1, by go_num, by omega, ?_, B8.out, HB8.out⟩
            have := K8.out
            rw [show ((k : Int) + 1 - j - 1) = (k : Int) + 1 - ((j + 1 : Nat) : Int) by omega] at this
            exact this
          case measure => simp [intOf]; omega
        · obtain rfl : j = k := by omega
          have hjk2 : ¬ (j : Int) < j := by omega
          have JP1 : Hid (IsP wr P [b1 1 1 1]) := by
            have := JP.out
            rw [show ((j : Int) + 1 - j) = 1 by omega] at this
            exact this
          have C2 := fun W (kk : IsP W P [b1 1 1 1]) => Lib.hid (drop3 ▸ dropp_any kk 0 1 (ok1 (by omega)) (by omega))
          have C3 := fun W (kk : IsP W P [b1 2 0 0]) => Lib.hid (free2 ▸ freep_any kk)
          have C4 := fun W (kk : IsP W P [b1 2 0 0]) => Lib.hid (drop4 ▸ dropp_any kk 0 1 (ok1 (by omega)) (by omega))
          go_wp2_with (first
            | (go_at_call 20; (with_reducible refine Calls.mono (C2 _ JP1.out).out ?_); rintro e w8 ⟨rfl, k8, o8⟩
               have K8 := Lib.hid k8
               have B8 := Lib.hid (JB.out.only o8 NO.out)
               have HB8 := Lib.hid (Below.onlyF BL2.out o8 LOW.out)
               have c0 : w8.cell? ⟨w2.heap.size, 0, none⟩ = some (.int .i64 0) := B8.out.cell 0
               have c1 : w8.cell? ⟨w2.heap.size, 1, none⟩ = some (.int .u64 1) := B8.out.cell 1
               have lth8 := B8.out.lt
               clear k8 o8)
            | (go_at_call 13; (with_reducible refine Calls.mono (C3 _ K8.out).out ?_); rintro e w9 ⟨rfl, rfl⟩)
            | (go_at_call 20; (with_reducible refine Calls.mono (C4 _ K8.out).out ?_); rintro e w9 ⟨rfl, k9, o9⟩
               have HB9 := Lib.hid (Below.onlyF HB8.out o9 LOW.out)
               clear k9 o9))
          go_ret
          exact ⟨rfl, HB9.out⟩
theorem walk (w : World) (n : Int) (w0 : (Lit.int .u8 n).wf = true) (t : Int) (w1 : (Lit.int .u8 t).wf = true) :
    Calls Try.prog 6 #[.int .u8 n, .int .u8 t] w fun e w' => e = .returned (.bool true) ∧ Below w.heap.size w w' := by
  obtain ⟨a, b⟩ := bounds_u8 w0
  obtain ⟨c, d⟩ := bounds_u8 w1
  exact walk2 w n t a b c d
end poolShares
namespace poolShares
theorem own : ownKnob Try.prog.godebug = none := by kernel_rfl
set_option maxRecDepth 100000 in
theorem lifted (os : Os) (started : os.Started) (H : Type) (enc : TypeId × Value → H) :
    ReturnsInHanded {} Try.checked os 6 .any (Rows.poolSharesSpec.pre6 enc Try.prog Try.f6 Rows.poolSharesRow.domain false) (Rows.poolSharesSpec.post enc Try.prog Try.f6 false true false false) := by
  refine returnsInHanded_of_change_sized (C := Try.checked) own started (by kernel_rfl) Try.func6
    (ChangeSpec.witness6 (enc := enc) (C := Try.checked) false ⟨#[], #[.int .u8 0, .int .u8 0], []⟩ 8 (by kernel_rfl) (by kernel_rfl) (by kernel_rfl) (by kernel_rfl)) ?_
  intro W base args ds gs before hval0 hW hcnd hsz0 _
  have hsz : (DataW.weightsEach Try.prog (Try.f6.params.toList ++ Rows.poolSharesSpec.plain.varTypes Try.prog) (ds ++ gs)).all (· ≤ reachBytes) = true := hsz0
  have hval : ∀ (j : Nat) t v, Try.f6.params[j]? = some t → args[j]? = some v → Value.okWide Try.prog W .any base t v := hval0
  have hW' := hW
  obtain ⟨p, q, hA0, hV, rfl, hfz, hnd⟩ := hW
  have hA : DataW.TrodAll enc Try.prog W 0 (fun _ => true) true Try.f6.params.toList args.toList ds p := hA0
  rw [Try.params6] at hA hval hsz
  obtain ⟨v0, vs0, d0, ds0, p0, q0, hargs, rfl, rfl, h0, r0⟩ := trodAll_cons hA
  obtain ⟨v1, vs1, d1, ds1, p1, q1, rfl, rfl, rfl, h1, r1⟩ := trodAll_cons r0
  obtain ⟨rfl, rfl, rfl⟩ := trodAll_nil r1
  obtain rfl : args = #[v0, v1] := by cases args; simp_all
  obtain ⟨rfl, rfl⟩ := trodVars_none hV
  obtain ⟨a0, rfl, w0⟩ := arg_one Try.underlying5 (hval 0 5 v0 rfl rfl) h0
  obtain ⟨a1, rfl, w1⟩ := arg_one Try.underlying5 (hval 1 5 v1 rfl rfl) h1
  clear hA0 hval0 hsz0 hsz
  refine (walk W a0 w0 a1 w1).mono fun e W' ⟨he, bel⟩ => ?_
  subst he
  exact ⟨_, rfl, _, _, _, [], _, [], hW', trodAll_mk1 (shut_bool Try.underlying4 _), (trodAll_cons_mk (Below.trod laidOut (by kernel_rfl) (of_decide_eq_true (by kernel_rfl)) h0 bel (fun x hx => by simpa using hW'.lt x (by simp [hx]))) (trodAll_cons_mk (Below.trod laidOut (by kernel_rfl) (of_decide_eq_true (by kernel_rfl)) h1 bel (fun x hx => by simpa using hW'.lt x (by simp [hx]))) trodAll_mk0)), rfl, bel.frame _, fun h => by cases h⟩
theorem over : Rows.poolSharesRow.holds Try.pinned (OpenSpec.ofChange Rows.poolSharesSpec) :=
  OpenClaim.holds_of_wide 6 Try.f6 rfl rfl rfl rfl rfl rfl rfl ⟨rfl, rfl, rfl, rfl, rfl⟩ rfl rfl rfl rfl rfl (by kernel_rfl) Try.func6 (by kernel_rfl)
    (of_decide_eq_true (by kernel_rfl)) (by unfold Func.isWrapper; first | (rw [if_pos (by decide +kernel)]; kernel_rfl) | (rw [if_neg (by decide +kernel)]; exact ⟨rfl, rfl⟩))
    (fun os started H enc _ => lifted os started H enc)
end poolShares
theorem poolShares_holds : Rows.PoolSharesSaid := poolShares.over
#print axioms poolShares_holds
end Go.Proofs.Ytbhpdljfkcdnbaa
