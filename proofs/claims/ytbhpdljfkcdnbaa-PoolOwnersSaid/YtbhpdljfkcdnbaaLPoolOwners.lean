/- PoolOwners: handed from owner to owner a buffer is written by the one that has it alone, and read by whoever asks; its bytes stay. No condition. -/
import Derived.Test.YtbhpdljfkcdnbaaPoolLaw
import Derived.Test.YtbhpdljfkcdnbaaPoolReadB
import Derived.Test.YtbhpdljfkcdnbaaArgs
import Derived.Test.YtbhpdljfkcdnbaaArg
import Derived.Test.YtbhpdljfkcdnbaaRows
import Derived.ProofKit
import Derived.OpenShut
import Derived.ShutString
import Derived.ChangeOld
import Derived.Below
import Derived.SizedLaws
namespace Go.Proofs.Ytbhpdljfkcdnbaa
open Go.ChangeShapes Go.WideShapes Go.ChangeAt Go.RowKit
open Go.ChangeMaps (open_string shut_string)
set_option linter.unusedVariables false
set_option linter.unusedSimpArgs false
namespace poolOwners
def S1 : Nat → Int := fun _ => 1
def C1 : Nat → Int := fun _ => 1
def b1 (o v : Int) : Bf := ⟨1, o, 1, [v]⟩
theorem bufs1 : bufsOf S1 C1 1 = [⟨1, 0, 0, [0]⟩] := by rfl
theorem may1 : mayC 1 S1 C1 := ⟨by omega, by omega, fun i hi => by
  obtain rfl : i = 0 := by omega
  decide⟩
theorem cls1 (w : World) : Cls (w.alloc (.cells #[.int .i64 1, .int .i64 1] 26)) (some ⟨w.heap.size, 0, none⟩) 1 S1 C1 := by
  intro i hi
  have k := Blk.new w 26 [.int .i64 1, .int .i64 1]
  obtain rfl : i = 0 := by omega
  exact ⟨w.heap.size, 0, rfl, k.lt, k.cell 0, k.cell 1⟩
theorem len0 : ∀ b ∈ bufsOf S1 C1 1, b.bytes.length ≤ 65536 := by
  intro b hb
  rw [bufs1] at hb
  simp at hb
  subst hb
  simp
theorem len1 {o v : Int} : ∀ b ∈ [b1 o v], b.bytes.length ≤ 65536 := by
  intro b hb
  simp at hb
  subst hb
  simp [b1]
theorem get1 : getP 1 (bufsOf S1 C1 1) = ((0, 1, 0), [b1 1 0]) := by rfl
theorem mo {o : Int} (h : 1 ≤ o ∧ o ≤ 3) : mayOwn o = true := mayOwn_iff.2 h
theorem give1 {o t v : Int} (h : 1 ≤ o ∧ o ≤ 3) (h2 : 1 ≤ t ∧ t ≤ 3) (hne : o ≠ t) : giveQ 0 1 o t [b1 o v] = (0, [b1 t v]) := by
  simp [giveQ, look, giveB, b1, mo h, mo h2, hne, show ¬ o = 0 by omega]
theorem give2 {o v : Int} (h : 1 ≤ o ∧ o ≤ 3) : giveQ 0 1 o o [b1 o v] = (1, [b1 o v]) := by
  simp [giveQ, look, giveB, b1, mo h, show ¬ o = 0 by omega]
theorem write1 {o v x : Int} (h : 1 ≤ o ∧ o ≤ 3) : writeQ 0 1 o 0 [x] [b1 o v] = (0, [b1 o x]) := by
  simp [writeQ, look, writeB, b1, mo h, over, show ¬ o = 0 by omega]
theorem write1' {o b v x : Int} (hb : b = o) (h : 1 ≤ o ∧ o ≤ 3) : writeQ 0 1 b 0 [x] [b1 o v] = (0, [b1 o x]) := by
  subst hb; exact write1 h
theorem write2 {o b v x : Int} (h : 1 ≤ o ∧ o ≤ 3) (h2 : 1 ≤ b ∧ b ≤ 3) (hne : o ≠ b) : writeQ 0 1 b 0 [x] [b1 o v] = (8, [b1 o v]) := by
  simp [writeQ, look, writeB, b1, mo h2, hne, show ¬ o = 0 by omega]
theorem read1 {o v : Int} (h : 1 ≤ o ∧ o ≤ 3) : readQ 0 1 0 1 [b1 o v] = (some [v], 0) := by
  simp [readQ, look, readB, b1, show ¬ o = 0 by omega]
def Rel (w : World) (P : Pl) (H n : Nat) (ov vv iv : Value) (wr : World) : Prop :=
  ∃ (i : Nat) (o v : Int), ov = .int .i64 o ∧ vv = .int .u8 v ∧ iv = .int .i64 i ∧ i ≤ n ∧ 1 ≤ o ∧ o ≤ 3 ∧ IsP wr P [b1 o v] ∧ Blk wr H 34 [.int .i64 0, .int .u64 1] ∧ Below w.heap.size w wr
def Rel2 (w : World) (P : Pl) (H : Nat) (o : Int) (vv iv : Value) (wr : World) : Prop :=
  ∃ (b : Nat) (v : Int), vv = .int .u8 v ∧ iv = .int .i64 b ∧ 1 ≤ b ∧ b ≤ 4 ∧ IsP wr P [b1 o v] ∧ Blk wr H 34 [.int .i64 0, .int .u64 1] ∧ Below w.heap.size w wr
set_option maxRecDepth 100000 in
set_option maxHeartbeats 8000000 in
theorem walk2 (w : World) (A : Option Addr) (n cap : Nat) (U : Nat → Int) (hA : Hid (IntsAt w .u8 A n U)) (hU : Hid (∀ i, i < n → 0 ≤ U i ∧ U i ≤ 255)) (hn9 : n ≤ 140737488351232) :
    Calls Try.prog 5 #[.slice A n cap] w fun e w' => e = .returned (.bool true) ∧ Below w.heap.size w w' := by
  by_cases hn : n ≤ 60
  · have C0 := fun W A hA => Lib.hid (newc_any W A 1 1 S1 C1 hA (fun i hi => by simp [S1, C1]) (by omega) may1)
    have C1 := fun W P (k : IsP W P (bufsOf S1 C1 1)) => Lib.hid (get1 ▸ getp_any k len0 (by rw [bufs1]; simp) 1)
    go_enter Try.func5, Try.ntmps5
    go_wp2_with (first
      | (go_at_call 8; (with_reducible refine Calls.mono (awake_any _) ?_); rintro e w0 ⟨rfl, bel0⟩
         have HB0 := Lib.hid bel0
         have CL := Lib.hid (cls1 w0)
         clear bel0)
      | (go_at_call 10; (with_reducible refine Calls.mono (C0 _ _ CL).out ?_); rintro e w1 ⟨p, rfl, hm⟩
         obtain ⟨P, hP, bel⟩ := Pool.of_made hm
         have hb0 := HB0.out.size
         have K1 := Lib.hid hP.is
         have LOW := Lib.hid (fun i (h : P.own i) => show w.heap.size ≤ i by have := hP.low i (.inr (.inr h)); simp only [World.size_alloc] at this; omega)
         have HB1 := Lib.hid (Below.next (HB0.out.alloc hb0 _) bel)
         obtain rfl := hP.p
         clear hm hP bel)
      | (go_at_call 12; (with_reducible refine Calls.mono (C1 _ _ K1.out).out ?_); rintro e w2 ⟨rfl, k2, o2⟩
         have LT := Lib.hid (fun i (h : P.own i) => Nat.lt_of_lt_of_le (K1.out.lt (.inr (.inr h))) o2.size)
         have K2 := Lib.hid k2
         have HB2 := Lib.hid (Below.onlyF HB1.out o2 LOW.out)
         clear k2 o2))
    have NO : Hid (¬ P.own w2.heap.size) := fun h => by have := LT.out _ h; omega
    go_loopw [7, 8, 9] (fun ov vv iv wr => Hid (Rel w P w2.heap.size n ov vv iv wr)) (fun _ _ iv _ => n - (intOf iv).toNat)
    case atStart => exact ⟨0, 1, 0, rfl, rfl, rfl, by omega, by omega, by omega, K2.out.alloc _, Blk.new w2 34 [.int .i64 0, .int .u64 1], HB2.out.alloc HB2.out.size _⟩
    case round =>
      clear C0 C1 CL
      obtain ⟨i, o, v, rfl, rfl, rfl, hi, ho1, ho3, kP, kB, hbel⟩ := hrel
      have c0 : wr.cell? ⟨w2.heap.size, 0, none⟩ = some (.int .i64 0) := kB.cell 0
      have c1 : wr.cell? ⟨w2.heap.size, 1, none⟩ = some (.int .u64 1) := kB.cell 1
      have lth := kB.lt
      by_cases hin : i < n
      · have hin2 : (i : Int) < n := by omega
        obtain ⟨ab, ao, rfl, hlt, hcw⟩ := hA.out.at_ hin
        have hcell := (hbel.cell (p := ⟨ab, ao + i, none⟩) hlt).trans hcw
        obtain ⟨u0, u1⟩ := hU.out i hin
        have ht2 : 1 ≤ 1 + U i % 3 ∧ 1 + U i % 3 ≤ 3 := by omega
        have X : ∃ c : Int, giveQ 0 1 o (1 + U i % 3) [b1 o v] = (c, [b1 (1 + U i % 3) v]) ∧ ((c == 0) = ((1 + U i % 3) != o)) := by
          by_cases h : o = 1 + U i % 3
          · rw [← h]
            exact ⟨1, give2 ⟨ho1, ho3⟩, by simp⟩
          · exact ⟨0, give1 ⟨ho1, ho3⟩ ht2 h, by simp; omega⟩
        obtain ⟨c, hg, hc⟩ := X
        have C3 := fun W (kk : IsP W P [b1 o v]) => Lib.hid (hg ▸ givep_any kk 0 1 o (1 + U i % 3))
        have KP := Lib.hid kP
        have KB := Lib.hid kB
        have BL := Lib.hid hbel
        have HT2 := Lib.hid ht2
        clear kP kB hbel hcw hg ht2
        go_wp2_with (first
          | (go_at_call 17; (with_reducible refine Calls.mono (C3 _ KP.out).out ?_); rintro e w3 ⟨rfl, k3, o3⟩
             have K3 := Lib.hid k3
             have B3 := Lib.hid (KB.out.only o3 NO.out)
             have HB3 := Lib.hid (Below.onlyF BL.out o3 LOW.out)
             have c0 : w3.cell? ⟨w2.heap.size, 0, none⟩ = some (.int .i64 0) := B3.out.cell 0
             have c1 : w3.cell? ⟨w2.heap.size, 1, none⟩ = some (.int .u64 1) := B3.out.cell 1
             have lth3 := B3.out.lt
             clear k3 o3))
        have hi60 : i < 60 := by omega
        clear C3
        go_loopw [8, 12] (fun vv bv wx => Hid (Rel2 w P w2.heap.size (1 + U i % 3) vv bv wx)) (fun _ bv _ => 4 - (intOf bv).toNat)
        case atStart => exact ⟨1, v, rfl, rfl, by omega, by omega, K3.out, B3.out, HB3.out⟩
        case round =>
          obtain ⟨b, v', rfl, rfl, hb1, hb4, jP, jB, hbel2⟩ := hrel
          have e0 : wr.cell? ⟨w2.heap.size, 0, none⟩ = some (.int .i64 0) := jB.cell 0
          have e1 : wr.cell? ⟨w2.heap.size, 1, none⟩ = some (.int .u64 1) := jB.cell 1
          have lth2 := jB.lt
          have JP := Lib.hid jP
          have JB := Lib.hid jB
          have BL2 := Lib.hid hbel2
          clear jP jB hbel2
          by_cases hb : b < 4
          · have hb3 : (b : Int) ≤ 3 := by omega
            have ht2 := HT2.out
            by_cases hbt : (b : Int) = 1 + U i % 3
            · have d1 : ((b : Int) == 1 + U i % 3) = true := beq_iff_eq.2 hbt
              have C4 := fun W A x (kk : IsP W P [b1 (1 + U i % 3) v']) (hs : Src W 1 A 1 [.int .u8 x]) => Lib.hid (write1' (x := x) (v := v') hbt ht2 ▸ writep_any kk 0 1 b 0 [x] A 1 len1 (by simp) (by omega) (by omega) hs)
              clear hbt ht2
              go_wp2_with (first
                | (go_at_call 14; (with_reducible refine Calls.mono (C4 _ _ _ (JP.out.alloc _) (Src.one wr 5 (.int .u8 _))).out ?_); rintro e w5 ⟨rfl, k5, o5⟩
                   have K5 := Lib.hid k5
                   have B5 := Lib.hid ((JB.out.alloc _).only o5 NO.out)
                   have HB5 := Lib.hid (Below.onlyF (BL2.out.alloc BL2.out.size _) o5 LOW.out)
                   clear k5 o5))
              go_roundw
              case rel => exact ⟨b + 1, _, rfl, by go_num, by omega, by omega, K5.out, B5.out, HB5.out⟩
              case measure => simp [intOf]; omega
            · have d1 : ((b : Int) == 1 + U i % 3) = false := beq_eq_false_iff_ne.2 hbt
              have C4 := fun W A x (kk : IsP W P [b1 (1 + U i % 3) v']) (hs : Src W 1 A 1 [.int .u8 x]) => Lib.hid (write2 (x := x) (v := v') ht2 (show 1 ≤ (b : Int) ∧ (b : Int) ≤ 3 by omega) (fun e => hbt e.symm) ▸ writep_any kk 0 1 b 0 [x] A 1 len1 (by simp) (by omega) (by omega) hs)
              clear hbt ht2
              go_wp2_with (first
                | (go_at_call 14; (with_reducible refine Calls.mono (C4 _ _ _ (JP.out.alloc _) (Src.one wr 5 (.int .u8 _))).out ?_); rintro e w5 ⟨rfl, k5, o5⟩
                   have K5 := Lib.hid k5
                   have B5 := Lib.hid ((JB.out.alloc _).only o5 NO.out)
                   have HB5 := Lib.hid (Below.onlyF (BL2.out.alloc BL2.out.size _) o5 LOW.out)
                   clear k5 o5))
              go_roundw
              case rel => exact ⟨b + 1, _, rfl, by go_num, by omega, by omega, K5.out, B5.out, HB5.out⟩
              case measure => simp [intOf]; omega
          · obtain rfl : b = 4 := by omega
            have ht2 := HT2.out
            have C5 := fun W (kk : IsP W P [b1 (1 + U i % 3) v']) => Lib.hid (read1 (v := v') ht2 ▸ readp_any kk 0 1 0 1 len1 (by omega) (by omega) (by omega) (by omega))
            clear ht2
            go_wp2_with (first
              | (go_at_call 15; (with_reducible refine Calls.mono (C5 _ JP.out).out ?_); rintro e w5 ⟨A5, m5, cc5, rfl, hr5, k5, o5⟩
                 obtain ⟨hr5, -⟩ := hr5
                 obtain ⟨g5, off5, cc, e5, -, -, hlt5, hx5, -⟩ := hr5.at_ (by simp)
                 have e5' := e5
                 injection e5' with a1 a2 a3
                 subst a1 a2 a3
                 have r5 : w5.cell? ⟨g5, off5, none⟩ = some (.int .u8 v') := hx5 0 _ rfl
                 have K5 := Lib.hid k5
                 have B5 := Lib.hid (JB.out.below o5 JB.out.lt)
                 have HB5 := Lib.hid (Below.next BL2.out o5)
                 clear k5 o5 hr5 hx5 e5))
            go_roundw
            case rel => exact ⟨i + 1, _, _, rfl, rfl, by go_num, by omega, HT2.out.1, HT2.out.2, K5.out, B5.out, HB5.out⟩
            case measure => simp [intOf]; omega
      · have hin2 : ¬ (i : Int) < n := by omega
        have BL := Lib.hid hbel
        clear kP kB hbel
        go_wp2_with fail
        go_ret
        exact ⟨rfl, BL.out⟩
  · have hn2 : ¬ (n : Int) ≤ 60 := by omega
    go_enter Try.func5, Try.ntmps5
    go_wp2_with (first
      | (go_at_call 8; (with_reducible refine Calls.mono (awake_any _) ?_); rintro e w0 ⟨rfl, bel0⟩
         have HB0 := Lib.hid bel0
         clear bel0))
    go_ret
    exact ⟨rfl, HB0.out⟩
theorem walk (w : World) (A : Option Addr) (n cap : Nat) (D : Nat → List Value) (w0 : Elems w [some .u8] A n D) (hl : n * 1 ≤ 140737488351232) :
    Calls Try.prog 5 #[.slice A n cap] w fun e w' => e = .returned (.bool true) ∧ Below w.heap.size w w' := by
  obtain ⟨U, hA, hU⟩ := ints_of w0
  exact walk2 w A n cap U hA (fun i hi => bounds_u8 (hU i hi)) (by omega)
end poolOwners
namespace poolOwners
theorem own : ownKnob Try.prog.godebug = none := by kernel_rfl
set_option maxRecDepth 100000 in
theorem lifted (os : Os) (started : os.Started) (H : Type) (enc : TypeId × Value → H) :
    ReturnsInHanded {} Try.checked os 5 .any (Rows.poolOwnersSpec.pre6 enc Try.prog Try.f5 Rows.poolOwnersRow.domain false) (Rows.poolOwnersSpec.post enc Try.prog Try.f5 false true false false) := by
  refine returnsInHanded_of_change_sized (C := Try.checked) own started (by kernel_rfl) Try.func5
    (ChangeSpec.witness6 (enc := enc) (C := Try.checked) false ⟨#[], #[.slice none 0 0], []⟩ 8 (by kernel_rfl) (by kernel_rfl) (by kernel_rfl) (by kernel_rfl)) ?_
  intro W base args ds gs before hval0 hW hcnd hsz0 _
  have hsz : (DataW.weightsEach Try.prog (Try.f5.params.toList ++ Rows.poolOwnersSpec.plain.varTypes Try.prog) (ds ++ gs)).all (· ≤ reachBytes) = true := hsz0
  have hval : ∀ (j : Nat) t v, Try.f5.params[j]? = some t → args[j]? = some v → Value.okWide Try.prog W .any base t v := hval0
  have hW' := hW
  obtain ⟨p, q, hA0, hV, rfl, hfz, hnd⟩ := hW
  have hA : DataW.TrodAll enc Try.prog W 0 (fun _ => true) true Try.f5.params.toList args.toList ds p := hA0
  rw [Try.params5] at hA hval hsz
  obtain ⟨v0, vs0, d0, ds0, p0, q0, hargs, rfl, rfl, h0, r0⟩ := trodAll_cons hA
  obtain ⟨rfl, rfl, rfl⟩ := trodAll_nil r0
  obtain rfl : args = #[v0] := by cases args; simp_all
  obtain ⟨rfl, rfl⟩ := trodVars_none hV
  obtain ⟨A0, n0, cap0, D0, rfl, w0, m0, z0⟩ := arg_slice [some .u8] Try.underlying38 6 (by kernel_rfl) (by kernel_rfl) (hval 0 38 v0 rfl rfl) h0
  have l0 : n0 * Try.prog.bytesOf 5 ≤ reachBytes := by
    rcases z0 with ⟨_, e⟩ | ⟨es, sp, e, el⟩
    · subst e; simp
    · subst e; subst el; exact Nat.le_trans (Nat.mul_le_mul_right _ (Nat.le_add_right _ _)) (sized_slice hsz (j := 0) (t := 38) (e := 5) rfl rfl Try.underlying38)
  have b0 : Try.prog.bytesOf 5 = 1 := by kernel_rfl
  rw [b0] at l0
  simp only [reachBytes] at l0
  clear z0 b0
  clear hA0 hval0 hsz0 hsz
  refine (walk W A0 n0 cap0 D0 w0 l0).mono fun e W' ⟨he, bel⟩ => ?_
  subst he
  exact ⟨_, rfl, _, _, _, [], _, [], hW', trodAll_mk1 (shut_bool Try.underlying4 _), (trodAll_cons_mk (Below.trod laidOut (by kernel_rfl) (of_decide_eq_true (by kernel_rfl)) h0 bel (fun x hx => by simpa using hW'.lt x (by simp [hx]))) trodAll_mk0), rfl, bel.frame _, fun h => by cases h⟩
theorem over : Rows.poolOwnersRow.holds Try.pinned (OpenSpec.ofChange Rows.poolOwnersSpec) :=
  OpenClaim.holds_of_wide 5 Try.f5 rfl rfl rfl rfl rfl rfl rfl ⟨rfl, rfl, rfl, rfl, rfl⟩ rfl rfl rfl rfl rfl (by kernel_rfl) Try.func5 (by kernel_rfl)
    (of_decide_eq_true (by kernel_rfl)) (by unfold Func.isWrapper; first | (rw [if_pos (by decide +kernel)]; kernel_rfl) | (rw [if_neg (by decide +kernel)]; exact ⟨rfl, rfl⟩))
    (fun os started H enc _ => lifted os started H enc)
end poolOwners
theorem poolOwners_holds : Rows.PoolOwnersSaid := poolOwners.over
#print axioms poolOwners_holds
end Go.Proofs.Ytbhpdljfkcdnbaa
