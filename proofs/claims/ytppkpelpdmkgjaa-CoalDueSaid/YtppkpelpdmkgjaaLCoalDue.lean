/- CoalDue: it is due hold ticks behind the first raise that it has, whatever comes later, and not ahead of that. No condition. -/
import Derived.Test.YtppkpelpdmkgjaaCoalAwake
import Derived.Test.YtppkpelpdmkgjaaArgs
import Derived.Test.YtppkpelpdmkgjaaArg
import Derived.Test.YtppkpelpdmkgjaaRows
import Derived.ProofKit
import Derived.OpenShut
import Derived.ShutString
import Derived.ChangeOld
import Derived.Below
import Derived.SizedLaws
namespace Go.Proofs.Ytppkpelpdmkgjaa
open Go.ChangeShapes Go.WideShapes Go.ChangeAt Go.RowKit
open Go.ChangeMaps (open_string shut_string)
set_option linter.unusedVariables false
set_option linter.unusedSimpArgs false
namespace coalDue
/-- What holds at a round's head. -/
def Rel (w : World) (b : Nat) (h : Int) (len : Nat) (nv fv hv iv : Value) (wr : World) : Prop :=
  ∃ (k : Nat) (N F H gf gt : Int), nv = .int .u64 N ∧ fv = .int .u64 F ∧ hv = .int .i64 H ∧ iv = .int .i64 k ∧ k ≤ len ∧ 0 ≤ N ∧ N ≤ 29 * k ∧ 0 ≤ F ∧ F ≤ N ∧ 0 ≤ H ∧ H ≤ k ∧
    0 ≤ gf ∧ gf ≤ N ∧ 0 ≤ gt ∧ gt ≤ N ∧ (H ≠ 0 → gf = F) ∧ IsG wr b ⟨1000, h, H, gf, gt⟩ ∧ Below w.heap.size w wr
theorem ok_of {h H gf gt : Int} (h1 : 0 ≤ h) (h2 : h ≤ 256) (h3 : 0 ≤ H) (h4 : H ≤ 20) (h5 : 0 ≤ gf) (h6 : gf ≤ 600) (h7 : 0 ≤ gt) (h8 : gt ≤ 600) : Gs.ok ⟨1000, h, H, gf, gt⟩ := by constructor <;> simp only <;> omega
/-- The raise, where nothing fires. -/
theorem raise_more {h H gf gt N : Int} (h1 : 0 < h) (h3 : 0 ≤ H) (h4 : H ≤ 20) (h7 : gt ≤ N) (h8 : N ≤ 600) (hl : H = 0 ∨ N < gf + h) : raiseF N ⟨1000, h, H, gf, gt⟩ = ((0, 0), ⟨1000, h, H + 1, if H = 0 then N else gf, N⟩) := by
  unfold raiseF
  rw [if_neg (by omega), if_neg (by simp only; omega)]
  have e1 : lateF ⟨1000, h, H, gf, N⟩ = (0, ⟨1000, h, H, gf, N⟩) := by unfold lateF; rw [if_pos (by simp only; omega)]
  simp only [e1]
  have e2 : doF N ⟨1000, h, H, gf, N⟩ = (0, ⟨1000, h, H + 1, if H = 0 then N else gf, N⟩) := by unfold doF; rw [if_neg (by simp only; omega)]
  simp [e2]
theorem raise_fires {h H gf gt N : Int} (h1 : 0 < h) (h2 : h ≤ 256) (h3 : 0 < H) (h4 : H ≤ 20) (h5 : gf ≤ 600) (h7 : gt ≤ N) (h8 : N ≤ 600) (hl : gf + h ≤ N) : raiseF N ⟨1000, h, H, gf, gt⟩ = ((H, 0), ⟨1000, h, 1, N, N⟩) := by
  unfold raiseF
  rw [if_neg (by omega), if_neg (by simp only; omega)]
  have e1 : lateF ⟨1000, h, H, gf, N⟩ = (H, ⟨1000, h, 0, gf, N⟩) := by unfold lateF; rw [if_neg (by simp only; omega)]
  simp only [e1]
  have e2 : doF N ⟨1000, h, 0, gf, N⟩ = (0, ⟨1000, h, 1, N, N⟩) := by unfold doF; rw [if_neg (by simp only; omega)]; simp
  simp [e2]
theorem due_is {h H F N : Int} (h1 : 0 < H) (h2 : F + h < 4611686018427387904) : dueF ⟨1000, h, H, F, N⟩ = (F + h, true) := by unfold dueF; rw [if_neg (by simp only; omega)]
set_option maxRecDepth 100000 in
set_option maxHeartbeats 4000000 in
theorem walk2 (w : World) (hold : Int) (b0 : 0 ≤ hold) (b0' : hold ≤ 255) (A : Option Addr) (n cap : Nat) (U : Nat → Int) (hA : Hid (IntsAt w .u8 A n U)) (hU : Hid (∀ i, i < n → 0 ≤ U i ∧ U i ≤ 255)) (hn : n ≤ 140737488351232) :
    Calls Try.prog 6 #[.int .u8 hold, .slice A n cap] w fun e w' => e = .returned (.bool true) ∧ Below w.heap.size w w' := by
  by_cases hlen : 20 < n
  · go_enter Try.func6, Try.ntmps6
    go_wp2_with (first
      | (go_at_call 8; (with_reducible refine Calls.mono (awake_any _) ?_); rintro e w0 ⟨rfl, bel0⟩)
      | (go_at_call 9; (with_reducible refine Calls.mono (new_any 1000 (hold + 1) _ (by omega) (by omega) (by omega) (by omega)) ?_); rintro e w1 ⟨b, rfl, hb, k1, bel1⟩))
    go_ret
    exact ⟨retb (by simp), Below.next bel0 bel1⟩
  · go_enter Try.func6, Try.ntmps6
    go_wp2_with (first
      | (go_at_call 8; (with_reducible refine Calls.mono (awake_any _) ?_); rintro e w0 ⟨rfl, bel0⟩)
      | (go_at_call 9; (with_reducible refine Calls.mono (new_any 1000 (hold + 1) _ (by omega) (by omega) (by omega) (by omega)) ?_); rintro e w1 ⟨b, rfl, hb, k1, bel1⟩))
    have hwb : w.heap.size ≤ b := Nat.le_trans bel0.size hb
    go_loopw [7, 8, 9, 10] (fun nv fv hv iv wr => Hid (Rel w b (hold + 1) n nv fv hv iv wr)) (fun _ _ _ iv _ => n - (intOf iv).toNat)
    case atStart => exact ⟨0, 0, 0, 0, 0, 0, rfl, rfl, rfl, rfl, by omega, by omega, by omega, by omega, by omega, by omega, by omega, by omega, by omega, by omega, by omega, fun h => absurd rfl h, k1, Below.next bel0 bel1⟩
    case round =>
      obtain ⟨k, N, F, H, gf, gt, rfl, rfl, rfl, rfl, hk, hN0, hN1, hF0, hF1, hH0, hH1, hgf0, hgf1, hgt0, hgt1, hgf, hg, hbel⟩ := hrel
      have BEL := Lib.hid hbel
      by_cases hkn : k < n
      · obtain ⟨ab, ao, rfl, hab, hcell0⟩ := hA.out.at_ hkn
        have hcell := (hbel.cell (p := ⟨ab, ao + k, none⟩) hab).trans hcell0
        obtain ⟨u0, u1⟩ := hU.out k hkn
        generalize hU' : U k = u at *
        clear hU' hcell0
        have ho := ok_of (h := hold + 1) (H := H) (gf := gf) (gt := gt) (by omega) (by omega) hH0 (by omega) hgf0 (by omega) hgt0 (by omega)
        have c1 := raise_any hg ho (N + u % 30) (by omega) (by omega)
        by_cases hz : H = 0
        · subst hz
          rw [raise_more (by omega) (by omega) (by omega) (by omega) (by omega) (.inl rfl), if_pos rfl, show (0 : Int) + 1 = 1 from rfl] at c1
          have ho2 := ok_of (h := hold + 1) (H := 1) (gf := N + u % 30) (gt := N + u % 30) (by omega) (by omega) (by omega) (by omega) (by omega) (by omega) (by omega) (by omega)
          have c2 := fun W (kk : IsG W b ⟨1000, hold + 1, 1, N + u % 30, N + u % 30⟩) => due_any kk ho2
          rw [due_is (by omega) (by omega)] at c2
          have C1 := Lib.hid c1
          have C2 := fun W kk => Lib.hid (c2 W kk)
          have C3 := fun W (kk : IsG W b ⟨1000, hold + 1, 1, N + u % 30, N + u % 30⟩) => Lib.hid (has_any kk)
          clear c1 c2 hbel hg hgf ho ho2
          go_wp2_with (first
            | (go_at_call 11; (with_reducible refine Calls.mono C1.out ?_); rintro e w2 ⟨rfl, k2, on2⟩)
            | (go_at_call 15; (with_reducible refine Calls.mono (C2 _ k2).out ?_); rintro e w' ⟨rfl, m, rfl⟩)
            | (go_at_call 17; (with_reducible refine Calls.mono (C3 _ (Blk.drewN k2 _)).out ?_); rintro e w' ⟨rfl, rfl⟩))
          go_roundw
          case rel => exact ⟨k + 1, N + u % 30, N + u % 30, 1, _, _, rfl, rfl, rfl, by go_num, by omega, by omega, by omega, by omega, by omega, by omega, by omega, by omega, by omega, by omega, by omega, fun _ => rfl, Blk.drewN k2 _, Below.drewN' (Below.only BEL.out on2 hwb) _⟩
          case measure => simp [intOf]; omega
        · have hH : 0 < H := by omega
          have hfe := hgf hz
          by_cases hd : F + (hold + 1) ≤ N + u % 30
          · subst hfe
            rw [raise_fires (by omega) (by omega) hH (by omega) (by omega) (by omega) (by omega) hd] at c1
            have ho2 := ok_of (h := hold + 1) (H := 1) (gf := N + u % 30) (gt := N + u % 30) (by omega) (by omega) (by omega) (by omega) (by omega) (by omega) (by omega) (by omega)
            have c2 := fun W (kk : IsG W b ⟨1000, hold + 1, 1, N + u % 30, N + u % 30⟩) => due_any kk ho2
            rw [due_is (by omega) (by omega)] at c2
            have C1 := Lib.hid c1
            have C2 := fun W kk => Lib.hid (c2 W kk)
            have C3 := fun W (kk : IsG W b ⟨1000, hold + 1, 1, N + u % 30, N + u % 30⟩) => Lib.hid (has_any kk)
            have z1 : gf + hold + 1 ≤ N + u % 30 := by omega
            clear hz hd
            clear c1 c2 hbel hg hgf ho ho2
            go_wp2_with (first
              | (go_at_call 11; (with_reducible refine Calls.mono C1.out ?_); rintro e w2 ⟨rfl, k2, on2⟩)
              | (go_at_call 15; (with_reducible refine Calls.mono (C2 _ k2).out ?_); rintro e w' ⟨rfl, m, rfl⟩)
              | (go_at_call 17; (with_reducible refine Calls.mono (C3 _ (Blk.drewN k2 _)).out ?_); rintro e w' ⟨rfl, rfl⟩))
            go_roundw
            case rel => exact ⟨k + 1, N + u % 30, N + u % 30, 1, _, _, rfl, rfl, rfl, by go_num, by omega, by omega, by omega, by omega, by omega, by omega, by omega, by omega, by omega, by omega, by omega, fun _ => rfl, Blk.drewN k2 _, Below.drewN' (Below.only BEL.out on2 hwb) _⟩
            case measure => simp [intOf]; omega
          · subst hfe
            rw [raise_more (by omega) (by omega) (by omega) (by omega) (by omega) (.inr (by omega)), if_neg hz] at c1
            have ho2 := ok_of (h := hold + 1) (H := H + 1) (gf := gf) (gt := N + u % 30) (by omega) (by omega) (by omega) (by omega) (by omega) (by omega) (by omega) (by omega)
            have c2 := fun W (kk : IsG W b ⟨1000, hold + 1, H + 1, gf, N + u % 30⟩) => due_any kk ho2
            rw [due_is (by omega) (by omega)] at c2
            have C1 := Lib.hid c1
            have C2 := fun W kk => Lib.hid (c2 W kk)
            have C3 := fun W (kk : IsG W b ⟨1000, hold + 1, H + 1, gf, N + u % 30⟩) => Lib.hid (has_any kk)
            have z1 : decide (gf + hold + 1 ≤ N + u % 30) = false := decide_eq_false (by omega)
            have z2 : N + u % 30 < gf + hold + 1 := by omega
            have z3 : (H == 0) = false := beq_eq_false_iff_ne.2 hz
            clear hz hd
            clear c1 c2 hbel hg hgf ho ho2
            go_wp2_with (first
              | (go_at_call 11; (with_reducible refine Calls.mono C1.out ?_); rintro e w2 ⟨rfl, k2, on2⟩)
              | (go_at_call 15; (with_reducible refine Calls.mono (C2 _ k2).out ?_); rintro e w' ⟨rfl, m, rfl⟩)
              | (go_at_call 17; (with_reducible refine Calls.mono (C3 _ (Blk.drewN k2 _)).out ?_); rintro e w' ⟨rfl, rfl⟩))
            go_roundw
            case rel => exact ⟨k + 1, N + u % 30, gf, H + 1, _, _, rfl, rfl, rfl, by go_num, by omega, by omega, by omega, by omega, by omega, by omega, by omega, by omega, by omega, by omega, by omega, fun _ => rfl, Blk.drewN k2 _, Below.drewN' (Below.only BEL.out on2 hwb) _⟩
            case measure => simp [intOf]; omega
      · go_wp2
        go_ret
        exact ⟨rfl, BEL.out⟩
theorem walk (w : World) (hold : Int) (w0 : (Lit.int .u8 hold).wf = true) (A : Option Addr) (n cap : Nat) (D : Nat → List Value) (w1 : Elems w [some .u8] A n D) (hl : n * 1 ≤ 140737488351232) :
    Calls Try.prog 6 #[.int .u8 hold, .slice A n cap] w fun e w' => e = .returned (.bool true) ∧ Below w.heap.size w w' := by
  obtain ⟨b0, b0'⟩ := bounds_u8 w0
  obtain ⟨U, hU, hw⟩ := ints_of w1
  exact walk2 w hold b0 b0' A n cap U hU (fun i hi => bounds_u8 (hw i hi)) (by omega)
end coalDue
namespace coalDue
theorem own : ownKnob Try.prog.godebug = none := by kernel_rfl
set_option maxRecDepth 100000 in
theorem lifted (os : Os) (started : os.Started) (H : Type) (enc : TypeId × Value → H) :
    ReturnsInHanded {} Try.checked os 6 .any (Rows.coalDueSpec.pre6 enc Try.prog Try.f6 Rows.coalDueRow.domain false) (Rows.coalDueSpec.post enc Try.prog Try.f6 false true false false) := by
  refine returnsInHanded_of_change_sized (C := Try.checked) own started (by kernel_rfl) Try.func6
    (ChangeSpec.witness6 (enc := enc) (C := Try.checked) false ⟨#[], #[.int .u8 0, .slice none 0 0], []⟩ 8 (by kernel_rfl) (by kernel_rfl) (by kernel_rfl) (by kernel_rfl)) ?_
  intro W base args ds gs before hval0 hW hcnd hsz0 _
  have hsz : (DataW.weightsEach Try.prog (Try.f6.params.toList ++ Rows.coalDueSpec.plain.varTypes Try.prog) (ds ++ gs)).all (· ≤ reachBytes) = true := hsz0
  have hval : ∀ (j : Nat) t v, Try.f6.params[j]? = some t → args[j]? = some v → Value.okWide Try.prog W .any base t v := hval0
  have hW' := hW
  obtain ⟨p, q, hA0, hV, rfl, hfz, hnd⟩ := hW
  have hA : DataW.TrodAll enc Try.prog W 0 (fun _ => true) true Try.f6.params.toList args.toList ds p := hA0
  rw [Try.params6] at hA hval hsz
  obtain ⟨v0, vs0, d0, ds0, p0, q0, hargs, rfl, rfl, h0, r0⟩ := trodAll_cons hA
  obtain ⟨v1, vs1, d1, ds1, p1, q1, rfl, rfl, rfl, h1, r1⟩ := trodAll_cons r0
  obtain ⟨rfl, rfl, rfl⟩ := trodAll_nil r1
  obtain rfl : args = #[v0, v1] := by cases args; simp_all
  obtain ⟨rfl, rfl⟩ := trodVars_none hV
  obtain ⟨a0, rfl, w0⟩ := arg_one Try.underlying5 (hval 0 5 v0 rfl rfl) h0
  obtain ⟨A1, n1, cap1, D1, rfl, w1, m1, z1⟩ := arg_slice [some .u8] Try.underlying42 6 (by kernel_rfl) (by kernel_rfl) (hval 1 42 v1 rfl rfl) h1
  have l1 : n1 * Try.prog.bytesOf 5 ≤ reachBytes := by
    rcases z1 with ⟨_, e⟩ | ⟨es, sp, e, el⟩
    · subst e; simp
    · subst e; subst el; exact Nat.le_trans (Nat.mul_le_mul_right _ (Nat.le_add_right _ _)) (sized_slice hsz (j := 1) (t := 42) (e := 5) rfl rfl Try.underlying42)
  have b1 : Try.prog.bytesOf 5 = 1 := by kernel_rfl
  rw [b1] at l1
  simp only [reachBytes] at l1
  clear z1 b1
  clear hA0 hval0 hsz0 hsz
  refine (walk W a0 w0 A1 n1 cap1 D1 w1 l1).mono fun e W' ⟨he, bel⟩ => ?_
  subst he
  exact ⟨_, rfl, _, _, _, [], _, [], hW', trodAll_mk1 (shut_bool Try.underlying4 _), (trodAll_cons_mk (Below.trod laidOut (by kernel_rfl) (of_decide_eq_true (by kernel_rfl)) h0 bel (fun x hx => by simpa using hW'.lt x (by simp [hx]))) (trodAll_cons_mk (Below.trod laidOut (by kernel_rfl) (of_decide_eq_true (by kernel_rfl)) h1 bel (fun x hx => by simpa using hW'.lt x (by simp [hx]))) trodAll_mk0)), rfl, bel.frame _, fun h => by cases h⟩
theorem over : Rows.coalDueRow.holds Try.pinned (OpenSpec.ofChange Rows.coalDueSpec) :=
  OpenClaim.holds_of_wide 6 Try.f6 rfl rfl rfl rfl rfl rfl rfl ⟨rfl, rfl, rfl, rfl, rfl⟩ rfl rfl rfl rfl rfl (by kernel_rfl) Try.func6 (by kernel_rfl)
    (of_decide_eq_true (by kernel_rfl)) (by unfold Func.isWrapper; first | (rw [if_pos (by decide +kernel)]; kernel_rfl) | (rw [if_neg (by decide +kernel)]; exact ⟨rfl, rfl⟩))
    (fun os started H enc _ => lifted os started H enc)
end coalDue
theorem coalDue_holds : Rows.CoalDueSaid := coalDue.over
#print axioms coalDue_holds
end Go.Proofs.Ytppkpelpdmkgjaa
