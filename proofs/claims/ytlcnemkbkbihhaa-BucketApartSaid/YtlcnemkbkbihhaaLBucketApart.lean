/- BucketApart: two buckets don't touch one another; a token is there at least each time that as many ticks as its rate says went by since the last one was taken. No condition. -/
import Derived.Test.YtlcnemkbkbihhaaBucketLaw
import Derived.Test.YtlcnemkbkbihhaaArg
import Derived.Test.YtlcnemkbkbihhaaRows
import Derived.ProofKit
import Derived.OpenShut
import Derived.ShutString
import Derived.ChangeOld
import Derived.Below
import Derived.SizedLaws
namespace Go.Proofs.Ytlcnemkbkbihhaa
open Go.ChangeShapes Go.WideShapes Go.ChangeAt Go.RowKit
open Go.ChangeMaps (open_string shut_string)
set_option linter.unusedVariables false
set_option linter.unusedSimpArgs false
namespace bucketApart
theorem keep {w w' : World} {a b : Nat} {s : Bk} (k : IsK w a s) (o : Only (· = b) w w') (h : a ≠ b) : IsK w' a s := Blk.only k o h
theorem under {w w' : World} {a : Nat} {s : Bk} (k : IsK w a s) (o : Below w.heap.size w w') : IsK w' a s := Blk.below k o (Blk.lt k)
def Rel (w : World) (a b : Nat) (q : Int) (n : Nat) (nv lv iv : Value) (wr : World) : Prop :=
  ∃ (k : Nat) (N L : Int) (s t : Bk), nv = .int .u64 N ∧ lv = .int .u64 L ∧ iv = .int .i64 k ∧ k ≤ n ∧ Now 1 q N s ∧ (s.k = 0 → s.r = L / q) ∧ Now 9 q N t ∧ t.k = 9 ∧ 0 ≤ L ∧ L ≤ N ∧ N ≤ 60 * k ∧ IsK wr a s ∧ IsK wr b t ∧ Below w.heap.size w wr
set_option maxRecDepth 100000 in
set_option maxHeartbeats 8000000 in
theorem walk2 (w : World) (every : Int) (b1 : 0 ≤ every) (b1' : every ≤ 255) (A : Option Addr) (n cap : Nat) (U : Nat → Int) (hA : Hid (IntsAt w .u8 A n U)) (hU : Hid (∀ i, i < n → 0 ≤ U i ∧ U i ≤ 255)) (hn : n ≤ 140737488351232) :
    Calls Try.prog 7 #[.int .u8 every, .slice A n cap] w fun e w' => e = .returned (.bool true) ∧ Below w.heap.size w w' := by
  obtain ⟨q, hq⟩ : ∃ q, 1 + every % 30 = q := ⟨_, rfl⟩
  have m1 : mayK 1 q = true := mayK_iff.2 (by omega)
  have m2 : mayK 9 q = true := mayK_iff.2 (by omega)
  have C1 := fun W => Lib.hid (newK_fix 1 q W m1)
  have C2 := fun W => Lib.hid (newK_fix 9 q W m2)
  by_cases hz : 100 < n
  · have hz' : (100 : Int) < n := by omega
    go_enter Try.func7, Try.ntmps7
    go_wp2_with (first
      | (go_at_call 8; (with_reducible refine Calls.mono (awake_any _) ?_); rintro e w0 ⟨rfl, bel0⟩)
      | (go_at_call 9; (with_reducible refine Calls.mono (C1 _).out ?_); rintro e w1 ⟨a, rfl, ha, k1, bel1⟩
         have HB1 := Lib.hid (Below.next bel0 bel1))
      | (go_at_call 9; (with_reducible refine Calls.mono (C2 _).out ?_); rintro e w2 ⟨b, rfl, hb, k2, bel2⟩
         have HB2 := Lib.hid (Below.next HB1.out bel2)))
    go_ret
    exact ⟨rfl, HB2.out⟩
  · have hz' : ¬ (100 : Int) < n := by omega
    go_enter Try.func7, Try.ntmps7
    go_wp2_with (first
      | (go_at_call 8; (with_reducible refine Calls.mono (awake_any _) ?_); rintro e w0 ⟨rfl, bel0⟩)
      | (go_at_call 9; (with_reducible refine Calls.mono (C1 _).out ?_); rintro e w1 ⟨a, rfl, ha, k1, bel1⟩
         have HB1 := Lib.hid (Below.next bel0 bel1)
         have K1 := Lib.hid k1)
      | (go_at_call 9; (with_reducible refine Calls.mono (C2 _).out ?_); rintro e w2 ⟨b, rfl, hb, k2, bel2⟩
         have HB2 := Lib.hid (Below.next HB1.out bel2)
         have K1' := Lib.hid (under K1.out bel2)
         have K2 := Lib.hid k2
         have hab : a ≠ b := by have := Blk.lt K1.out; omega))
    have hwa : w.heap.size ≤ a := Nat.le_trans bel0.size ha
    have hwb : w.heap.size ≤ b := Nat.le_trans HB1.out.size hb
    go_loopw [10, 11, 12] (fun nv lv iv wr => Hid (Rel w a b q n nv lv iv wr)) (fun _ _ iv _ => n - (intOf iv).toNat)
    case atStart => exact ⟨0, 0, 0, _, _, rfl, rfl, rfl, by omega, ⟨k0_ok m1, rfl, rfl, by simp⟩, by simp, ⟨k0_ok m2, rfl, rfl, by simp⟩, rfl, by simp, by simp, by simp, K1'.out, K2.out, HB2.out⟩
    case round =>
      obtain ⟨k, N, L, s, t, rfl, rfl, rfl, hk, hs, hsr, ht, htk, hL0, hLN, hN, ka, kb, hbel⟩ := hrel
      have KA := Lib.hid ka
      have KB := Lib.hid kb
      have BEL := Lib.hid hbel
      clear ka kb hbel
      by_cases hkn : k < n
      · obtain ⟨ab, ao, rfl, hlt, hcw⟩ := hA.out.at_ hkn
        have hcell := (BEL.out.cell (p := ⟨ab, ao + k, none⟩) hlt).trans hcw
        obtain ⟨u0, u1⟩ := hU.out k hkn
        generalize U k = u at *
        clear hcw
        have x0 : 0 ≤ u % 60 := by omega
        have x1 : u % 60 < 60 := by omega
        obtain ⟨t1, e1, e1', nt, htk1⟩ := full_step ht htk (N + u % 60) (by omega) (by omega)
        have c1 := fun W (kk : IsK W b t) => hask_any kk ht.ok (N + u % 60) (by omega) (by omega)
        rw [e1, e1'] at c1
        have T1 := fun W kk => Lib.hid (c1 W kk)
        obtain ⟨s1, cs⟩ := apart_step hs hsr (N + u % 60) hL0 hLN (by omega) (by omega)
        have c2 := fun W (kk : IsK W a s) => takek_any kk hs.ok (N + u % 60) (by omega) (by omega)
        rcases cs with ⟨e2, ns, hr⟩ | ⟨e2, ns, hr, hlate⟩
        · rw [e2] at c2
          have T2 := fun W kk => Lib.hid (c2 W kk)
          have NT := Lib.hid nt
          have NS := Lib.hid ns
          have HR := Lib.hid (fun _ : s1.k = 0 => hr)
          clear c1 c2 e1 e1' e2 nt ns hs ht hsr hr
          go_wp2_with (first
            | (go_at_call 11; (with_reducible refine Calls.mono (T1 _ KB.out).out ?_); rintro e w3 ⟨rfl, k3, o3⟩
               have HB3 := Lib.hid (Below.only BEL.out o3 hwb)
               have KA3 := Lib.hid (keep KA.out o3 hab)
               have KB3 := Lib.hid k3
               clear o3 k3)
            | (go_at_call 10; (with_reducible refine Calls.mono (T2 _ KA3.out).out ?_); rintro e w4 ⟨rfl, k4, o4⟩
               have HB4 := Lib.hid (Below.only HB3.out o4 hwa)
               have KB4 := Lib.hid (keep KB3.out o4 (fun e => hab e.symm))
               have KA4 := Lib.hid k4
               clear o4 k4))
          go_roundw
          case rel => exact ⟨k + 1, N + u % 60, N + u % 60, s1, t1, rfl, rfl, by go_num, by omega, NS.out, HR.out, NT.out, htk1, by omega, by omega, by omega, KA4.out, KB4.out, HB4.out⟩
          case measure => simp [intOf]; omega
        · rw [e2] at c2
          have T2 := fun W kk => Lib.hid (c2 W kk)
          have NT := Lib.hid nt
          have NS := Lib.hid ns
          have HR := Lib.hid (fun _ : s1.k = 0 => hr)
          have hlate' : decide (L + q ≤ N + u % 60) = false := decide_eq_false (by omega)
          clear c1 c2 e1 e1' e2 nt ns hs ht hsr hr hlate
          go_wp2_with (first
            | (go_at_call 11; (with_reducible refine Calls.mono (T1 _ KB.out).out ?_); rintro e w3 ⟨rfl, k3, o3⟩
               have HB3 := Lib.hid (Below.only BEL.out o3 hwb)
               have KA3 := Lib.hid (keep KA.out o3 hab)
               have KB3 := Lib.hid k3
               clear o3 k3)
            | (go_at_call 10; (with_reducible refine Calls.mono (T2 _ KA3.out).out ?_); rintro e w4 ⟨rfl, k4, o4⟩
               have HB4 := Lib.hid (Below.only HB3.out o4 hwa)
               have KB4 := Lib.hid (keep KB3.out o4 (fun e => hab e.symm))
               have KA4 := Lib.hid k4
               clear o4 k4))
          go_roundw
          case rel => exact ⟨k + 1, N + u % 60, L, s1, t1, rfl, rfl, by go_num, by omega, NS.out, HR.out, NT.out, htk1, by omega, by omega, by omega, KA4.out, KB4.out, HB4.out⟩
          case measure => simp [intOf]; omega
      · go_wp2_with fail
        go_ret
        exact ⟨rfl, BEL.out⟩
theorem walk (w : World) (every : Int) (w1 : (Lit.int .u8 every).wf = true) (A : Option Addr) (n cap : Nat) (D : Nat → List Value) (w2 : Elems w [some .u8] A n D) (hl : n * 1 ≤ 140737488351232) :
    Calls Try.prog 7 #[.int .u8 every, .slice A n cap] w fun e w' => e = .returned (.bool true) ∧ Below w.heap.size w w' := by
  obtain ⟨b1, b1'⟩ := bounds_u8 w1
  obtain ⟨U, hU, hw⟩ := ints_of w2
  exact walk2 w every b1 b1' A n cap U hU (fun i hi => bounds_u8 (hw i hi)) (by omega)
end bucketApart
namespace bucketApart
theorem own : ownKnob Try.prog.godebug = none := by kernel_rfl
set_option maxRecDepth 100000 in
theorem lifted (os : Os) (started : os.Started) (H : Type) (enc : TypeId × Value → H) :
    ReturnsInHanded {} Try.checked os 7 .any (Rows.bucketApartSpec.pre6 enc Try.prog Try.f7 Rows.bucketApartRow.domain false) (Rows.bucketApartSpec.post enc Try.prog Try.f7 false true false false) := by
  refine returnsInHanded_of_change_sized (C := Try.checked) own started (by kernel_rfl) Try.func7
    (ChangeSpec.witness6 (enc := enc) (C := Try.checked) false ⟨#[], #[.int .u8 0, .slice none 0 0], []⟩ 8 (by kernel_rfl) (by kernel_rfl) (by kernel_rfl) (by kernel_rfl)) ?_
  intro W base args ds gs before hval0 hW hcnd hsz0 _
  have hsz : (DataW.weightsEach Try.prog (Try.f7.params.toList ++ Rows.bucketApartSpec.plain.varTypes Try.prog) (ds ++ gs)).all (· ≤ reachBytes) = true := hsz0
  have hval : ∀ (j : Nat) t v, Try.f7.params[j]? = some t → args[j]? = some v → Value.okWide Try.prog W .any base t v := hval0
  have hW' := hW
  obtain ⟨p, q, hA0, hV, rfl, hfz, hnd⟩ := hW
  have hA : DataW.TrodAll enc Try.prog W 0 (fun _ => true) true Try.f7.params.toList args.toList ds p := hA0
  rw [Try.params7] at hA hval hsz
  obtain ⟨v0, vs0, d0, ds0, p0, q0, hargs, rfl, rfl, h0, r0⟩ := trodAll_cons hA
  obtain ⟨v1, vs1, d1, ds1, p1, q1, rfl, rfl, rfl, h1, r1⟩ := trodAll_cons r0
  obtain ⟨rfl, rfl, rfl⟩ := trodAll_nil r1
  obtain rfl : args = #[v0, v1] := by cases args; simp_all
  obtain ⟨rfl, rfl⟩ := trodVars_none hV
  obtain ⟨a0, rfl, w0⟩ := arg_one Try.underlying5 (hval 0 5 v0 rfl rfl) h0
  obtain ⟨A1, n1, cap1, D1, rfl, w1, m1, z1⟩ := arg_slice [some .u8] Try.underlying22 6 (by kernel_rfl) (by kernel_rfl) (hval 1 22 v1 rfl rfl) h1
  have l1 : n1 * Try.prog.bytesOf 5 ≤ reachBytes := by
    rcases z1 with ⟨_, e⟩ | ⟨es, sp, e, el⟩
    · subst e; simp
    · subst e; subst el; exact Nat.le_trans (Nat.mul_le_mul_right _ (Nat.le_add_right _ _)) (sized_slice hsz (j := 1) (t := 22) (e := 5) rfl rfl Try.underlying22)
  have b1 : Try.prog.bytesOf 5 = 1 := by kernel_rfl
  rw [b1] at l1
  simp only [reachBytes] at l1
  clear z1 b1
  clear hA0 hval0 hsz0 hsz
  refine (walk W a0 w0 A1 n1 cap1 D1 w1 l1).mono fun e W' ⟨he, bel⟩ => ?_
  subst he
  exact ⟨_, rfl, _, _, _, [], _, [], hW', trodAll_mk1 (shut_bool Try.underlying4 _), (trodAll_cons_mk (Below.trod laidOut (by kernel_rfl) (of_decide_eq_true (by kernel_rfl)) h0 bel (fun x hx => by simpa using hW'.lt x (by simp [hx]))) (trodAll_cons_mk (Below.trod laidOut (by kernel_rfl) (of_decide_eq_true (by kernel_rfl)) h1 bel (fun x hx => by simpa using hW'.lt x (by simp [hx]))) trodAll_mk0)), rfl, bel.frame _, fun h => by cases h⟩
theorem over : Rows.bucketApartRow.holds Try.pinned (OpenSpec.ofChange Rows.bucketApartSpec) :=
  OpenClaim.holds_of_wide 7 Try.f7 rfl rfl rfl rfl rfl rfl rfl ⟨rfl, rfl, rfl, rfl, rfl⟩ rfl rfl rfl rfl rfl (by kernel_rfl) Try.func7 (by kernel_rfl)
    (of_decide_eq_true (by kernel_rfl)) (by unfold Func.isWrapper; first | (rw [if_pos (by decide +kernel)]; kernel_rfl) | (rw [if_neg (by decide +kernel)]; exact ⟨rfl, rfl⟩))
    (fun os started H enc _ => lifted os started H enc)
end bucketApart
theorem bucketApart_holds : Rows.BucketApartSaid := bucketApart.over
#print axioms bucketApart_holds
end Go.Proofs.Ytlcnemkbkbihhaa
