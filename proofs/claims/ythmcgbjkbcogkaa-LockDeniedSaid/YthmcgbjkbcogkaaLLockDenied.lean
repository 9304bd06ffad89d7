/- LockDenied: whoever is more urgent than a lock's ceiling never gets it; whoever isn't gets it, if it is free; so is it for each lock by itself. No condition. -/
import Derived.Test.YthmcgbjkbcogkaaLockLaw
import Derived.Test.YthmcgbjkbcogkaaArg
import Derived.Test.YthmcgbjkbcogkaaRows
import Derived.ProofKit
import Derived.OpenShut
import Derived.ShutString
import Derived.ChangeOld
import Derived.Below
import Derived.SizedLaws
import Derived.Test.YthmcgbjkbcogkaaArgs
namespace Go.Proofs.Ythmcgbjkbcogkaa
open Go.ChangeShapes Go.WideShapes Go.ChangeAt Go.RowKit
open Go.ChangeMaps (open_string shut_string)
set_option linter.unusedVariables false
set_option linter.unusedSimpArgs false
namespace lockDenied
/-- What member 9 holds ahead of lock i. -/
def hD (U : Nat → Int) (p : Int) : Nat → List Int
  | 0 => []
  | i + 1 => if p < U i then hD U p i else hD U p i ++ [(i : Int)]
theorem hD_lt (U : Nat → Int) (p : Int) : ∀ i, ∀ x ∈ hD U p i, 0 ≤ x ∧ x < i := by
  intro i
  induction i with
  | zero => intro x hx; cases hx
  | succ i ih =>
    intro x hx
    unfold hD at hx
    split at hx
    · have := ih x hx; omega
    · rcases List.mem_append.1 hx with hx | hx
      · have := ih x hx; omega
      · obtain rfl := List.mem_singleton.1 hx; omega
def mD (U : Nat → Int) (p : Int) (i : Nat) : Int → Option Mm := upd m0 9 ⟨p, hD U p i⟩
theorem mD_other (U : Nat → Int) (p : Int) (i : Nat) (j : Nat) (l : Int) (h : l ∈ heldM (mD U p i j)) : j = 9 ∧ l ∈ hD U p i := by
  unfold mD at h
  by_cases e : (j : Int) = 9
  · rw [e, upd_self] at h
    exact ⟨by omega, h⟩
  · rw [upd_other e] at h
    cases h
theorem no_yet (U : Nat → Int) (p : Int) (i : Nat) : who (mD U p i) i = none := who_no fun j hj => by
  have := hD_lt U p i _ (mD_other U p i j _ hj).2
  omega
theorem start (p : Int) (U : Nat → Int) : knowF m0 9 p = (0, mD U p 0) := by rfl
theorem step_no {n : Nat} {U : Nat → Int} {p : Int} {i : Nat} (h : i < n) (hp : p < U i) : takeF (lst n U) (mD U p i) 9 i = (11, mD U p (i + 1)) ∧ holderF (mD U p (i + 1)) i = (0, false) := by
  have e : mD U p (i + 1) = mD U p i := by unfold mD; rw [show hD U p (i + 1) = hD U p i from if_pos hp]
  constructor
  · unfold takeF
    rw [if_neg (by rw [lst_len]; omega), show mD U p i 9 = some ⟨p, hD U p i⟩ from upd_self _ _ _]
    simp only
    rw [if_neg (fun hx => by have := hD_lt U p i _ hx; omega), if_pos (by rw [getD_lst h]; exact hp), e]
  · unfold holderF
    rw [e, no_yet]
theorem step_yes {n : Nat} {U : Nat → Int} {p : Int} {i : Nat} (h : i < n) (hp : ¬ p < U i) : takeF (lst n U) (mD U p i) 9 i = (0, mD U p (i + 1)) ∧ holderF (mD U p (i + 1)) i = (9, true) := by
  have e : mD U p (i + 1) = upd m0 9 ⟨p, hD U p i ++ [(i : Int)]⟩ := by unfold mD; rw [show hD U p (i + 1) = _ from if_neg hp]
  constructor
  · unfold takeF
    rw [if_neg (by rw [lst_len]; omega), show mD U p i 9 = some ⟨p, hD U p i⟩ from upd_self _ _ _]
    simp only
    rw [if_neg (fun hx => by have := hD_lt U p i _ hx; omega), if_neg (by rw [getD_lst h]; exact hp), no_yet, if_neg (by simp), e]
    unfold mD
    rw [upd_upd]
  · unfold holderF
    rw [who_is (j := 9) (by omega) (by rw [e]; show _ ∈ heldM (upd m0 9 _ 9); rw [upd_self]; show _ ∈ _ ++ _; simp) (fun j hj => (mD_other U p (i + 1) j _ hj).1)]
    rfl
theorem last (cs : List Int) (U : Nat → Int) (p : Int) (n : Nat) : ∃ q, prioM cs (mD U p n 9) = (q, 0) ∧ q ≤ p := by
  rw [show mD U p n 9 = some ⟨p, hD U p n⟩ from upd_self _ _ _]
  exact ⟨_, rfl, prioL_le _ _ _⟩
def Rel (w : World) (n p base : Nat) (U : Nat → Int) (q : Int) (iv : Value) (wr : World) : Prop :=
  ∃ i : Nat, iv = .int .i64 i ∧ i ≤ n ∧ Kept wr p (1 + i) base NF (lst n U) (mD U q i) ∧ base ≤ wr.heap.size ∧ Below w.heap.size w wr
set_option maxRecDepth 100000 in
set_option maxHeartbeats 2000000 in
theorem walk2 (w : World) (A : Option Addr) (n c : Nat) (U : Nat → Int) (hs : Hid (IntsAt w .i64 A n U)) (hn : n ≤ 140737488351232) (t : Int) (t0 : 0 ≤ t) (t1 : t ≤ 255) :
    Calls Try.prog 6 #[.slice A n c, .int .u8 t] w fun e w' => e = .returned (.bool true) ∧ Below w.heap.size w w' := by
  have IB := fun W (b : Below w.heap.size w W) => Lib.hid (hs.out.below b)
  have MY := fun W h => Lib.hid (rmay23_any W A n c U h hn)
  go_enter Try.func6, Try.ntmps6
  go_wp2_with (first
    | (go_at_call 7; (with_reducible refine Calls.mono (awake_any _) ?_); rintro e w0 ⟨rfl, bel0⟩; have HB := Lib.hid bel0; clear bel0))
  go_at_call 8
  (with_reducible refine Calls.mono (MY _ (IB _ HB.out).out).out ?_); rintro e w1 ⟨r, rfl, hr, rfl⟩
  have HR := Lib.hid hr
  clear hr MY
  cases r with
  | false =>
    go_wp2_with fail
    go_ret
    exact ⟨rfl, HB.out⟩
  | true =>
    have G := Lib.hid (HR.out.1 rfl)
    have n16 := G.out.2.1
    obtain ⟨q, hq⟩ : ∃ q : Int, t % 101 = q := ⟨_, rfl⟩
    have q0 : 0 ≤ q := by omega
    have q1 : q ≤ 100 := by omega
    have HQ := Lib.hid hq
    clear hq
    have NW := fun W h => Lib.hid (new_k W A n c U h G.out)
    have KN := fun W p B (k : Kept W p 0 B NF (lst n U) m0) (hb : B ≤ W.heap.size) => Lib.hid (start q U ▸ know_k k nf hb 9 q (by omega) (by omega) (by omega))
    go_wp2_with (first
      | (go_at_call 9; (with_reducible refine Calls.mono (NW _ (IB _ HB.out).out).out ?_); rintro e w2 ⟨p, rfl, k2, b2, hp⟩
         have K2 := Lib.hid (show Kept w2 p 0 w0.heap.size NF (lst n U) m0 from k2)
         have S2 := Lib.hid b2.size
         have HB2 := Lib.hid (Below.next HB.out b2)
         clear k2 b2 hp))
    rw [HQ.out]
    go_wp2_with (first
      | (go_at_call 11; (with_reducible refine Calls.mono (KN _ _ _ K2.out S2.out).out ?_); rintro e w3 ⟨rfl, k3, o3⟩
         have K3 := Lib.hid k3
         have S3 := Lib.hid (Nat.le_trans S2.out o3.size)
         have HB3 := Lib.hid (Below.onlyF HB2.out o3 (fun i h => by have := h.1; have := HB.out.size; omega))
         clear k3 o3))
    go_loopw [8] (fun iv wr => Hid (Rel w n p w0.heap.size U q iv wr)) (fun iv _ => (n - intOf iv).toNat)
    case atStart => exact ⟨0, rfl, by omega, K3.out, S3.out, HB3.out⟩
    case round =>
      clear K2 S2 HB2 K3 S3 HB3 NW KN
      obtain ⟨i, rfl, hi, ki, si, bi⟩ := hrel
      have KI := Lib.hid ki
      have SI := Lib.hid si
      have BI := Lib.hid bi
      clear ki si bi
      by_cases hin : i < n
      · have hin2 : (i : Int) < n := by omega
        obtain ⟨b, off, rfl, hlt, hc⟩ := hs.out.at_ hin
        obtain ⟨u, hu⟩ : ∃ u, U i = u := ⟨_, rfl⟩
        rw [hu] at hc
        by_cases hp : q < u
        · have d1 : decide (q < u) = true := decide_eq_true hp
          have d2 : decide (u ≤ q) = false := decide_eq_false (by omega)
          obtain ⟨t1, t2⟩ := step_no (n := n) (U := U) (p := q) hin (by rw [hu]; exact hp)
          have TK := Lib.hid (t1 ▸ take_k KI.out nf SI.out 9 i (by omega) (by omega))
          have HO := fun W (k : Kept W p (1 + i + 1) w0.heap.size NF (lst n U) (mD U q (i + 1))) => Lib.hid (t2 ▸ holder_k k i)
          have HC := Lib.hid hc
          clear t1 t2 hu hc
          go_wp2_with (first
            | (go_at_call 14; (with_reducible refine Calls.mono TK.out ?_); rintro e w4 ⟨rfl, k4, o4⟩
               have K4 := Lib.hid k4
               have S4 := Lib.hid (Nat.le_trans SI.out o4.size)
               have B4 := Lib.hid (Below.onlyF BI.out o4 (fun i h => by have := h.1; have := HB.out.size; omega))
               clear k4 o4)
            | (go_at_call 17; (with_reducible refine Calls.mono (HO _ K4.out).out ?_); rintro e w5 ⟨rfl, k5, b5⟩
               have K5 := Lib.hid k5
               have S5 := Lib.hid (Nat.le_trans S4.out b5.size)
               have B5 := Lib.hid (Below.next B4.out b5)
               have c0 := (B5.out.cell (p := ⟨b, off + i, none⟩) hlt).trans HC.out
               have hlt5 := Nat.lt_of_lt_of_le hlt B5.out.size
               clear k5 b5))
          go_roundw
          case rel => exact ⟨i + 1, by go_num, by omega, K5.out, S5.out, B5.out⟩
          case measure => simp [intOf]; omega
        · have d1 : decide (q < u) = false := decide_eq_false hp
          have d2 : decide (u ≤ q) = true := decide_eq_true (by omega)
          obtain ⟨t1, t2⟩ := step_yes (n := n) (U := U) (p := q) hin (by rw [hu]; exact hp)
          have TK := Lib.hid (t1 ▸ take_k KI.out nf SI.out 9 i (by omega) (by omega))
          have HO := fun W (k : Kept W p (1 + i + 1) w0.heap.size NF (lst n U) (mD U q (i + 1))) => Lib.hid (t2 ▸ holder_k k i)
          have HC := Lib.hid hc
          clear t1 t2 hu hc
          go_wp2_with (first
            | (go_at_call 14; (with_reducible refine Calls.mono TK.out ?_); rintro e w4 ⟨rfl, k4, o4⟩
               have K4 := Lib.hid k4
               have S4 := Lib.hid (Nat.le_trans SI.out o4.size)
               have B4 := Lib.hid (Below.onlyF BI.out o4 (fun i h => by have := h.1; have := HB.out.size; omega))
               clear k4 o4)
            | (go_at_call 17; (with_reducible refine Calls.mono (HO _ K4.out).out ?_); rintro e w5 ⟨rfl, k5, b5⟩
               have K5 := Lib.hid k5
               have S5 := Lib.hid (Nat.le_trans S4.out b5.size)
               have B5 := Lib.hid (Below.next B4.out b5)
               have c0 := (B5.out.cell (p := ⟨b, off + i, none⟩) hlt).trans HC.out
               have hlt5 := Nat.lt_of_lt_of_le hlt B5.out.size
               clear k5 b5))
          go_roundw
          case rel => exact ⟨i + 1, by go_num, by omega, K5.out, S5.out, B5.out⟩
          case measure => simp [intOf]; omega
      · obtain rfl : i = n := by omega
        have hin2 : ¬ (i : Int) < i := by omega
        obtain ⟨z, hz, hz2⟩ := last (lst i U) U q i
        have PR := Lib.hid (hz ▸ prio_k KI.out 9 (by omega))
        have d3 : decide (z ≤ q) = true := decide_eq_true hz2
        clear hz
        go_wp2_with (first
          | (go_at_call 13; (with_reducible refine Calls.mono PR.out ?_); rintro e w4 ⟨rfl, rfl⟩))
        go_ret
        exact ⟨rfl, BI.out⟩
theorem walk (w : World) (A0 : Option Addr) (n0 cap0 : Nat) (D0 : Nat → List Value) (w0 : Elems w [some .i64] A0 n0 D0) (l0 : n0 * 8 ≤ 140737488351232) (t : Int) (wt : (Lit.int .u8 t).wf = true) :
    Calls Try.prog 6 #[.slice A0 n0 cap0, .int .u8 t] w fun e w' => e = .returned (.bool true) ∧ Below w.heap.size w w' := by
  obtain ⟨U, hU, -⟩ := ints_of w0
  have := bounds_u8 wt
  exact walk2 w A0 n0 cap0 U (Lib.hid hU) (by omega) t this.1 this.2
end lockDenied
namespace lockDenied
theorem own : ownKnob Try.prog.godebug = none := by kernel_rfl
set_option maxRecDepth 100000 in
theorem lifted (os : Os) (started : os.Started) (H : Type) (enc : TypeId × Value → H) :
    ReturnsInHanded {} Try.checked os 6 .any (Rows.lockDeniedSpec.pre6 enc Try.prog Try.f6 Rows.lockDeniedRow.domain false) (Rows.lockDeniedSpec.post enc Try.prog Try.f6 false true false false) := by
  refine returnsInHanded_of_change_sized (C := Try.checked) own started (by kernel_rfl) Try.func6
    (ChangeSpec.witness6 (enc := enc) (C := Try.checked) false ⟨#[], #[.slice none 0 0, .int .u8 0], []⟩ 8 (by kernel_rfl) (by kernel_rfl) (by kernel_rfl) (by kernel_rfl)) ?_
  intro W base args ds gs before hval0 hW hcnd hsz0 _
  have hsz : (DataW.weightsEach Try.prog (Try.f6.params.toList ++ Rows.lockDeniedSpec.plain.varTypes Try.prog) (ds ++ gs)).all (· ≤ reachBytes) = true := hsz0
  have hval : ∀ (j : Nat) t v, Try.f6.params[j]? = some t → args[j]? = some v → Value.okWide Try.prog W .any base t v := hval0
  have hW' := hW
  obtain ⟨p, q, hA0, hV, rfl, hfz, hnd⟩ := hW
  have hA : DataW.TrodAll enc Try.prog W 0 (fun _ => true) true Try.f6.params.toList args.toList ds p := hA0
  rw [Try.params6] at hA hval hsz
  obtain ⟨v0, vs0, d0, ds0, p0, q0, hargs, rfl, rfl, h0, r0⟩ := trodAll_cons hA
  obtain ⟨v1, vs1, d1, ds1, p1, q1, rfl, rfl, rfl, h1, r1⟩ := trodAll_cons r0
  obtain ⟨rfl, rfl, rfl⟩ := trodAll_nil r1
  obtain rfl : args = #[v0, v1] := by cases args; simp_all
  obtain ⟨rfl, rfl⟩ := trodVars_none hV
  obtain ⟨A0, n0, cap0, D0, rfl, w0, m0, z0⟩ := arg_slice [some .i64] Try.underlying22 6 (by kernel_rfl) (by kernel_rfl) (hval 0 22 v0 rfl rfl) h0
  have l0 : n0 * Try.prog.bytesOf 42 ≤ reachBytes := by
    rcases z0 with ⟨_, e⟩ | ⟨es, sp, e, el⟩
    · subst e; simp
    · subst e; subst el; exact Nat.le_trans (Nat.mul_le_mul_right _ (Nat.le_add_right _ _)) (sized_slice hsz (j := 0) (t := 22) (e := 42) rfl rfl Try.underlying22)
  have b0 : Try.prog.bytesOf 42 = 8 := by kernel_rfl
  rw [b0] at l0
  simp only [reachBytes] at l0
  clear z0 b0
  obtain ⟨a1, rfl, w1⟩ := arg_one Try.underlying5 (hval 1 5 v1 rfl rfl) h1
  clear hA0 hval0 hsz0 hsz
  refine (walk W A0 n0 cap0 D0 w0 l0 a1 w1).mono fun e W' ⟨he, bel⟩ => ?_
  subst he
  exact ⟨_, rfl, _, _, _, [], _, [], hW', trodAll_mk1 (shut_bool Try.underlying4 _), (trodAll_cons_mk (Below.trod laidOut (by kernel_rfl) (of_decide_eq_true (by kernel_rfl)) h0 bel (fun x hx => by simpa using hW'.lt x (by simp [hx]))) (trodAll_cons_mk (Below.trod laidOut (by kernel_rfl) (of_decide_eq_true (by kernel_rfl)) h1 bel (fun x hx => by simpa using hW'.lt x (by simp [hx]))) trodAll_mk0)), rfl, bel.frame _, fun h => by cases h⟩
theorem over : Rows.lockDeniedRow.holds Try.pinned (OpenSpec.ofChange Rows.lockDeniedSpec) :=
  OpenClaim.holds_of_wide 6 Try.f6 rfl rfl rfl rfl rfl rfl rfl ⟨rfl, rfl, rfl, rfl, rfl⟩ rfl rfl rfl rfl rfl (by kernel_rfl) Try.func6 (by kernel_rfl)
    (of_decide_eq_true (by kernel_rfl)) (by unfold Func.isWrapper; first | (rw [if_pos (by decide +kernel)]; kernel_rfl) | (rw [if_neg (by decide +kernel)]; exact ⟨rfl, rfl⟩))
    (fun os started H enc _ => lifted os started H enc)
end lockDenied
theorem lockDenied_holds : Rows.LockDeniedSaid := lockDenied.over
#print axioms lockDenied_holds
end Go.Proofs.Ythmcgbjkbcogkaa
