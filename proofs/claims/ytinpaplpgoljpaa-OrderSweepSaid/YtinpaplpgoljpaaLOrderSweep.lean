/- OrderSweep: requests of one time are taken up to the last one above the head, by rising tracks, and then down, by falling ones. No condition. -/
import Derived.Test.YtinpaplpgoljpaaOrderL
import Derived.Test.YtinpaplpgoljpaaArg
import Derived.Test.YtinpaplpgoljpaaRows
import Derived.ProofKit
import Derived.OpenShut
import Derived.ShutString
import Derived.ChangeOld
import Derived.Below
import Derived.SizedLaws
import Derived.Test.YtinpaplpgoljpaaArgs
namespace Go.Proofs.Ytinpaplpgoljpaa
open Go.ChangeShapes Go.WideShapes Go.ChangeAt Go.RowKit
open Go.ChangeMaps (open_string shut_string)
set_option linter.unusedVariables false
set_option linter.unusedSimpArgs false
namespace orderSweep
def itS (U : Nat → Int) (j : Nat) : Wt := ⟨j, 5, U j⟩
def lS (U : Nat → Int) : Nat → List Wt
  | 0 => []
  | i + 1 => insW (itS U i) (lS U i)
theorem lS_mem (U : Nat → Int) : ∀ i, ∀ x ∈ lS U i, ∃ j, j < i ∧ x = itS U j := by
  intro i
  induction i with
  | zero => intro x hx; cases hx
  | succ i ih =>
    intro x hx
    rcases mem_insW.1 hx with rfl | hx
    · exact ⟨i, by omega, rfl⟩
    · obtain ⟨j, hj, e⟩ := ih x hx; exact ⟨j, by omega, e⟩
theorem lS_len (U : Nat → Int) : ∀ i, (lS U i).length = i
  | 0 => rfl
  | i + 1 => by rw [lS, insW_len, lS_len U i]
theorem add_in (U : Nat → Int) (i : Nat) (hi : i < 40) (hU : 0 ≤ U i ∧ U i ≤ 65535) : addF (lS U i) ⟨i, 5, U i⟩ = (0, lS U (i + 1)) := by
  unfold addF
  rw [if_pos (may_mk (a := i) (b := 5) (c := U i) (by omega)), if_neg, if_neg (by rw [lS_len]; omega)]
  · rfl
  · rw [idxB_no (fun j y hy => by
      obtain ⟨k, hk, rfl⟩ := lS_mem U i y (List.mem_of_getElem? hy)
      simp [itS]; omega)]
    omega
/-- How it stands behind some takes. -/
structure Inv (H : Int) (l : List Wt) (h : Int) (d D : Bool) : Prop where
  five : ∀ x ∈ l, x.dead = 5 ∧ 0 ≤ x.track
  up : D = false → d = false ∧ H ≤ h ∧ ∀ x ∈ l, H ≤ x.track → h ≤ x.track
  down : D = true → d = true ∧ ∀ x ∈ l, x.track ≤ h
theorem start (U : Nat → Int) (n : Nat) (hU : ∀ j, j < n → 0 ≤ U j ∧ U j ≤ 65535) (H : Int) : Inv H (lS U n) H false false :=
  ⟨fun x hx => by obtain ⟨j, hj, rfl⟩ := lS_mem U n x hx; exact ⟨rfl, (hU j hj).1⟩, fun _ => ⟨rfl, Int.le_refl _, fun _ _ h => h⟩, fun e => Bool.noConfusion e⟩
theorem sub {l : List Wt} {x y : Wt} (h : y ∈ l.filter (fun y => !(y.id == x.id))) : y ∈ l := (List.mem_filter.1 h).1
theorem step_up {H h : Int} {l : List Wt} {d : Bool} {x : Wt} (i : Inv H l h d false) (n : Nxt l h d x false) : ¬ x.track < h ∧ Inv H (l.filter (fun y => !(y.id == x.id))) x.track false false := by
  obtain ⟨a, b, c⟩ := i.up rfl
  obtain ⟨u1, u2⟩ := n.up rfl
  refine ⟨by omega, fun y hy => i.five y (sub hy), fun _ => ⟨rfl, by omega, fun y hy hh => ?_⟩, fun e => Bool.noConfusion e⟩
  exact (u2 y (sub hy) ((i.five y (sub hy)).1.trans (i.five x n.mem).1.symm) (c y (sub hy) hh)).1
theorem step_turn {H h : Int} {l : List Wt} {d : Bool} {x : Wt} (i : Inv H l h d false) (n : Nxt l h d x true) : x.track < h ∧ x.track < H ∧ Inv H (l.filter (fun y => !(y.id == x.id))) x.track true true := by
  obtain ⟨a, b, c⟩ := i.up rfl
  obtain ⟨u1, u2⟩ := n.down rfl
  have t := n.turnD a rfl
  have hx := t x n.mem rfl
  refine ⟨hx, ?_, fun y hy => i.five y (sub hy), fun e => Bool.noConfusion e, fun _ => ⟨rfl, fun y hy => ?_⟩⟩
  · rcases Int.lt_or_le x.track H with hh | hh
    · exact hh
    · have := c x n.mem hh; omega
  · have e := (i.five y (sub hy)).1.trans (i.five x n.mem).1.symm
    exact (u2 y (sub hy) e (Int.le_of_lt (t y (sub hy) e))).1
theorem step_down {H h : Int} {l : List Wt} {d dn : Bool} {x : Wt} (i : Inv H l h d true) (n : Nxt l h d x dn) : dn = true ∧ ¬ h < x.track ∧ Inv H (l.filter (fun y => !(y.id == x.id))) x.track true true := by
  obtain ⟨a, b⟩ := i.down rfl
  have hx := b x n.mem
  cases dn with
  | false => have := n.turnU a rfl x n.mem rfl; omega
  | true =>
    obtain ⟨u1, u2⟩ := n.down rfl
    refine ⟨rfl, by omega, fun y hy => i.five y (sub hy), fun e => Bool.noConfusion e, fun _ => ⟨rfl, fun y hy => ?_⟩⟩
    exact (u2 y (sub hy) ((i.five y (sub hy)).1.trans (i.five x n.mem).1.symm) (b y (sub hy))).1
theorem first (H : Int) (h0 : 0 ≤ H) (h1 : H ≤ 65535) : addF [] ⟨100, 0, H⟩ = (0, [⟨100, 0, H⟩]) ∧ takeF [⟨100, 0, H⟩] 0 false = ((⟨100, 0, H⟩, 0), ([], H, false)) := by
  have f : Fine [⟨100, 0, H⟩] := List.pairwise_singleton _ _
  constructor
  · unfold addF
    rw [if_pos (may_mk (a := 100) (b := 0) (c := H) (by omega))]
    rfl
  · obtain ⟨x, dn, n⟩ := next_spec f (by simp) (fun x hx => by obtain rfl := List.mem_singleton.1 hx; exact h0) 0 false
    obtain rfl := List.mem_singleton.1 n.mem
    have hd : dn = false := by
      cases dn with
      | false => rfl
      | true => have := n.turnD rfl rfl ⟨100, 0, H⟩ (by simp) rfl; simp only at this; omega
    subst hd
    rw [(take_spec f n).1]
    rfl
def Rel1 (w : World) (n p base : Nat) (U : Nat → Int) (H : Int) (iv : Value) (wr : World) : Prop :=
  ∃ i : Nat, iv = .int .i64 i ∧ i ≤ n ∧ KeptQ wr p base NF (lS U i) H false ∧ base ≤ wr.heap.size ∧ Below w.heap.size w wr
def Rel2 (w : World) (n p base : Nat) (H : Int) (lv dv iv : Value) (wr : World) : Prop :=
  ∃ (i : Nat) (l : List Wt) (h : Int) (d D : Bool), iv = .int .i64 i ∧ lv = .int .i64 h ∧ dv = .bool D ∧ i ≤ n ∧ l.length + i = n ∧ Inv H l h d D ∧ KeptQ wr p base NF l h d ∧ base ≤ wr.heap.size ∧ Below w.heap.size w wr
set_option maxRecDepth 100000 in
set_option maxHeartbeats 2000000 in
theorem walk2 (w : World) (A : Option Addr) (n c : Nat) (U : Nat → Int) (hs : Hid (IntsAt w .u16 A n U)) (hU : Hid (∀ j, j < n → 0 ≤ U j ∧ U j ≤ 65535)) (hn : n ≤ 140737488351232) (H : Int) (t0 : 0 ≤ H) (t1 : H ≤ 65535) :
    Calls Try.prog 4 #[.slice A n c, .int .u16 H] w fun e w' => e = .returned (.bool true) ∧ Below w.heap.size w w' := by
  have IB := fun W (b : Below w.heap.size w W) => Lib.hid (hs.out.below b)
  have FR := Lib.hid (first H t0 t1)
  have CN := fun W => Lib.hid (newq_k W)
  have cv := IntWalk.i64_in H (by omega)
  have aw := 9
  by_cases h40 : 40 < n
  · have d1 : decide ((40 : Int) < n) = true := decide_eq_true (by omega)
    go_enter Try.func4, Try.ntmps4
    go_wp2_with (first
      | (go_at_call 9; (with_reducible refine Calls.mono (awake_any _) ?_); rintro e w0 ⟨rfl, bel0⟩; have HB := Lib.hid bel0; clear bel0))
    go_ret
    exact ⟨rfl, HB.out⟩
  · have d1 : decide ((40 : Int) < n) = false := decide_eq_false (by omega)
    go_enter Try.func4, Try.ntmps4
    go_wp2_with (first
      | (go_at_call 9; (with_reducible refine Calls.mono (awake_any _) ?_); rintro e w0 ⟨rfl, bel0⟩; have HB := Lib.hid bel0; clear bel0)
      | (go_at_call 10; (with_reducible refine Calls.mono (CN _).out ?_); rintro e w1 ⟨p, rfl, k1, b1⟩; have K1 := Lib.hid (show KeptQ w1 p w0.heap.size NF [] 0 false from k1); have S1 := Lib.hid b1.size; have B1 := Lib.hid (Below.next HB.out b1); clear k1 b1)
      | (go_at_call 11; (with_reducible refine Calls.mono (add_at K1.out nf S1.out FR.out.1) ?_); rintro e w2 ⟨rfl, k2, o2⟩; have K2 := Lib.hid k2; have S2 := Lib.hid (Nat.le_trans S1.out o2.size); have B2 := Lib.hid (Below.onlyF B1.out o2 (fun i h => Nat.le_trans HB.out.size h.1)); clear k2 o2)
      | (go_at_call 13; (with_reducible refine Calls.mono (take_at K2.out nf S2.out FR.out.2) ?_); rintro e w3 ⟨rfl, k3, o3⟩; have K3 := Lib.hid k3; have S3 := Lib.hid (Nat.le_trans S2.out o3.size); have B3 := Lib.hid (Below.onlyF B2.out o3 (fun i h => Nat.le_trans HB.out.size h.1)); clear k3 o3))
    go_loopw [6] (fun iv wr => Hid (Rel1 w n p w0.heap.size U H iv wr)) (fun iv _ => (n - intOf iv).toNat)
    case atStart => exact ⟨0, rfl, by omega, K3.out, S3.out, B3.out⟩
    case round =>
      obtain ⟨i, rfl, hi, ki, si, bi⟩ := hrel
      have KI := Lib.hid ki
      have SI := Lib.hid si
      have BI := Lib.hid bi
      clear ki si bi
      by_cases hin : i < n
      · have hin2 : (i : Int) < n := by omega
        obtain ⟨b, off, rfl, hlt, hc⟩ := (IB _ BI.out).out.at_ hin
        have hUi := hU.out i hin
        have ADD := Lib.hid (add_in U i (by omega) hUi)
        obtain ⟨u, hu⟩ : ∃ u, U i = u := ⟨_, rfl⟩
        rw [hu] at hc ADD hUi
        have cu := IntWalk.i64_in u (by omega)
        have g1 : IntKind.i64.wrap ((i : Int) + 1) = i + 1 := IntWalk.i64_in _ (by omega)
        clear hu
        go_wp2_with (first
          | (go_at_call 11; (with_reducible refine Calls.mono (add_at KI.out nf SI.out ADD.out) ?_); rintro e w4 ⟨rfl, k4, o4⟩; have K4 := Lib.hid k4; have S4 := Lib.hid (Nat.le_trans SI.out o4.size); have B4 := Lib.hid (Below.onlyF BI.out o4 (fun i h => Nat.le_trans HB.out.size h.1)); clear k4 o4))
        go_roundw
        case rel => exact ⟨i + 1, by go_num, by omega, K4.out, S4.out, B4.out⟩
        case measure => simp [intOf]; omega
      · obtain rfl : i = n := by omega
        have hin2 : ¬ (i : Int) < i := by omega
        go_wp2_with fail
        go_loopw [7, 8, 9] (fun lv dv iv wr => Hid (Rel2 w i p w0.heap.size H lv dv iv wr)) (fun _ _ iv _ => (i - intOf iv).toNat)
        case atStart => exact ⟨0, lS U i, H, false, false, rfl, rfl, rfl, by omega, by rw [lS_len]; omega, start U i hU.out H, KI.out, SI.out, BI.out⟩
        case round =>
        obtain ⟨j, l, h, d, D, rfl, rfl, rfl, hj, hlen, iv, kj, sj, bj⟩ := hrel
        have KJ := Lib.hid kj
        have SJ := Lib.hid sj
        have BJ := Lib.hid bj
        have f := kj.fine
        clear kj sj bj KI SI BI K1 K2 K3 S1 S2 S3 B1 B2 B3
        by_cases hjn : j < i
        · have hjn2 : (j : Int) < i := by omega
          have g1 : IntKind.i64.wrap ((j : Int) + 1) = j + 1 := IntWalk.i64_in _ (by omega)
          obtain ⟨x, dn, n⟩ := next_spec f (by rintro rfl; simp at hlen; omega) (fun x hx => (iv.five x hx).2) h d
          obtain ⟨tk, tl⟩ := take_spec f n
          have TL : Hid ((l.filter (fun y => !(y.id == x.id))).length + 1 = l.length) := tl
          cases D with
          | true =>
            obtain ⟨rfl, hx, iv2⟩ := step_down iv n
            have IV := Lib.hid iv2
            have d1 : decide (h < x.track) = false := decide_eq_false hx
            obtain ⟨a, b, c⟩ := x
            simp only at d1 tk
            have TK := Lib.hid tk
            clear tk tl iv2 iv n f hx
            go_wp2_with (first
              | (go_at_call 13; (with_reducible refine Calls.mono (take_at KJ.out nf SJ.out TK.out) ?_); rintro e w5 ⟨rfl, k5, o5⟩; have K5 := Lib.hid (k5.below ((Below.refl _ _).alloc (Nat.le_refl _) (.cells #[.int .i64 a, .int .u64 b, .int .i64 c] 30))); have B5 := Lib.hid (Below.onlyF BJ.out o5 (fun i h => Nat.le_trans HB.out.size h.1)); have B6 := Lib.hid (B5.out.alloc B5.out.size (.cells #[.int .i64 a, .int .u64 b, .int .i64 c] 30)); have S6 := Lib.hid (show w0.heap.size ≤ (w5.alloc (.cells #[.int .i64 a, .int .u64 b, .int .i64 c] 30)).heap.size from (by have := SJ.out; have := o5.size; simp at *; omega)); clear k5 o5))
            go_roundw
            case rel => exact ⟨j + 1, _, _, _, true, by go_num, rfl, rfl, by omega, by have := TL.out; omega, IV.out, K5.out, S6.out, B6.out⟩
            case measure => simp [intOf]; omega
          | false =>
            cases dn with
            | false =>
              obtain ⟨hx, iv2⟩ := step_up iv n
              have IV := Lib.hid iv2
              have d1 : decide (x.track < h) = false := decide_eq_false hx
              obtain ⟨a, b, c⟩ := x
              simp only at d1 tk
              have TK := Lib.hid tk
              clear tk tl iv2 iv n f hx
              go_wp2_with (first
                | (go_at_call 13; (with_reducible refine Calls.mono (take_at KJ.out nf SJ.out TK.out) ?_); rintro e w5 ⟨rfl, k5, o5⟩; have K5 := Lib.hid (k5.below ((Below.refl _ _).alloc (Nat.le_refl _) (.cells #[.int .i64 a, .int .u64 b, .int .i64 c] 30))); have B5 := Lib.hid (Below.onlyF BJ.out o5 (fun i h => Nat.le_trans HB.out.size h.1)); have B6 := Lib.hid (B5.out.alloc B5.out.size (.cells #[.int .i64 a, .int .u64 b, .int .i64 c] 30)); have S6 := Lib.hid (show w0.heap.size ≤ (w5.alloc (.cells #[.int .i64 a, .int .u64 b, .int .i64 c] 30)).heap.size from (by have := SJ.out; have := o5.size; simp at *; omega)); clear k5 o5))
              go_roundw
              case rel => exact ⟨j + 1, _, _, _, false, by go_num, rfl, rfl, by omega, by have := TL.out; omega, IV.out, K5.out, S6.out, B6.out⟩
              case measure => simp [intOf]; omega
            | true =>
              obtain ⟨hx, hx2, iv2⟩ := step_turn iv n
              have IV := Lib.hid iv2
              have d1 : decide (x.track < h) = true := decide_eq_true hx
              have d2 : decide (H ≤ x.track) = false := decide_eq_false (by omega)
              obtain ⟨a, b, c⟩ := x
              simp only at d1 d2 tk
              have TK := Lib.hid tk
              clear tk tl iv2 iv n f hx hx2
              go_wp2_with (first
                | (go_at_call 13; (with_reducible refine Calls.mono (take_at KJ.out nf SJ.out TK.out) ?_); rintro e w5 ⟨rfl, k5, o5⟩; have K5 := Lib.hid (k5.below ((Below.refl _ _).alloc (Nat.le_refl _) (.cells #[.int .i64 a, .int .u64 b, .int .i64 c] 30))); have B5 := Lib.hid (Below.onlyF BJ.out o5 (fun i h => Nat.le_trans HB.out.size h.1)); have B6 := Lib.hid (B5.out.alloc B5.out.size (.cells #[.int .i64 a, .int .u64 b, .int .i64 c] 30)); have S6 := Lib.hid (show w0.heap.size ≤ (w5.alloc (.cells #[.int .i64 a, .int .u64 b, .int .i64 c] 30)).heap.size from (by have := SJ.out; have := o5.size; simp at *; omega)); clear k5 o5))
              go_roundw
              case rel => exact ⟨j + 1, _, _, _, true, by go_num, rfl, rfl, by omega, by have := TL.out; omega, IV.out, K5.out, S6.out, B6.out⟩
              case measure => simp [intOf]; omega
        · obtain rfl : j = i := by omega
          have hjn2 : ¬ (j : Int) < j := by omega
          clear iv f
          go_wp2_with fail
          go_ret
          exact ⟨rfl, BJ.out⟩
theorem walk (w : World) (A0 : Option Addr) (n0 cap0 : Nat) (D0 : Nat → List Value) (w0 : Elems w [some .u16] A0 n0 D0) (l0 : n0 * 2 ≤ 140737488351232) (t : Int) (wt : (Lit.int .u16 t).wf = true) :
    Calls Try.prog 4 #[.slice A0 n0 cap0, .int .u16 t] w fun e w' => e = .returned (.bool true) ∧ Below w.heap.size w w' := by
  obtain ⟨U, hU, hw⟩ := ints_of w0
  have := bounds_u16 wt
  exact walk2 w A0 n0 cap0 U (Lib.hid hU) (Lib.hid fun j hj => bounds_u16 (hw j hj)) (by omega) t this.1 this.2
end orderSweep
namespace orderSweep
theorem own : ownKnob Try.prog.godebug = none := by kernel_rfl
set_option maxRecDepth 100000 in
theorem lifted (os : Os) (started : os.Started) (H : Type) (enc : TypeId × Value → H) :
    ReturnsInHanded {} Try.checked os 4 .any (Rows.orderSweepSpec.pre6 enc Try.prog Try.f4 Rows.orderSweepRow.domain false) (Rows.orderSweepSpec.post enc Try.prog Try.f4 false true false false) := by
  refine returnsInHanded_of_change_sized (C := Try.checked) own started (by kernel_rfl) Try.func4
    (ChangeSpec.witness6 (enc := enc) (C := Try.checked) false ⟨#[], #[.slice none 0 0, .int .u16 0], []⟩ 8 (by kernel_rfl) (by kernel_rfl) (by kernel_rfl) (by kernel_rfl)) ?_
  intro W base args ds gs before hval0 hW hcnd hsz0 _
  have hsz : (DataW.weightsEach Try.prog (Try.f4.params.toList ++ Rows.orderSweepSpec.plain.varTypes Try.prog) (ds ++ gs)).all (· ≤ reachBytes) = true := hsz0
  have hval : ∀ (j : Nat) t v, Try.f4.params[j]? = some t → args[j]? = some v → Value.okWide Try.prog W .any base t v := hval0
  have hW' := hW
  obtain ⟨p, q, hA0, hV, rfl, hfz, hnd⟩ := hW
  have hA : DataW.TrodAll enc Try.prog W 0 (fun _ => true) true Try.f4.params.toList args.toList ds p := hA0
  rw [Try.params4] at hA hval hsz
  obtain ⟨v0, vs0, d0, ds0, p0, q0, hargs, rfl, rfl, h0, r0⟩ := trodAll_cons hA
  obtain ⟨v1, vs1, d1, ds1, p1, q1, rfl, rfl, rfl, h1, r1⟩ := trodAll_cons r0
  obtain ⟨rfl, rfl, rfl⟩ := trodAll_nil r1
  obtain rfl : args = #[v0, v1] := by cases args; simp_all
  obtain ⟨rfl, rfl⟩ := trodVars_none hV
  obtain ⟨A0, n0, cap0, D0, rfl, w0, m0, z0⟩ := arg_slice [some .u16] Try.underlying35 6 (by kernel_rfl) (by kernel_rfl) (hval 0 35 v0 rfl rfl) h0
  have l0 : n0 * Try.prog.bytesOf 36 ≤ reachBytes := by
    rcases z0 with ⟨_, e⟩ | ⟨es, sp, e, el⟩
    · subst e; simp
    · subst e; subst el; exact Nat.le_trans (Nat.mul_le_mul_right _ (Nat.le_add_right _ _)) (sized_slice hsz (j := 0) (t := 35) (e := 36) rfl rfl Try.underlying35)
  have b0 : Try.prog.bytesOf 36 = 2 := by kernel_rfl
  rw [b0] at l0
  simp only [reachBytes] at l0
  clear z0 b0
  obtain ⟨a1, rfl, w1⟩ := arg_one Try.underlying36 (hval 1 36 v1 rfl rfl) h1
  clear hA0 hval0 hsz0 hsz
  refine (walk W A0 n0 cap0 D0 w0 l0 a1 w1).mono fun e W' ⟨he, bel⟩ => ?_
  subst he
  exact ⟨_, rfl, _, _, _, [], _, [], hW', trodAll_mk1 (shut_bool Try.underlying4 _), (trodAll_cons_mk (Below.trod laidOut (by kernel_rfl) (of_decide_eq_true (by kernel_rfl)) h0 bel (fun x hx => by simpa using hW'.lt x (by simp [hx]))) (trodAll_cons_mk (Below.trod laidOut (by kernel_rfl) (of_decide_eq_true (by kernel_rfl)) h1 bel (fun x hx => by simpa using hW'.lt x (by simp [hx]))) trodAll_mk0)), rfl, bel.frame _, fun h => by cases h⟩
theorem over : Rows.orderSweepRow.holds Try.pinned (OpenSpec.ofChange Rows.orderSweepSpec) :=
  OpenClaim.holds_of_wide 4 Try.f4 rfl rfl rfl rfl rfl rfl rfl ⟨rfl, rfl, rfl, rfl, rfl⟩ rfl rfl rfl rfl rfl (by kernel_rfl) Try.func4 (by kernel_rfl)
    (of_decide_eq_true (by kernel_rfl)) (by unfold Func.isWrapper; first | (rw [if_pos (by decide +kernel)]; kernel_rfl) | (rw [if_neg (by decide +kernel)]; exact ⟨rfl, rfl⟩))
    (fun os started H enc _ => lifted os started H enc)
end orderSweep
theorem orderSweep_holds : Rows.OrderSweepSaid := orderSweep.over
#print axioms orderSweep_holds
end Go.Proofs.Ytinpaplpgoljpaa
