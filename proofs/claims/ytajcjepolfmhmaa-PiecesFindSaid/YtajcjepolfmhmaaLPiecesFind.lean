/- The row of PiecesFind. -/
import Derived.Test.YtajcjepolfmhmaaPcArg
import Derived.Test.YtajcjepolfmhmaaArg
import Derived.Test.YtajcjepolfmhmaaRows
import Derived.ProofKit
import Derived.OpenShut
import Derived.ShutString
import Derived.ChangeOld
import Derived.Below
import Derived.SizedLaws
namespace Go.Proofs.Ytajcjepolfmhmaa
open Go.ChangeShapes Go.WideShapes Go.ChangeAt Go.RowKit
open Go.ChangeMaps (open_string shut_string)
set_option linter.unusedVariables false
set_option linter.unusedSimpArgs false
namespace piecesFind
theorem PsAt.at_ {w : World} {b off : Nat} {l : List Pc} (h : PsAt w (some ⟨b, off, none⟩) l) {i : Nat} {x : Pc} (hx : l[i]? = some x) : b < w.heap.size ∧ w.cell? ⟨b, off + i * 4, none⟩ = some (.int .i64 x.s) ∧ w.cell? ⟨b, off + i * 4 + 1, none⟩ = some (.int .u64 x.g) ∧ w.cell? ⟨b, off + i * 4 + 2, none⟩ = some (.int .i64 x.f) ∧ w.cell? ⟨b, off + i * 4 + 3, none⟩ = some (.int .i64 x.n) := by
  obtain ⟨b', off', e, h1⟩ := h i x hx
  cases e
  exact h1
/-- A piece that is gone through. -/
def smallP (x : Pc) : Prop := 0 ≤ x.n ∧ x.n ≤ 60 ∧ 0 ≤ x.f ∧ x.f ≤ 1048576
theorem lenP_small {x : Pc} (h : smallP x) : lenP x = x.n := by
  obtain ⟨h0, h1, -, -⟩ := h
  unfold lenP
  rw [if_neg (show ¬ x.n < 0 by omega), if_neg (show ¬ 1099511627776 < x.n by omega)]
theorem atP_succ {ps : List Pc} {i : Nat} {x : Pc} (hx : ps[i]? = some x) : atP ps (i + 1) = atP ps i + lenP x := by simp only [atP, hx]
theorem no_hit {ps : List Pc} {at_ : Int} {i : Nat} (h : atP ps i ≤ at_) : ∀ j, j < i → ¬ hit ps at_ j := by
  rintro j hj ⟨h1, x, hx, h2⟩
  have h3 := atP_mono ps (show j + 1 ≤ i by omega)
  rw [atP_succ hx] at h3
  omega
theorem find_at {ps : List Pc} {len i k : Nat} {x : Pc} (hl : ps.length = len) (h16 : len ≤ 16) (hi : i < len) (hx : ps[i]? = some x) (hs : smallP x) (hk : (k : Int) < x.n) {e : Ending} (h : FindPost ps len (atP ps i + k) e) :
    e = .returned (.tuple #[.int .i64 i, .int .i64 (x.f + k), .int .i64 0]) := by
  have hh : hit ps (atP ps i + k) i := ⟨by omega, x, hx, by rw [lenP_small hs]; omega⟩
  rcases h with ⟨j, y, hj, hy, hhj, hno, rfl⟩ | ⟨hno, -⟩
  · have hji : j = i := by
      rcases Nat.lt_trichotomy j i with h | h | h
      · exact absurd hhj (no_hit (show atP ps i ≤ atP ps i + k by omega) j h)
      · exact h
      · exact absurd hh (hno i h)
    subst hji
    rw [hx] at hy
    injection hy with hy
    subst hy
    have ha := atP_le ps j
    have h2 : atP ps j ≤ 16 * 1099511627776 := by
      have : (j : Int) * 1099511627776 ≤ 16 * 1099511627776 := Int.mul_le_mul_of_nonneg_right (by omega) (by omega)
      omega
    obtain ⟨s0, s1, s2, s3⟩ := hs
    have ef : fIdx x (atP ps j + k) (atP ps j) = x.f + k := by
      unfold fIdx
      rw [IntWalk.i64_in _ (show -9223372036854775808 ≤ x.f + (atP ps j + k) ∧ x.f + (atP ps j + k) ≤ 9223372036854775807 by omega)]
      rw [IntWalk.i64_in _ (by omega)]
      omega
    rw [ef]
  · exact absurd hh (hno i hi)
theorem find_none {ps : List Pc} {len : Nat} {at_ : Int} (h0 : at_ = -1 ∨ at_ = atP ps len) {e : Ending} (h : FindPost ps len at_ e) : e = .returned (.tuple #[.int .i64 0, .int .i64 0, .int .i64 6]) := by
  rcases h with ⟨j, y, hj, hy, hhj, hno, rfl⟩ | ⟨-, h⟩
  · rcases h0 with rfl | rfl
    · have := hhj.1
      have := (atP_le ps j).1
      omega
    · exact absurd hhj (no_hit (Int.le_refl _) j hj)
  · exact h
theorem at_small {ps : List Pc} {len : Nat} (h16 : len ≤ 16) : 0 ≤ atP ps len ∧ atP ps len ≤ 17592186044416 := by
  have ha := atP_le ps len
  have : (len : Int) * 1099511627776 ≤ 16 * 1099511627776 := Int.mul_le_mul_of_nonneg_right (by omega) (by omega)
  omega
def Rel1 (w : World) (ps : List Pc) (n : Nat) (nv iv : Value) (wr : World) : Prop := ∃ i : Nat, iv = .int .i64 i ∧ nv = .int .i64 (atP ps i) ∧ i ≤ n ∧ Below w.heap.size w wr
def Rel2 (w : World) (ps : List Pc) (i : Nat) (x : Pc) (nv kv : Value) (wr : World) : Prop := ∃ k : Nat, kv = .int .i64 k ∧ nv = .int .i64 (atP ps i + k) ∧ (k : Int) ≤ x.n ∧ Below w.heap.size w wr
def Post (w : World) (e : Ending) (w' : World) : Prop := e = .returned (.bool true) ∧ Below w.heap.size w w'
def cS (_ : Nat) : Int := 1
theorem cS_bytes : ∀ b ∈ bufsOf cS cS 1, b.bytes.length ≤ 65536 := by decide
theorem cS_may : mayC 1 cS cS := by
  refine ⟨by omega, by omega, fun i hi => ?_⟩
  obtain rfl : i = 0 := by omega
  decide
set_option maxRecDepth 100000 in
set_option maxHeartbeats 4000000 in
theorem walk2 (w : World) (A : Option Addr) (n cap : Nat) (ps : List Pc) (hl : ps.length = n) (hc : PsAt w A ps) (ok : CapOk w A n cap) (hn9 : n ≤ 140737488351232) :
    Calls Try.prog 4 #[.slice A n cap] w (Post w) := by
  have HC := Lib.hid hc
  have HL := Lib.hid hl
  have OK := Lib.hid ok
  clear hc ok
  by_cases h16 : n ≤ 16
  · have d1 : decide (16 < (n : Int)) = false := decide_eq_false (by omega)
    have FD := fun W (b : Below w.heap.size w W) at_ h1 h2 => Lib.hid (find_any W A n cap ps HL.out h16 (HC.out.below b) (fun a e => Nat.lt_of_lt_of_le (OK.out.2 a e).2 b.size) at_ h1 h2)
    have LN := fun W (b : Below w.heap.size w W) => Lib.hid (len_any W A n cap ps HL.out h16 (HC.out.below b) (fun a e => Nat.lt_of_lt_of_le (OK.out.2 a e).2 b.size))
    clear hl
    go_enter Try.func4, Try.ntmps4
    go_wp2_with (go_at_call 7; (with_reducible refine Calls.mono (awake_any _) ?_); rintro e w0 ⟨rfl, b0⟩; have B0 := Lib.hid b0; clear b0)
    go_loopw [3, 4] (fun nv iv wr => Hid (Rel1 w ps n nv iv wr)) (fun _ iv _ => n - (intOf iv).toNat)
    case atStart => exact ⟨0, rfl, rfl, by omega, B0.out⟩
    case round =>
      obtain ⟨i, rfl, rfl, hi, hb⟩ := hrel
      have HB := Lib.hid hb
      clear hb B0
      by_cases hin : i < n
      · have hin2 : (i : Int) < n := by omega
        have g1 : IntKind.i64.wrap ((i : Int) + 1) = i + 1 := IntWalk.i64_in _ (by omega)
        obtain ⟨x, hx⟩ : ∃ x, ps[i]? = some x := ⟨_, List.getElem?_eq_getElem (by have := HL.out; omega)⟩
        obtain ⟨b, off, rfl, hlt, -, -, c2, c3⟩ := HC.out i x hx
        have c2 := (HB.out.cell (p := ⟨b, off + i * 4 + 2, none⟩) hlt).trans c2
        have c3 := (HB.out.cell (p := ⟨b, off + i * 4 + 3, none⟩) hlt).trans c3
        have hli := Nat.lt_of_lt_of_le hlt HB.out.size
        have HX := Lib.hid hx
        clear hx
        by_cases z1 : 60 < x.n
        · have e1 : decide (60 < x.n) = true := decide_eq_true z1
          go_wp2_with fail
          go_ret
          exact ⟨rfl, HB.out⟩
        have e1 : decide (60 < x.n) = false := decide_eq_false z1
        by_cases z2 : x.n < 0
        · have e2 : decide (x.n < 0) = true := decide_eq_true z2
          clear z1
          go_wp2_with fail
          go_ret
          exact ⟨rfl, HB.out⟩
        have e2 : decide (x.n < 0) = false := decide_eq_false z2
        by_cases z3 : x.f < 0
        · have e3 : decide (x.f < 0) = true := decide_eq_true z3
          clear z1 z2
          go_wp2_with fail
          go_ret
          exact ⟨rfl, HB.out⟩
        have e3 : decide (x.f < 0) = false := decide_eq_false z3
        by_cases z4 : 1048576 < x.f
        · have e4 : decide (1048576 < x.f) = true := decide_eq_true z4
          clear z1 z2 z3
          go_wp2_with fail
          go_ret
          exact ⟨rfl, HB.out⟩
        have e4 : decide (1048576 < x.f) = false := decide_eq_false z4
        have SM : Hid (smallP x) := ⟨by omega, by omega, by omega, by omega⟩
        have hxn : x.n = lenP x := (lenP_small SM.out).symm
        have LX := Lib.hid hxn
        obtain ⟨ai, hai⟩ : ∃ ai, atP ps i = ai := ⟨_, rfl⟩
        have AI := Lib.hid hai
        have as1 := at_small (ps := ps) (len := i) (by omega)
        have AS := Lib.hid as1
        rw [hai]
        clear hxn hai as1
        go_wp2_with fail
        go_loopw [3, 5] (fun nv kv wr => Hid (Rel2 w ps i x nv kv wr)) (fun _ kv _ => (x.n - intOf kv).toNat)
        case atStart => exact ⟨0, rfl, by rw [AI.out]; simp, by omega, HB.out⟩
        case round =>
          obtain ⟨k, rfl, rfl, hk, hb⟩ := hrel
          have HK := Lib.hid hb
          clear hb
          obtain ⟨-, -, -, c2, c3⟩ := PsAt.at_ HC.out HX.out
          have c2 := (HK.out.cell (p := ⟨b, off + i * 4 + 2, none⟩) hlt).trans c2
          have c3 := (HK.out.cell (p := ⟨b, off + i * 4 + 3, none⟩) hlt).trans c3
          have hlk := Nat.lt_of_lt_of_le hlt HK.out.size
          by_cases hkn : (k : Int) < x.n
          · have g2 : IntKind.i64.wrap ((k : Int) + 1) = k + 1 := IntWalk.i64_in _ (by omega)
            have as1 := AS.out
            have FN := FD _ HK.out (atP ps i + k) (by omega) (by omega)
            have FA := fun e h => find_at HL.out h16 hin HX.out SM.out hkn (e := e) h
            have HFA := Lib.hid FA
            have g3 : IntKind.i64.wrap (atP ps i + k + 1) = atP ps i + k + 1 := IntWalk.i64_in _ (by omega)
            have g4 : IntKind.i64.wrap (x.f + k) = x.f + k := IntWalk.i64_in _ (by omega)
            clear FA FD LN as1
            generalize hq : atP ps i + (k : Int) = q at *
            have HQ := Lib.hid hq
            clear hq
            go_wp2_with (go_at_call 14; (with_reducible refine Calls.mono FN.out ?_); rintro e w3 ⟨hf, b3⟩; obtain rfl := HFA.out _ hf; have B3 := Lib.hid (Below.next HK.out b3); have d2 := (b3.cell (p := ⟨b, off + i * 4 + 2, none⟩) hlk).trans c2; have hl3 := Nat.lt_of_lt_of_le hlk b3.size; clear b3 hf)
            go_roundw
            case rel => exact ⟨k + 1, by go_num, by rw [← HQ.out]; go_num, by omega, B3.out⟩
            case measure => simp [intOf]; omega
          · have hke : (k : Int) = x.n := by omega
            have HKE := Lib.hid hke
            clear FD LN
            clear hke
            go_wp2_with fail
            go_roundw
            case rel => exact ⟨i + 1, by go_num, by rw [atP_succ HX.out, ← LX.out, ← HKE.out], by omega, HK.out⟩
            case measure => simp [intOf]; omega
      · obtain rfl : i = n := by omega
        have hin2 : ¬ (i : Int) < i := by omega
        have as1 := at_small (ps := ps) (len := i) h16
        have F1 := fun W b => FD W b (atP ps i) (by omega) (by omega)
        have F2 := fun W b => FD W b (-1) (by decide) (by decide)
        have FA := fun e h => find_none (ps := ps) (len := i) (at_ := atP ps i) (.inr rfl) (e := e) h
        have FB := fun e h => find_none (ps := ps) (len := i) (at_ := -1) (.inl rfl) (e := e) h
        generalize atP ps i = q at *
        have HFA := Lib.hid FA
        have HFB := Lib.hid FB
        clear FA FB FD as1
        go_wp2_with fail
        go_at_call 14
        (with_reducible refine Calls.mono (F1 _ HB.out).out ?_)
        rintro e w3 ⟨hf, b3⟩
        obtain rfl := HFA.out _ hf
        have B3 := Lib.hid (Below.next HB.out b3)
        clear b3 hf HB
        go_wp2_with fail
        go_at_call 14
        (with_reducible refine Calls.mono (F2 _ B3.out).out ?_)
        rintro e w4 ⟨hf, b4⟩
        obtain rfl := HFB.out _ hf
        have B4 := Lib.hid (Below.next B3.out b4)
        clear b4 hf B3
        have CL : Hid (Cls (w4.alloc (.cells #[.int .i64 1, .int .i64 1] 48)) (some ⟨w4.heap.size, 0, none⟩) 1 cS cS) := fun j hj => by
          obtain rfl : j = 0 := by omega
          have K := Blk.new w4 48 [.int .i64 1, .int .i64 1]
          exact ⟨_, 0, rfl, K.lt, K.cell 0, K.cell 1⟩
        have NW := Lib.hid (newc_any (w4.alloc (.cells #[.int .i64 1, .int .i64 1] 48)) (some ⟨w4.heap.size, 0, none⟩) 1 1 cS cS CL (fun j hj => by simp [cS]) (by omega) cS_may)
        have B5 := Lib.hid (B4.out.alloc B4.out.size (.cells #[.int .i64 1, .int .i64 1] 48))
        clear CL
        go_wp2_with fail
        go_at_call 15
        (with_reducible refine Calls.mono NW.out ?_)
        rintro e w6 ⟨p, rfl, P, rfl, kP, -, b6⟩
        have KP := Lib.hid kP
        have B6 := Lib.hid (Below.next B5.out b6)
        clear b6 kP B4 B5 NW
        go_wp2_with fail
        go_at_call 12
        (with_reducible refine Calls.mono (LN _ B6.out).out ?_)
        rintro e w7 ⟨rfl, b7⟩
        have B7 := Lib.hid (Below.next B6.out b7)
        have MY := Lib.hid (mayl_any (KP.out.below b7) cS_bytes none 0 0 [] (fun j x hx => by simp at hx) rfl (by omega) (by omega) (fun _ => .inl rfl))
        clear b7 B6
        go_wp2_with fail
        go_at_call 9
        (with_reducible refine Calls.mono MY.out ?_)
        rintro e w8 ⟨rb, rfl, hr, b8⟩
        have B8 := Lib.hid (Below.next B7.out b8)
        obtain rfl : rb = false := by
          cases rb with
          | false => rfl
          | true => have := (hr.1 rfl).2.1; simp at this
        clear b8 hr
        go_wp2_with fail
        go_ret
        exact ⟨rfl, B8.out⟩
  · have d1 : decide (16 < (n : Int)) = true := decide_eq_true (by omega)
    go_enter Try.func4, Try.ntmps4
    go_wp2_with (go_at_call 7; (with_reducible refine Calls.mono (awake_any _) ?_); rintro e w0 ⟨rfl, b0⟩; have B0 := Lib.hid b0; clear b0)
    go_ret
    exact ⟨rfl, B0.out⟩
theorem walk (w : World) (A0 : Option Addr) (n0 cap0 : Nat) (D0 : Nat → List Value) (w0 : Elems w [some .i64, some .u64, some .i64, some .i64] A0 n0 D0) (l0 : n0 * 32 ≤ 140737488351232) (ok : CapOk w A0 n0 cap0) :
    Calls Try.prog 4 #[.slice A0 n0 cap0] w fun e w' => e = .returned (.bool true) ∧ Below w.heap.size w w' := by
  obtain ⟨ps, hl, hc, -⟩ := ps_of w0
  exact walk2 w A0 n0 cap0 ps hl hc ok (by omega)
end piecesFind
namespace piecesFind
theorem own : ownKnob Try.prog.godebug = none := by kernel_rfl
set_option maxRecDepth 100000 in
theorem lifted (os : Os) (started : os.Started) (H : Type) (enc : TypeId × Value → H) :
    ReturnsInHanded {} Try.checked os 4 .any (Rows.piecesFindSpec.pre6 enc Try.prog Try.f4 Rows.piecesFindRow.domain false) (Rows.piecesFindSpec.post enc Try.prog Try.f4 false true false false) := by
  refine returnsInHanded_of_change_sized (C := Try.checked) own started (by kernel_rfl) Try.func4
    (ChangeSpec.witness6 (enc := enc) (C := Try.checked) false ⟨#[], #[.slice none 0 0], []⟩ 8 (by kernel_rfl) (by kernel_rfl) (by kernel_rfl) (by kernel_rfl)) ?_
  intro W base args ds gs before hval0 hW hcnd hsz0 _
  have hsz : (DataW.weightsEach Try.prog (Try.f4.params.toList ++ Rows.piecesFindSpec.plain.varTypes Try.prog) (ds ++ gs)).all (· ≤ reachBytes) = true := hsz0
  have hval : ∀ (j : Nat) t v, Try.f4.params[j]? = some t → args[j]? = some v → Value.okWide Try.prog W .any base t v := hval0
  have hW' := hW
  obtain ⟨p, q, hA0, hV, rfl, hfz, hnd⟩ := hW
  have hA : DataW.TrodAll enc Try.prog W 0 (fun _ => true) true Try.f4.params.toList args.toList ds p := hA0
  rw [Try.params4] at hA hval hsz
  obtain ⟨v0, vs0, d0, ds0, p0, q0, hargs, rfl, rfl, h0, r0⟩ := trodAll_cons hA
  obtain ⟨rfl, rfl, rfl⟩ := trodAll_nil r0
  obtain rfl : args = #[v0] := by cases args; simp_all
  obtain ⟨rfl, rfl⟩ := trodVars_none hV
  have y0 := arg_cap Try.underlying22 (hval 0 22 v0 rfl rfl)
  obtain ⟨A0, n0, cap0, D0, rfl, w0, m0, z0⟩ := arg_slice [some .i64, some .u64, some .i64, some .i64] Try.underlying22 6 (by kernel_rfl) (by kernel_rfl) (hval 0 22 v0 rfl rfl) h0
  have l0 : n0 * Try.prog.bytesOf 42 ≤ reachBytes := by
    rcases z0 with ⟨_, e⟩ | ⟨es, sp, e, el⟩
    · subst e; simp
    · subst e; subst el; exact Nat.le_trans (Nat.mul_le_mul_right _ (Nat.le_add_right _ _)) (sized_slice hsz (j := 0) (t := 22) (e := 42) rfl rfl Try.underlying22)
  have b0 : Try.prog.bytesOf 42 = 32 := by kernel_rfl
  rw [b0] at l0
  simp only [reachBytes] at l0
  clear z0 b0
  clear hA0 hval0 hsz0 hsz
  refine (walk W A0 n0 cap0 D0 w0 l0 (y0 _ _ _ rfl)).mono fun e W' ⟨he, bel⟩ => ?_
  subst he
  exact ⟨_, rfl, _, _, _, [], _, [], hW', trodAll_mk1 (shut_bool Try.underlying4 _), (trodAll_cons_mk (Below.trod laidOut (by kernel_rfl) (of_decide_eq_true (by kernel_rfl)) h0 bel (fun x hx => by simpa using hW'.lt x (by simp [hx]))) trodAll_mk0), rfl, bel.frame _, fun h => by cases h⟩
theorem over : Rows.piecesFindRow.holds Try.pinned (OpenSpec.ofChange Rows.piecesFindSpec) :=
  OpenClaim.holds_of_wide 4 Try.f4 rfl rfl rfl rfl rfl rfl rfl ⟨rfl, rfl, rfl, rfl, rfl⟩ rfl rfl rfl rfl rfl (by kernel_rfl) Try.func4 (by kernel_rfl)
    (of_decide_eq_true (by kernel_rfl)) (by unfold Func.isWrapper; first | (rw [if_pos (by decide +kernel)]; kernel_rfl) | (rw [if_neg (by decide +kernel)]; exact ⟨rfl, rfl⟩))
    (fun os started H enc _ => lifted os started H enc)
end piecesFind
theorem piecesFind_holds : Rows.PiecesFindSaid := piecesFind.over
#print axioms piecesFind_holds
end Go.Proofs.Ytajcjepolfmhmaa
