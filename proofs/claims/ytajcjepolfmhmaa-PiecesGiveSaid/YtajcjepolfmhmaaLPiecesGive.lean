/- The row of PiecesGive. -/
import Derived.Test.YtajcjepolfmhmaaPcArg
import Derived.Test.YtajcjepolfmhmaaPcLawB
import Derived.Test.YtajcjepolfmhmaaArg
import Derived.Test.YtajcjepolfmhmaaRows
import Derived.ProofKit
import Derived.OpenShut
import Derived.ShutString
import Derived.ChangeOld
import Derived.Below
import Derived.SizedLaws
namespace Go.Proofs.Ytajcjepolfmhmaa
open Go.ChangeShapes Go.WideShapes Go.ChangeAt Go.RowKit
open Go.ChangeMaps (open_string shut_string)
set_option linter.unusedVariables false
set_option linter.unusedSimpArgs false
namespace piecesGive
def Post (w : World) (e : Ending) (w' : World) : Prop := e = .returned (.bool true) ∧ Below w.heap.size w w'
theorem bs6_own : ∀ b ∈ bs6, b.own = 0 ∨ b.own = 1 := by decide
def rightP (a b : Int) : Prop := a = 1 ∧ 2 ≤ b ∧ b ≤ 3
def ownedBy (bs : List Bf) (ps : List Pc) (o : Int) : Prop := ∀ x ∈ ps, (ownerQ x.s x.g bs).1 = o ∧ (ownerQ x.s x.g bs).2.2 = 0
theorem owned_of {bs : List Bf} {ps : List Pc} {o : Int} (h : mayL bs ps) (ha : allB bs ps o = true) : ownedBy bs ps o := fun x hx => ⟨all_own h ha x hx, by
  obtain ⟨j, hj⟩ := List.mem_iff_getElem?.1 hx
  obtain ⟨i, b, e⟩ := hasH_of (mayL_at h hj)
  rw [ownerQ_of e]⟩
theorem mem_one {bs : List Bf} {ps : List Pc} (h : mayL bs ps) : ∃ x, x ∈ ps := by
  obtain ⟨x, hx⟩ : ∃ x, ps[0]? = some x := ⟨_, List.getElem?_eq_getElem h.2.1⟩
  exact ⟨x, List.mem_of_getElem? hx⟩
theorem give_first {ps : List Pc} {a b : Int} {rr : Int × List Bf} (h : giveR bs6 ps a b rr) :
    Alike bs6 rr.2 ∧ (¬ mayL bs6 ps → rr.1 = 1) ∧ (mayL bs6 ps → rightP a b → rr.1 = 0 ∧ ownedBy rr.2 ps b) ∧ (mayL bs6 ps → ¬ rightP a b → rr.1 ≠ 0 ∧ ownedBy rr.2 ps 1) := by
  rcases h with ⟨h, rfl⟩ | ⟨h, ha, rfl⟩ | ⟨h, ha, rfl⟩
  · refine ⟨Alike.refl _, fun _ => rfl, fun hm hr => ?_, fun hm hr => ⟨by decide, owned_of hm (all_by bs6_own hm)⟩⟩
    obtain ⟨rfl, h1, h2⟩ := hr
    rcases h with h | h | h | h
    · exact absurd hm h
    · exact absurd h (by decide)
    · rw [mayOwn_iff.2 ⟨by omega, h2⟩] at h; cases h
    · omega
  · refine ⟨Alike.refl _, fun hm => absurd (.inl hm) h, fun hm hr => ?_, fun hm hr => ⟨by decide, owned_of hm (all_by bs6_own hm)⟩⟩
    obtain ⟨rfl, h1, h2⟩ := hr
    rw [all_by bs6_own hm] at ha
    cases ha
  · have hm : mayL bs6 ps := Classical.byContradiction fun e => h (.inl e)
    have hf : mayOwn a = true := by cases e : mayOwn a with | true => rfl | false => exact absurd (.inr (.inl e)) h
    have ht : mayOwn b = true := by cases e : mayOwn b with | true => rfl | false => exact absurd (.inr (.inr (.inl e))) h
    have hft : a ≠ b := fun e => h (.inr (.inr (.inr e)))
    obtain ⟨g1, g2⟩ := give_all hf ht hft hm ha
    refine ⟨g1, fun h => absurd hm h, fun _ _ => ⟨rfl, g2⟩, fun _ hr => ?_⟩
    obtain ⟨x, hx⟩ := mem_one hm
    have h1 := all_own hm ha x hx
    have h2 := all_own hm (all_by bs6_own hm) x hx
    have h3 := mayOwn_iff.1 ht
    exact absurd ⟨by omega, by omega, by omega⟩ hr
theorem give_second {bs : List Bf} {ps : List Pc} {b : Int} {rr : Int × List Bf} (hm : mayL bs ps) (ho : ownedBy bs ps b) (h1 : 2 ≤ b) (h2 : b ≤ 3) (h : giveR bs ps b 1 rr) : rr.1 = 0 ∧ Alike bs rr.2 ∧ ownedBy rr.2 ps 1 := by
  have hf : mayOwn b = true := mayOwn_iff.2 ⟨by omega, h2⟩
  have hb : ¬ giveBad bs ps b 1 := by
    rintro (h | h | h | h)
    · exact h hm
    · rw [hf] at h; cases h
    · exact absurd h (by decide)
    · omega
  have ha := is_all hm (fun x hx => (ho x hx).1)
  rcases h with ⟨h, rfl⟩ | ⟨-, h, rfl⟩ | ⟨-, -, rfl⟩
  · exact absurd h hb
  · rw [ha] at h; cases h
  · obtain ⟨g1, g2⟩ := give_all hf (show mayOwn 1 = true by decide) (show b ≠ 1 by omega) hm ha
    exact ⟨rfl, g1, g2⟩
theorem give_third {bs : List Bf} {ps : List Pc} {b : Int} {rr : Int × List Bf} (hm : mayL bs ps) (ho : ownedBy bs ps 1) (h1 : 2 ≤ b) (h2 : b ≤ 3) (h : giveR bs ps b 1 rr) : rr.1 = 8 := by
  have hf : mayOwn b = true := mayOwn_iff.2 ⟨by omega, h2⟩
  have hb : ¬ giveBad bs ps b 1 := by
    rintro (h | h | h | h)
    · exact h hm
    · rw [hf] at h; cases h
    · exact absurd h (by decide)
    · omega
  have ha := not_all (o := b) hm (fun x hx => by rw [(ho x hx).1]; omega)
  rcases h with ⟨h, rfl⟩ | ⟨-, -, rfl⟩ | ⟨-, h, rfl⟩
  · exact absurd h hb
  · rfl
  · rw [ha] at h; cases h
theorem alike_bytes {bs bs' : List Bf} (h : Alike bs bs') (hl : ∀ b ∈ bs, b.bytes.length ≤ 65536) : ∀ b ∈ bs', b.bytes.length ≤ 65536 := by
  intro b hb
  obtain ⟨i, hi⟩ := List.mem_iff_getElem?.1 hb
  have ha := h.at_ i
  rw [hi] at ha
  cases h2 : bs[i]? with
  | none => rw [h2] at ha; cases ha
  | some c =>
    rw [h2] at ha
    simp only [Option.map_some, Option.some.injEq] at ha
    have e : c.bytes.length = b.bytes.length := congrArg (fun x => x.2.2) ha
    have := hl c (List.mem_of_getElem? h2)
    omega
def RelG (w : World) (n : Nat) (P : Pl) (bs : List Bf) (iv : Value) (wr : World) : Prop := ∃ i : Nat, iv = .int .i64 i ∧ i ≤ n ∧ IsP wr P bs ∧ Below w.heap.size w wr
set_option maxRecDepth 100000 in
set_option maxHeartbeats 4000000 in
theorem walk2 (w : World) (A : Option Addr) (n cap : Nat) (ps : List Pc) (hl : ps.length = n) (hc : PsAt w A ps) (ok : CapOk w A n cap) (hn9 : n ≤ 140737488351232) (a b : Int) (ha0 : 0 ≤ a) (ha1 : a ≤ 255) (hb0 : 0 ≤ b) (hb1 : b ≤ 255) :
    Calls Try.prog 5 #[.slice A n cap, .int .u8 a, .int .u8 b] w (Post w) := by
  have HC := Lib.hid hc
  have HL := Lib.hid hl
  have OK := Lib.hid ok
  clear hc ok
  by_cases h16 : n ≤ 16
  · have d1 : decide (16 < (n : Int)) = false := decide_eq_false (by omega)
    have hA0 : n = 0 → A = none ∨ ∃ b off, A = some ⟨b, off, none⟩ := fun _ => by
      cases A with
      | none => exact .inl rfl
      | some a => obtain ⟨b, off, s⟩ := a; have := (OK.out.2 _ rfl).1; simp only at this; subst this; exact .inr ⟨_, _, rfl⟩
    have MY := fun W P bs (k : IsP W P bs) hb (b : Below w.heap.size w W) => Lib.hid (mayl_any k hb A n cap ps (HC.out.below b) HL.out h16 OK.out.1 hA0)
    have GV := fun W P bs (k : IsP W P bs) (hb : ∀ b ∈ bs, b.bytes.length ≤ 65536) (b : Below w.heap.size w W) f t => Lib.hid (give_any k hb A n cap ps HL.out h16 OK.out.1 (HC.out.below b) hA0 f t)
    have ca : IntKind.i64.wrap a = a := IntWalk.i64_in _ (by omega)
    have cb : IntKind.i64.wrap b = b := IntWalk.i64_in _ (by omega)
    clear hl
    go_enter Try.func5, Try.ntmps5
    go_wp2_with (go_at_call 7; (with_reducible refine Calls.mono (awake_any _) ?_); rintro e w0 ⟨rfl, b0⟩; have B0 := Lib.hid b0; clear b0)
    go_at_call 8
    (with_reducible refine Calls.mono (both_any _) ?_)
    rintro e w1 ⟨P, r, rfl, kP, hall, b1⟩
    have K1 := Lib.hid kP
    have B1 := Lib.hid (Below.next B0.out b1)
    have ALL := Lib.hid (show ∀ i, P.all i → w.heap.size ≤ i from fun i h => Nat.le_trans B0.out.size (hall i h))
    clear kP b1 hall B0
    obtain ⟨a', hA⟩ : ∃ a', a % 5 = a' := ⟨_, rfl⟩
    obtain ⟨b', hB⟩ : ∃ b', b % 5 = b' := ⟨_, rfl⟩
    have ba : 0 ≤ a' ∧ a' ≤ 4 := by omega
    have bb : 0 ≤ b' ∧ b' ≤ 4 := by omega
    go_wp2_with fail
    trace_state
    go_at_call 16
    (with_reducible refine Calls.mono (GV _ _ _ K1.out bs6_bytes B1.out a' b').out ?_)
    rintro e w2 ⟨⟨c, bs2⟩, hr, rfl, k2, o2⟩
    obtain ⟨r1, r2, r3, r4⟩ := give_first hr
    simp only at r1 r2 r3 r4
    have K2 := Lib.hid k2
    have B2 := Lib.hid (Below.onlyF B1.out o2 (fun i h => ALL.out i (.inr (.inr h))))
    have R1 := Lib.hid r1
    have R2 := Lib.hid r2
    have R3 := Lib.hid r3
    have R4 := Lib.hid r4
    have HB2 := Lib.hid (alike_bytes r1 bs6_bytes)
    clear k2 o2 r1 r2 r3 r4 hr K1 B1
    go_wp2_with fail
    go_at_call 9
    (with_reducible refine Calls.mono (MY _ _ _ K2.out HB2.out B2.out).out ?_)
    rintro e w3 ⟨rb, rfl, hr, b3⟩
    have K3 := Lib.hid (K2.out.below b3)
    have B3 := Lib.hid (Below.next B2.out b3)
    have HR := Lib.hid hr
    clear b3 hr B2 K2
    cases rb with
    | false =>
      obtain rfl : c = 1 := R2.out (fun h => by have := HR.out.2 ((mayL_alike R1.out ps).1 h); cases this)
      go_wp2_with fail
      go_ret
      exact ⟨rfl, B3.out⟩
    | true =>
      have ML2 := Lib.hid (HR.out.1 rfl)
      have ML := Lib.hid ((mayL_alike R1.out ps).2 ML2.out)
      have hcase : rightP a' b' ∨ ¬ rightP a' b' := Classical.em _
      rcases hcase with hrt | hrt
      · obtain ⟨r0, ro⟩ := R3.out ML.out hrt
        have RO := Lib.hid ro
        subst r0
        obtain ⟨rfl, hb2, hb3⟩ := hrt
        have t1 : decide (2 ≤ b') = true := decide_eq_true hb2
        have t2 : decide (b' ≤ 3) = true := decide_eq_true hb3
        have OWN := RO
        clear ro R3 R4 R2 RO
        go_wp2_with fail
        go_loopw [14] (fun iv wr => Hid (RelG w n P bs2 iv wr)) (fun iv _ => n - (intOf iv).toNat)
        case atStart => exact ⟨0, rfl, by omega, K3.out, B3.out⟩
        case round =>
          obtain ⟨i, rfl, hi, hk, hb⟩ := hrel
          have HK := Lib.hid hk
          have HB := Lib.hid hb
          clear hk hb K3 B3
          by_cases hin : i < n
          · have hin2 : (i : Int) < n := by omega
            have g1 : IntKind.i64.wrap ((i : Int) + 1) = i + 1 := IntWalk.i64_in _ (by omega)
            obtain ⟨x, hx⟩ : ∃ x, ps[i]? = some x := ⟨_, List.getElem?_eq_getElem (by have := HL.out; omega)⟩
            obtain ⟨b0, off, rfl, hlt, c0, c1, -, -⟩ := HC.out i x hx
            have c0 := (HB.out.cell (p := ⟨b0, off + i * 4, none⟩) hlt).trans c0
            have c1 := (HB.out.cell (p := ⟨b0, off + i * 4 + 1, none⟩) hlt).trans c1
            have hli := Nat.lt_of_lt_of_le hlt HB.out.size
            have OW := ownerp_any HK.out x.s x.g
            rw [(OWN.out x (List.mem_of_getElem? hx)).1, (OWN.out x (List.mem_of_getElem? hx)).2] at OW
            have OWX := Lib.hid OW
            clear OW hx
            go_wp2_with fail
            go_at_call 17
            (with_reducible refine Calls.mono OWX.out ?_)
            rintro e w5 ⟨rfl, k5, b5⟩
            have K5 := Lib.hid k5
            have B5 := Lib.hid (Below.next HB.out b5)
            clear k5 b5 OWX
            go_wp2_with fail
            go_roundw
            case rel => exact ⟨i + 1, by go_num, by omega, K5.out, B5.out⟩
            case measure => simp [intOf]; omega
          · obtain rfl : i = n := by omega
            have hin2 : ¬ (i : Int) < i := by omega
            go_wp2_with fail
            go_at_call 16
            (with_reducible refine Calls.mono (GV _ _ _ HK.out HB2.out HB.out b' 1).out ?_)
            rintro e w6 ⟨⟨c2, bs3⟩, hr, rfl, k6, o6⟩
            obtain ⟨r1, r2, r3⟩ := give_second ML2.out OWN.out hb2 hb3 hr
            simp only at r1 r2 r3
            subst r1
            have K6 := Lib.hid k6
            have B6 := Lib.hid (Below.onlyF HB.out o6 (fun i h => ALL.out i (.inr (.inr h))))
            have ML3 := Lib.hid ((mayL_alike r2 ps).1 ML2.out)
            have HB3 := Lib.hid (alike_bytes r2 HB2.out)
            have OW3 := Lib.hid r3
            clear k6 o6 r2 r3 hr
            go_wp2_with fail
            go_at_call 16
            (with_reducible refine Calls.mono (GV _ _ _ K6.out HB3.out B6.out b' 1).out ?_)
            rintro e w7 ⟨⟨c3, bs4⟩, hr, rfl, k7, o7⟩
            have r1 := give_third ML3.out OW3.out hb2 hb3 hr
            simp only at r1
            subst r1
            have B7 := Lib.hid (Below.onlyF B6.out o7 (fun i h => ALL.out i (.inr (.inr h))))
            clear k7 o7 hr
            go_wp2_with fail
            go_ret
            exact ⟨rfl, B7.out⟩
      · obtain ⟨r0, ro⟩ := R4.out ML.out hrt
        have OWN := Lib.hid ro
        have z0 : decide (c = 0) = false := decide_eq_false r0
        have z1 : (c == 0) = false := by simpa using r0
        clear ro R2 R3 R4
        by_cases u1 : a' = 1
        · subst u1
          by_cases u2 : 2 ≤ b'
          · have u3 : ¬ b' ≤ 3 := fun h => hrt ⟨rfl, u2, h⟩
            have t2 : decide (2 ≤ b') = true := decide_eq_true u2
            have t3 : decide (b' ≤ 3) = false := decide_eq_false u3
            clear hrt
            go_wp2_with fail
            go_loopw [14] (fun iv wr => Hid (RelG w n P bs2 iv wr)) (fun iv _ => n - (intOf iv).toNat)
            case atStart => exact ⟨0, rfl, by omega, K3.out, B3.out⟩
            case round =>
              obtain ⟨i, rfl, hi, hk, hb⟩ := hrel
              have HK := Lib.hid hk
              have HB := Lib.hid hb
              clear hk hb K3 B3
              by_cases hin : i < n
              · have hin2 : (i : Int) < n := by omega
                have g1 : IntKind.i64.wrap ((i : Int) + 1) = i + 1 := IntWalk.i64_in _ (by omega)
                obtain ⟨x, hx⟩ : ∃ x, ps[i]? = some x := ⟨_, List.getElem?_eq_getElem (by have := HL.out; omega)⟩
                obtain ⟨b0, off, rfl, hlt, c0, c1, -, -⟩ := HC.out i x hx
                have c0 := (HB.out.cell (p := ⟨b0, off + i * 4, none⟩) hlt).trans c0
                have c1 := (HB.out.cell (p := ⟨b0, off + i * 4 + 1, none⟩) hlt).trans c1
                have hli := Nat.lt_of_lt_of_le hlt HB.out.size
                have OW := ownerp_any HK.out x.s x.g
                rw [(OWN.out x (List.mem_of_getElem? hx)).1, (OWN.out x (List.mem_of_getElem? hx)).2] at OW
                have OWX := Lib.hid OW
                clear OW hx
                go_wp2_with fail
                go_at_call 17
                (with_reducible refine Calls.mono OWX.out ?_)
                rintro e w5 ⟨rfl, k5, b5⟩
                have K5 := Lib.hid k5
                have B5 := Lib.hid (Below.next HB.out b5)
                clear k5 b5 OWX
                go_wp2_with fail
                go_roundw
                case rel => exact ⟨i + 1, by go_num, by omega, K5.out, B5.out⟩
                case measure => simp [intOf]; omega
              · obtain rfl : i = n := by omega
                have hin2 : ¬ (i : Int) < i := by omega
                go_wp2_with fail
                go_ret
                exact ⟨rfl, HB.out⟩
          · have t2 : decide (2 ≤ b') = false := decide_eq_false u2
            clear hrt
            go_wp2_with fail
            go_loopw [14] (fun iv wr => Hid (RelG w n P bs2 iv wr)) (fun iv _ => n - (intOf iv).toNat)
            case atStart => exact ⟨0, rfl, by omega, K3.out, B3.out⟩
            case round =>
              obtain ⟨i, rfl, hi, hk, hb⟩ := hrel
              have HK := Lib.hid hk
              have HB := Lib.hid hb
              clear hk hb K3 B3
              by_cases hin : i < n
              · have hin2 : (i : Int) < n := by omega
                have g1 : IntKind.i64.wrap ((i : Int) + 1) = i + 1 := IntWalk.i64_in _ (by omega)
                obtain ⟨x, hx⟩ : ∃ x, ps[i]? = some x := ⟨_, List.getElem?_eq_getElem (by have := HL.out; omega)⟩
                obtain ⟨b0, off, rfl, hlt, c0, c1, -, -⟩ := HC.out i x hx
                have c0 := (HB.out.cell (p := ⟨b0, off + i * 4, none⟩) hlt).trans c0
                have c1 := (HB.out.cell (p := ⟨b0, off + i * 4 + 1, none⟩) hlt).trans c1
                have hli := Nat.lt_of_lt_of_le hlt HB.out.size
                have OW := ownerp_any HK.out x.s x.g
                rw [(OWN.out x (List.mem_of_getElem? hx)).1, (OWN.out x (List.mem_of_getElem? hx)).2] at OW
                have OWX := Lib.hid OW
                clear OW hx
                go_wp2_with fail
                go_at_call 17
                (with_reducible refine Calls.mono OWX.out ?_)
                rintro e w5 ⟨rfl, k5, b5⟩
                have K5 := Lib.hid k5
                have B5 := Lib.hid (Below.next HB.out b5)
                clear k5 b5 OWX
                go_wp2_with fail
                go_roundw
                case rel => exact ⟨i + 1, by go_num, by omega, K5.out, B5.out⟩
                case measure => simp [intOf]; omega
              · obtain rfl : i = n := by omega
                have hin2 : ¬ (i : Int) < i := by omega
                go_wp2_with fail
                go_ret
                exact ⟨rfl, HB.out⟩
        · have u0 : (a' == 1) = false := by simpa using u1
          have u5 : decide (a' = 1) = false := decide_eq_false u1
          clear hrt
          go_wp2_with fail
          go_loopw [14] (fun iv wr => Hid (RelG w n P bs2 iv wr)) (fun iv _ => n - (intOf iv).toNat)
          case atStart => exact ⟨0, rfl, by omega, K3.out, B3.out⟩
          case round =>
            obtain ⟨i, rfl, hi, hk, hb⟩ := hrel
            have HK := Lib.hid hk
            have HB := Lib.hid hb
            clear hk hb K3 B3
            by_cases hin : i < n
            · have hin2 : (i : Int) < n := by omega
              have g1 : IntKind.i64.wrap ((i : Int) + 1) = i + 1 := IntWalk.i64_in _ (by omega)
              obtain ⟨x, hx⟩ : ∃ x, ps[i]? = some x := ⟨_, List.getElem?_eq_getElem (by have := HL.out; omega)⟩
              obtain ⟨b0, off, rfl, hlt, c0, c1, -, -⟩ := HC.out i x hx
              have c0 := (HB.out.cell (p := ⟨b0, off + i * 4, none⟩) hlt).trans c0
              have c1 := (HB.out.cell (p := ⟨b0, off + i * 4 + 1, none⟩) hlt).trans c1
              have hli := Nat.lt_of_lt_of_le hlt HB.out.size
              have OW := ownerp_any HK.out x.s x.g
              rw [(OWN.out x (List.mem_of_getElem? hx)).1, (OWN.out x (List.mem_of_getElem? hx)).2] at OW
              have OWX := Lib.hid OW
              clear OW hx
              go_wp2_with fail
              go_at_call 17
              (with_reducible refine Calls.mono OWX.out ?_)
              rintro e w5 ⟨rfl, k5, b5⟩
              have K5 := Lib.hid k5
              have B5 := Lib.hid (Below.next HB.out b5)
              clear k5 b5 OWX
              go_wp2_with fail
              go_roundw
              case rel => exact ⟨i + 1, by go_num, by omega, K5.out, B5.out⟩
              case measure => simp [intOf]; omega
            · obtain rfl : i = n := by omega
              have hin2 : ¬ (i : Int) < i := by omega
              go_wp2_with fail
              go_ret
              exact ⟨rfl, HB.out⟩
  · have d1 : decide (16 < (n : Int)) = true := decide_eq_true (by omega)
    clear hl
    go_enter Try.func5, Try.ntmps5
    go_wp2_with (go_at_call 7; (with_reducible refine Calls.mono (awake_any _) ?_); rintro e w0 ⟨rfl, b0⟩; have B0 := Lib.hid b0; clear b0)
    go_ret
    exact ⟨rfl, B0.out⟩
theorem walk (w : World) (A0 : Option Addr) (n0 cap0 : Nat) (D0 : Nat → List Value) (w0 : Elems w [some .i64, some .u64, some .i64, some .i64] A0 n0 D0) (l0 : n0 * 32 ≤ 140737488351232) (ok : CapOk w A0 n0 cap0) (a : Int) (wa : (Lit.int .u8 a).wf = true) (b : Int) (wb : (Lit.int .u8 b).wf = true) :
    Calls Try.prog 5 #[.slice A0 n0 cap0, .int .u8 a, .int .u8 b] w fun e w' => e = .returned (.bool true) ∧ Below w.heap.size w w' := by
  obtain ⟨ps, hl, hc, -⟩ := ps_of w0
  exact walk2 w A0 n0 cap0 ps hl hc ok (by omega) a b (bounds_u8 wa).1 (bounds_u8 wa).2 (bounds_u8 wb).1 (bounds_u8 wb).2
end piecesGive
namespace piecesGive
theorem own : ownKnob Try.prog.godebug = none := by kernel_rfl
set_option maxRecDepth 100000 in
theorem lifted (os : Os) (started : os.Started) (H : Type) (enc : TypeId × Value → H) :
    ReturnsInHanded {} Try.checked os 5 .any (Rows.piecesGiveSpec.pre6 enc Try.prog Try.f5 Rows.piecesGiveRow.domain false) (Rows.piecesGiveSpec.post enc Try.prog Try.f5 false true false false) := by
  refine returnsInHanded_of_change_sized (C := Try.checked) own started (by kernel_rfl) Try.func5
    (ChangeSpec.witness6 (enc := enc) (C := Try.checked) false ⟨#[], #[.slice none 0 0, .int .u8 0, .int .u8 0], []⟩ 8 (by kernel_rfl) (by kernel_rfl) (by kernel_rfl) (by kernel_rfl)) ?_
  intro W base args ds gs before hval0 hW hcnd hsz0 _
  have hsz : (DataW.weightsEach Try.prog (Try.f5.params.toList ++ Rows.piecesGiveSpec.plain.varTypes Try.prog) (ds ++ gs)).all (· ≤ reachBytes) = true := hsz0
  have hval : ∀ (j : Nat) t v, Try.f5.params[j]? = some t → args[j]? = some v → Value.okWide Try.prog W .any base t v := hval0
  have hW' := hW
  obtain ⟨p, q, hA0, hV, rfl, hfz, hnd⟩ := hW
  have hA : DataW.TrodAll enc Try.prog W 0 (fun _ => true) true Try.f5.params.toList args.toList ds p := hA0
  rw [Try.params5] at hA hval hsz
  obtain ⟨v0, vs0, d0, ds0, p0, q0, hargs, rfl, rfl, h0, r0⟩ := trodAll_cons hA
  obtain ⟨v1, vs1, d1, ds1, p1, q1, rfl, rfl, rfl, h1, r1⟩ := trodAll_cons r0
  obtain ⟨v2, vs2, d2, ds2, p2, q2, rfl, rfl, rfl, h2, r2⟩ := trodAll_cons r1
  obtain ⟨rfl, rfl, rfl⟩ := trodAll_nil r2
  obtain rfl : args = #[v0, v1, v2] := by cases args; simp_all
  obtain ⟨rfl, rfl⟩ := trodVars_none hV
  have y0 := arg_cap Try.underlying22 (hval 0 22 v0 rfl rfl)
  obtain ⟨A0, n0, cap0, D0, rfl, w0, m0, z0⟩ := arg_slice [some .i64, some .u64, some .i64, some .i64] Try.underlying22 6 (by kernel_rfl) (by kernel_rfl) (hval 0 22 v0 rfl rfl) h0
  have l0 : n0 * Try.prog.bytesOf 42 ≤ reachBytes := by
    rcases z0 with ⟨_, e⟩ | ⟨es, sp, e, el⟩
    · subst e; simp
    · subst e; subst el; exact Nat.le_trans (Nat.mul_le_mul_right _ (Nat.le_add_right _ _)) (sized_slice hsz (j := 0) (t := 22) (e := 42) rfl rfl Try.underlying22)
  have b0 : Try.prog.bytesOf 42 = 32 := by kernel_rfl
  rw [b0] at l0
  simp only [reachBytes] at l0
  clear z0 b0
  obtain ⟨a1, rfl, w1⟩ := arg_one Try.underlying5 (hval 1 5 v1 rfl rfl) h1
  obtain ⟨a2, rfl, w2⟩ := arg_one Try.underlying5 (hval 2 5 v2 rfl rfl) h2
  clear hA0 hval0 hsz0 hsz
  refine (walk W A0 n0 cap0 D0 w0 l0 (y0 _ _ _ rfl) a1 w1 a2 w2).mono fun e W' ⟨he, bel⟩ => ?_
  subst he
  exact ⟨_, rfl, _, _, _, [], _, [], hW', trodAll_mk1 (shut_bool Try.underlying4 _), (trodAll_cons_mk (Below.trod laidOut (by kernel_rfl) (of_decide_eq_true (by kernel_rfl)) h0 bel (fun x hx => by simpa using hW'.lt x (by simp [hx]))) (trodAll_cons_mk (Below.trod laidOut (by kernel_rfl) (of_decide_eq_true (by kernel_rfl)) h1 bel (fun x hx => by simpa using hW'.lt x (by simp [hx]))) (trodAll_cons_mk (Below.trod laidOut (by kernel_rfl) (of_decide_eq_true (by kernel_rfl)) h2 bel (fun x hx => by simpa using hW'.lt x (by simp [hx]))) trodAll_mk0))), rfl, bel.frame _, fun h => by cases h⟩
theorem over : Rows.piecesGiveRow.holds Try.pinned (OpenSpec.ofChange Rows.piecesGiveSpec) :=
  OpenClaim.holds_of_wide 5 Try.f5 rfl rfl rfl rfl rfl rfl rfl ⟨rfl, rfl, rfl, rfl, rfl⟩ rfl rfl rfl rfl rfl (by kernel_rfl) Try.func5 (by kernel_rfl)
    (of_decide_eq_true (by kernel_rfl)) (by unfold Func.isWrapper; first | (rw [if_pos (by decide +kernel)]; kernel_rfl) | (rw [if_neg (by decide +kernel)]; exact ⟨rfl, rfl⟩))
    (fun os started H enc _ => lifted os started H enc)
end piecesGive
theorem piecesGive_holds : Rows.PiecesGiveSaid := piecesGive.over
#print axioms piecesGive_holds
end Go.Proofs.Ytajcjepolfmhmaa
