/- Layer 8 (pieces): Give. -/
import Derived.Test.YtajcjepolfmhmaaPiecesH
import Derived.Test.YtajcjepolfmhmaaPiecesE
import Derived.Test.YtajcjepolfmhmaaPiecesF
namespace Go.Proofs.Ytajcjepolfmhmaa
open Go.RowKit
set_option linter.unusedVariables false
set_option linter.unusedSimpArgs false
theorem gholds_any (o : Int) (w : World) : Calls Try.prog 31 #[.int .i64 o] w fun e w' => e = .returned (.bool (mayOwn o)) ∧ w = w' := by
  by_cases z1 : 1 ≤ o
  · by_cases z2 : o ≤ 3
    · have e : mayOwn o = true := mayOwn_iff.2 ⟨z1, z2⟩
      rw [e]; clear e
      go_enter Try.func31, Try.ntmps31
      go_wp2
      go_ret
      exact ⟨retb (by simp), rfl⟩
    · have e : mayOwn o = false := decide_eq_false (by omega)
      have y : decide (o ≤ 3) = false := decide_eq_false z2
      rw [e]; clear e
      go_enter Try.func31, Try.ntmps31
      go_wp2
      go_ret
      exact ⟨retb (by simp), rfl⟩
  · have e : mayOwn o = false := decide_eq_false (by omega)
    have y : decide (1 ≤ o) = false := decide_eq_false z1
    rw [e]; clear e
    go_enter Try.func31, Try.ntmps31
    go_wp2
    go_ret
    exact ⟨retb (by simp), rfl⟩
def giveUp (f t : Int) (hs : List Hd) (bs : List Bf) : Nat → List Bf
  | 0 => bs
  | k + 1 => match hs[k]? with
    | some h => (giveQ h.1 h.2 f t (giveUp f t hs bs k)).2
    | none => giveUp f t hs bs k
def giveBad (bs : List Bf) (ps : List Pc) (f t : Int) : Prop := ¬ mayL bs ps ∨ mayOwn f = false ∨ mayOwn t = false ∨ f = t
/-- What Give answers, and what comes to be the buffers. -/
def giveR (bs : List Bf) (ps : List Pc) (f t : Int) (r : Int × List Bf) : Prop :=
  (giveBad bs ps f t ∧ r = (1, bs)) ∨ (¬ giveBad bs ps f t ∧ allB bs ps f = false ∧ r = (8, bs)) ∨ (¬ giveBad bs ps f t ∧ allB bs ps f = true ∧ r = (0, giveUp f t (bufsUp ps ps.length) bs (bufsUp ps ps.length).length))
def GvPost (w : World) (P : Pl) (bs : List Bf) (ps : List Pc) (f t : Int) (e : Ending) (w' : World) : Prop :=
  ∃ r, giveR bs ps f t r ∧ e = .returned (.int .i64 r.1) ∧ IsP w' P r.2 ∧ Only P.own w w'
def RelGv (w : World) (P : Pl) (bs : List Bf) (f t : Int) (A : Option Addr) (hs : List Hd) (iv : Value) (wr : World) : Prop :=
  ∃ i : Nat, iv = .int .i64 i ∧ i ≤ hs.length ∧ IsP wr P (giveUp f t hs bs i) ∧ HsAt wr A hs ∧ (∀ a, A = some a → w.heap.size ≤ a.block) ∧ Only P.own w wr
theorem HsAt.only {w w' : World} {A : Option Addr} {l : List Hd} {F : Nat → Prop} (h : HsAt w A l) (o : Only F w w') (hF : ∀ a, A = some a → ¬ F a.block) : HsAt w' A l := by
  intro i y hy
  obtain ⟨b, off, e, hb, h0, h1⟩ := h i y hy
  have kc : ∀ j, w'.cell? ⟨b, j, none⟩ = w.cell? ⟨b, j, none⟩ := fun j => by
    have := o.block b hb (hF _ e)
    unfold World.cell?
    rw [this]
  exact ⟨b, off, e, Nat.lt_of_lt_of_le hb o.size, (kc _).trans h0, (kc _).trans h1⟩
set_option maxRecDepth 100000 in
set_option maxHeartbeats 2000000 in
theorem give_any {w : World} {P : Pl} {bs : List Bf} (k : IsP w P bs) (hb : ∀ b ∈ bs, b.bytes.length ≤ 65536) (A : Option Addr) (len cap : Nat) (ps : List Pc) (hl : ps.length = len) (h16 : len ≤ 16) (hlc : len ≤ cap) (hc : PsAt w A ps) (hA0 : len = 0 → A = none ∨ ∃ b off, A = some ⟨b, off, none⟩) (f t : Int) :
    Calls Try.prog 16 #[.pointer (some ⟨P.p, 0, none⟩), .slice A len cap, .int .i64 f, .int .i64 t] w (GvPost w P bs ps f t) := by
  have MY := Lib.hid (mayl_any k hb A len cap ps hc hl h16 hlc hA0)
  have AL := fun W (o : Below w.heap.size w W) => Lib.hid (alll_any (k.below o) A len cap ps (hc.below o) hl (by omega) f)
  have BF := fun W (o : Below w.heap.size w W) => Lib.hid (bufs_any (w := W) A len cap ps (hc.below o) hl h16)
  have KP := Lib.hid k
  have BL := bufsUp_len ps ps.length
  have HBL : (bufsUp ps ps.length).length ≤ 16 := by omega
  have PL : Hid (∀ g, P.own g → g < w.heap.size) := fun g h => k.lt (.inr (.inr h))
  have GF := fun W => Lib.hid (gholds_any f W)
  have GT := fun W => Lib.hid (gholds_any t W)
  obtain ⟨ab, hab⟩ : ∃ ab, allB bs ps f = ab := ⟨_, rfl⟩
  have HAB := Lib.hid hab
  rw [hab] at AL
  have Z1 : ∀ z, mayOwn f = z → Hid (mayOwn f = z) := fun _ h => h
  have Z2 : ∀ z, mayOwn t = z → Hid (mayOwn t = z) := fun _ h => h
  obtain ⟨z1, hz1⟩ : ∃ z1, mayOwn f = z1 := ⟨_, rfl⟩
  obtain ⟨z2, hz2⟩ : ∃ z2, mayOwn t = z2 := ⟨_, rfl⟩
  replace Z1 := Z1 _ hz1
  replace Z2 := Z2 _ hz2
  rw [hz1] at GF
  rw [hz2] at GT
  clear k hb hc hA0 hab hz1 hz2 hl BL
  go_enter Try.func16, Try.ntmps16
  go_wp2_with fail
  go_at_call 9
  (with_reducible refine Calls.mono MY.out ?_)
  rintro e w1 ⟨r, rfl, hr, b1⟩
  have B1 := Lib.hid b1
  have HR := Lib.hid hr
  have K1 := Lib.hid (KP.out.below b1)
  clear b1 hr MY
  cases r with
  | false =>
    go_wp2_with fail
    go_ret
    exact ⟨(1, bs), .inl ⟨.inl (fun h => (by have := HR.out.2 h; cases this)), rfl⟩, rfl, K1.out, Only.of_below B1.out⟩
  | true =>
    have ML := Lib.hid (HR.out.1 rfl)
    cases z1 with
    | false =>
      go_wp2_with (go_at_call 31; (with_reducible refine Calls.mono (GF _).out ?_); rintro e wx ⟨rfl, rfl⟩)
      go_ret
      exact ⟨(1, bs), .inl ⟨.inr (.inl Z1.out), rfl⟩, rfl, K1.out, Only.of_below B1.out⟩
    | true =>
      cases z2 with
      | false =>
        go_wp2_with fail
        go_at_call 31
        (with_reducible refine Calls.mono (GF _).out ?_)
        rintro e wx ⟨rfl, rfl⟩
        go_wp2_with fail
        go_at_call 31
        (with_reducible refine Calls.mono (GT _).out ?_)
        rintro e wx ⟨rfl, rfl⟩
        go_wp2_with fail
        go_ret
        exact ⟨(1, bs), .inl ⟨.inr (.inr (.inl Z2.out)), rfl⟩, rfl, K1.out, Only.of_below B1.out⟩
      | true =>
        by_cases eft : f = t
        · have d1 : (f == t) = true := beq_iff_eq.2 eft
          have EF := Lib.hid eft
          clear eft
          go_wp2_with fail
          go_at_call 31
          (with_reducible refine Calls.mono (GF _).out ?_)
          rintro e wx ⟨rfl, rfl⟩
          go_wp2_with fail
          go_at_call 31
          (with_reducible refine Calls.mono (GT _).out ?_)
          rintro e wx ⟨rfl, rfl⟩
          go_wp2_with fail
          go_ret
          exact ⟨(1, bs), .inl ⟨.inr (.inr (.inr EF.out)), rfl⟩, rfl, K1.out, Only.of_below B1.out⟩
        · have d1 : (f == t) = false := beq_eq_false_iff_ne.2 eft
          have NB : Hid (¬ giveBad bs ps f t) := by
            rintro (h | h | h | h)
            · exact h ML.out
            · rw [Z1.out] at h; cases h
            · rw [Z2.out] at h; cases h
            · exact eft h
          clear eft
          go_wp2_with fail
          go_at_call 31
          (with_reducible refine Calls.mono (GF _).out ?_)
          rintro e wx ⟨rfl, rfl⟩
          go_wp2_with fail
          go_at_call 31
          (with_reducible refine Calls.mono (GT _).out ?_)
          rintro e wx ⟨rfl, rfl⟩
          go_wp2_with fail
          go_at_call 27
          (with_reducible refine Calls.mono (AL _ B1.out).out ?_)
          rintro e w2 ⟨rfl, b2⟩
          have K2 := Lib.hid (K1.out.below b2)
          have B2 := Lib.hid (Below.next B1.out b2)
          clear b2
          cases ab with
          | false =>
            go_wp2_with fail
            go_ret
            exact ⟨(8, bs), .inr (.inl ⟨NB.out, HAB.out, rfl⟩), rfl, K2.out, Only.of_below B2.out⟩
          | true =>
            go_wp2_with fail
            go_at_call 32
            (with_reducible refine Calls.mono (BF _ B2.out).out ?_)
            rintro e w3 ⟨Ah, ch, rfl, hsl, hown, b3⟩
            have HS3 : Hid (HsAt w3 Ah (bufsUp ps ps.length)) := HsAt.of hsl
            have HW3 : Hid (∀ a, Ah = some a → w.heap.size ≤ a.block) := fun a e => by
              subst e
              by_cases h0 : 0 < (bufsUp ps ps.length).length
              · obtain ⟨g, off, c', e, -⟩ := hsl.at_ h0
                injection e with e1 e2 e3
                injection e1 with e1
                have := hown g (by rw [e1]; rfl)
                have := B2.out.size
                rw [e1]; simp only; omega
              · rcases hsl.2 with ⟨e, -⟩ | ⟨g, off, c', cs, e, -⟩
                · cases e
                · injection e with e1 e2 e3
                  injection e1 with e1
                  have := hown g (by rw [e1]; rfl)
                  have := B2.out.size
                  rw [e1]; simp only; omega
            have K3 := Lib.hid (K2.out.below b3)
            have B3 := Lib.hid (Below.next B2.out b3)
            obtain ⟨hsv, hhsv⟩ : ∃ hsv, bufsUp ps ps.length = hsv := ⟨_, rfl⟩
            have HHS := Lib.hid hhsv
            rw [hhsv] at HS3 HBL ⊢
            clear hsl hown b3 K1 K2 B1 B2 hhsv
            go_wp2_with fail
            go_loopw [43] (fun iv wr => Hid (RelGv w P bs f t Ah hsv iv wr)) (fun iv _ => (hsv.length - intOf iv).toNat)
            case atStart => exact ⟨0, rfl, by omega, K3.out, HS3.out, HW3.out, Only.of_below B3.out⟩
            case round =>
              obtain ⟨i, rfl, hi, hk, hhs, hw3, hoo⟩ := hrel
              have HK := Lib.hid hk
              have HHS2 := Lib.hid hhs
              have HO := Lib.hid hoo
              clear hk hhs hw3 hoo K3 B3 HS3
              by_cases hin : i < hsv.length
              · have hin2 : (i : Int) < hsv.length := by omega
                obtain ⟨x, hx⟩ : ∃ x, hsv[i]? = some x := ⟨_, List.getElem?_eq_getElem hin⟩
                obtain ⟨b, off, rfl, hlt, c0, c1⟩ := HHS2.out i x hx
                have g1 : IntKind.i64.wrap ((i : Int) + 1) = i + 1 := IntWalk.i64_in _ (by omega)
                have GS := Lib.hid (show giveUp f t hsv bs (i + 1) = (giveQ x.1 x.2 f t (giveUp f t hsv bs i)).2 by simp only [giveUp, hx])
                have GV := Lib.hid (givep_any (HK.out.alloc (.cells #[.int .i64 x.1, .int .u64 x.2] 40)) x.1 x.2 f t)
                obtain ⟨x1, x2⟩ := x
                simp only at c0 c1 GV GS
                clear hx
                go_wp2_with fail
                go_at_call 33
                (with_reducible refine Calls.mono GV.out ?_)
                rintro e w5 ⟨rfl, k5, o5⟩
                have K5 := Lib.hid k5
                have A5 := Lib.hid ((Only.of_below (F := P.own) ((Below.refl wr.heap.size wr).alloc (Nat.le_refl _) (.cells #[.int .i64 x1, .int .u64 x2] 40))).trans o5 (fun _ _ h => h))
                have H5 := Lib.hid (HHS2.out.only A5.out (fun a e h => by have := HW3.out a e; have := PL.out _ h; omega))
                clear k5 o5
                go_wp2_with fail
                go_roundw
                case rel => exact ⟨i + 1, by go_num, by omega, by rw [GS.out]; exact K5.out, H5.out, HW3.out, HO.out.trans A5.out (fun _ _ h => h)⟩
                case measure => simp [intOf]; omega
              · have hin2 : ¬ (i : Int) < hsv.length := by omega
                obtain rfl : i = hsv.length := by omega
                go_wp2_with fail
                go_ret
                exact ⟨(0, giveUp f t hsv bs hsv.length), .inr (.inr ⟨NB.out, HAB.out, by rw [HHS.out]⟩), rfl, HK.out, HO.out⟩
end Go.Proofs.Ytajcjepolfmhmaa
