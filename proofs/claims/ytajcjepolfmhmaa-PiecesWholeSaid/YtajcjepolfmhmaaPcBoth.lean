/- Layer 8 (pieces): classes and both of the law. -/
import Derived.Test.YtajcjepolfmhmaaRefPoolC
import Derived.Test.YtajcjepolfmhmaaPiecesI
namespace Go.Proofs.Ytajcjepolfmhmaa
open Go.RowKit
set_option linter.unusedVariables false
set_option linter.unusedSimpArgs false
theorem RefP.only {w w' : World} {base p : Nat} {ls : List Nat} {F : Nat → Prop} (k : RefP w base p ls) (o : Only F w w') (hF : ∀ x, F x → x < base) : RefP w' base p ls := by
  obtain ⟨g, o', f, b, G, O, Fv, B, k, h1⟩ := k
  refine ⟨g, o', f, b, G, O, Fv, B, ⟨k.blk.only o (fun e => ?_), k.rg.only o (fun x e h => ?_), k.ro.only o (fun x e h => ?_), k.rf.only o (fun x e h => ?_), k.rb.only o (fun x e h => ?_), k.of, k.bp, k.bo⟩, h1⟩
  · have := hF _ e; have := k.bp; omega
  · have := hF _ h; have := k.bo x (.inl e); omega
  · have := hF _ h; have := k.bo x (.inr (.inl e)); omega
  · have := hF _ h; have := k.bo x (.inr (.inr (.inl e))); omega
  · have := hF _ h; have := k.bo x (.inr (.inr (.inr e))); omega
theorem Only.of_grown2 {B : Nat} {w w' : World} (h : Below B w w') : Only (fun x => B ≤ x) w w' := ⟨h.os, h.tape, h.output, h.size, fun i _ hn => h.block i (by omega)⟩
def clS (i : Nat) : Int := if i = 0 then 8 else 20
def clC (i : Nat) : Int := 3
theorem classes_any (w : World) : Calls Try.prog 20 #[] w fun e w' => e = .returned (.slice (some ⟨w.heap.size, 0, none⟩) 2 2) ∧ Cls w' (some ⟨w.heap.size, 0, none⟩) 2 clS clC ∧ Below w.heap.size w w' := by
  have B := Lib.hid ((Below.refl w.heap.size w).alloc (Nat.le_refl _) (.cells #[.int .i64 8, .int .i64 3, .int .i64 20, .int .i64 3] 48))
  have C : Hid (Cls (w.alloc (.cells #[.int .i64 8, .int .i64 3, .int .i64 20, .int .i64 3] 48)) (some ⟨w.heap.size, 0, none⟩) 2 clS clC) := fun i hi => by
    have K := Blk.new w 48 [.int .i64 8, .int .i64 3, .int .i64 20, .int .i64 3]
    rcases (show i = 0 ∨ i = 1 by omega) with rfl | rfl
    · exact ⟨_, 0, rfl, K.lt, K.cell 0, K.cell 1⟩
    · exact ⟨_, 0, rfl, K.lt, K.cell 2, K.cell 3⟩
  go_enter Try.func20, Try.ntmps20
  go_wp2_with fail
  go_ret
  exact ⟨rfl, C.out, B.out⟩
theorem cl_may : mayC 2 clS clC := by
  refine ⟨by omega, by omega, fun i hi => ?_⟩
  rcases (show i = 0 ∨ i = 1 by omega) with rfl | rfl <;> decide
/-- The buffers, as so many were got. -/
def bsK : Nat → List Bf
  | 0 => bufsOf clS clC 2
  | k + 1 => (getP (1 + (5 * (k : Int)) % 12) (bsK k)).2
theorem bsK_len (k : Nat) (h : k ≤ 4) : (bsK k).length = 6 := by
  rcases (show k = 0 ∨ k = 1 ∨ k = 2 ∨ k = 3 ∨ k = 4 by omega) with rfl | rfl | rfl | rfl | rfl <;> decide
theorem bsK_bytes (k : Nat) (h : k ≤ 4) : ∀ b ∈ bsK k, b.bytes.length ≤ 65536 := by
  rcases (show k = 0 ∨ k = 1 ∨ k = 2 ∨ k = 3 ∨ k = 4 by omega) with rfl | rfl | rfl | rfl | rfl <;> decide
theorem bsK_code (k : Nat) (h : k < 4) : (getP (1 + (5 * (k : Int)) % 12) (bsK k)).1.2.2 = 0 := by
  rcases (show k = 0 ∨ k = 1 ∨ k = 2 ∨ k = 3 by omega) with rfl | rfl | rfl | rfl <;> decide
def zer (n : Nat) : List Int := List.replicate n 0
/-- What both tells: four were got. -/
def bs6 : List Bf := [⟨1, 1, 1, zer 8⟩, ⟨1, 1, 1, zer 8⟩, ⟨1, 1, 1, zer 8⟩, ⟨1, 1, 1, zer 20⟩, ⟨1, 0, 0, zer 20⟩, ⟨1, 0, 0, zer 20⟩]
theorem bsK_4 : bsK 4 = bs6 := by rfl
def RelBo (w : World) (P : Pl) (base r : Nat) (ls : List Nat) (iv : Value) (wr : World) : Prop :=
  ∃ i : Nat, iv = .int .i64 i ∧ i ≤ 4 ∧ IsP wr P (bsK i) ∧ RefP wr base r ls ∧ Below w.heap.size w wr ∧ base ≤ wr.heap.size
def BoPost (w : World) (e : Ending) (w' : World) : Prop := ∃ P r, e = .returned (.tuple #[.pointer (some ⟨P.p, 0, none⟩), .pointer (some ⟨r, 0, none⟩)]) ∧ IsP w' P bs6 ∧ (∀ i, P.all i → w.heap.size ≤ i) ∧ Below w.heap.size w w'
set_option maxRecDepth 100000 in
set_option maxHeartbeats 2000000 in
theorem both_any (w : World) : Calls Try.prog 8 #[] w (BoPost w) := by
  have CL := fun W => Lib.hid (classes_any W)
  have HM := Lib.hid cl_may
  have HS : Hid (∀ i, i < 2 → -9223372036854775808 ≤ clS i ∧ clS i ≤ 9223372036854775807 ∧ -9223372036854775808 ≤ clC i ∧ clC i ≤ 9223372036854775807) := fun i hi => by
    rcases (show i = 0 ∨ i = 1 by omega) with rfl | rfl <;> decide
  go_enter Try.func8, Try.ntmps8
  go_wp2_with fail
  go_at_call 20
  (with_reducible refine Calls.mono (CL _).out ?_)
  rintro e w1 ⟨rfl, hcl, b1⟩
  have B1 := Lib.hid b1
  have C1 := Lib.hid hcl
  clear b1 hcl
  go_wp2_with fail
  go_at_call 15
  (with_reducible refine Calls.mono (newc_any w1 _ 2 2 clS clC C1 HS (by omega) HM) ?_)
  rintro e w2 ⟨p, rfl, P, rfl, kP, hall, b2⟩
  have KP := Lib.hid kP
  have ALL := Lib.hid (show ∀ i, P.all i → w.heap.size ≤ i from fun i h => Nat.le_trans B1.out.size (hall i h))
  have PLT := Lib.hid (show ∀ i, P.all i → i < w2.heap.size from fun i h => kP.lt h)
  have B2 := Lib.hid (Below.next B1.out b2)
  clear kP hall b2 C1
  go_wp2_with fail
  go_at_call 20
  (with_reducible refine Calls.mono (CL _).out ?_)
  rintro e w3 ⟨rfl, hcl, b3⟩
  have B3 := Lib.hid (Below.next B2.out b3)
  have C3 := Lib.hid hcl
  have K3 := Lib.hid (KP.out.below b3)
  have SZ3 := b3.size
  have SZW := B3.out.size
  clear b3 hcl B1
  go_wp2_with fail
  go_at_call 21
  (with_reducible refine Calls.mono (rnew07_any w3 _ 2 2 clS clC C3 (by omega) HM) ?_)
  rintro e w4 ⟨r, rfl, kR, b4⟩
  have B4 := Lib.hid (Below.next B3.out b4)
  have KR := Lib.hid kR
  have K4 := Lib.hid (K3.out.below b4)
  have SZ4 := b4.size
  clear b4 kR K3 C3 B2 B3
  go_wp2_with fail
  go_loopw [5] (fun iv wr => Hid (RelBo w P w3.heap.size r (lensOf (bufsOf clS clC 2)) iv wr)) (fun iv _ => 4 - (intOf iv).toNat)
  case atStart => exact ⟨0, rfl, by omega, K4.out, KR.out, B4.out, SZ4⟩
  case round =>
    obtain ⟨i, rfl, hi, kp, kr, hb, hsz⟩ := hrel
    have KI := Lib.hid kp
    have KRI := Lib.hid kr
    have HB := Lib.hid hb
    clear kp kr hb K4 KR B4
    by_cases hin : i < 4
    · have GP := Lib.hid (getp_any KI.out (bsK_bytes i (by omega)) (by rw [bsK_len i (by omega)]; omega) (1 + (5 * (i : Int)) % 12))
      have CD := bsK_code i hin
      have NX := Lib.hid (show bsK (i + 1) = (getP (1 + (5 * (i : Int)) % 12) (bsK i)).2 from rfl)
      rw [CD] at GP
      rw [← NX.out] at GP
      have GS : ∀ s, 1 + (5 * (i : Int)) % 12 = s → Hid (Calls Try.prog 18 #[.pointer (some ⟨P.p, 0, none⟩), .int .i64 s] wr fun e w' => ∃ h g, e = .returned (.tuple #[.agg #[.int .i64 h, .int .u64 g], .int .i64 0]) ∧ IsP w' P (bsK (i + 1)) ∧ Only P.own wr w') := fun s e => by
        subst e
        exact GP.out.mono fun _ _ h => ⟨_, _, h⟩
      have RG : ∀ W s, Hid (RefP W w3.heap.size r (lensOf (bufsOf clS clC 2)) → w3.heap.size ≤ W.heap.size → 1 ≤ s → s ≤ ((20 : Nat) : Int) → Calls Try.prog 22 #[.pointer (some ⟨r, 0, none⟩), .int .i64 s] W (RGet W w3.heap.size r (lensOf (bufsOf clS clC 2)))) := fun W s k hb h1 h2 =>
        rget07_any W w3.heap.size r (lensOf (bufsOf clS clC 2)) k hb 5 20 (by decide) (by omega) (show _ = _ from by decide) (show ∀ m ∈ lensOf (bufsOf clS clC 2), m ≤ 65536 from by decide) s h1 h2
      generalize lensOf (bufsOf clS clC 2) = ls at *
      clear GP CD NX
      rcases (show i = 0 ∨ i = 1 ∨ i = 2 ∨ i = 3 by omega) with rfl | rfl | rfl | rfl
      all_goals
        go_wp2_with fail
        (with_reducible refine Calls.mono (GS _ (by decide)).out ?_)
        rintro e w5 ⟨h, g, rfl, k5, o5⟩
        have K5 := Lib.hid (k5.alloc (.cells #[.int .i64 h, .int .u64 g] 40))
        have KR5 := Lib.hid ((KRI.out.only o5 (fun x hx => Nat.lt_of_lt_of_le (PLT.out x (.inr (.inr hx))) SZ3)).keep ((Below.refl _ _).alloc (Nat.le_refl _) (.cells #[.int .i64 h, .int .u64 g] 40)))
        have B5 := Lib.hid ((Below.onlyF HB.out o5 (fun x hx => ALL.out x (.inr (.inr hx)))).alloc (Nat.le_trans HB.out.size o5.size) (.cells #[.int .i64 h, .int .u64 g] 40))
        have hsz5 : w3.heap.size ≤ (w5.alloc (.cells #[.int .i64 h, .int .u64 g] 40)).heap.size := by have := o5.size; simp; omega
        have PL5 := Lib.hid (show ∀ x, P.all x → x < w3.heap.size from fun x hx => Nat.lt_of_lt_of_le (PLT.out x hx) SZ3)
        clear k5 o5
        go_wp2_with fail
        (with_reducible refine Calls.mono ((RG _ _).out KR5.out hsz5 (by decide) (by decide)) ?_)
        rintro e w6 ⟨hv, c, rfl, k6, b6⟩
        have K6 := Lib.hid (K5.out.only (Only.of_grown2 b6) (fun x hx h => by have := PL5.out x h; omega))
        have KR6 := Lib.hid k6
        have B6 := Lib.hid (B5.out.trans (b6.mono SZW))
        have S6 := b6.size
        clear k6 b6
        go_wp2_with fail
        go_roundw
        case rel => exact ⟨_, by go_num, by omega, K6.out, KR6.out, B6.out, by omega⟩
        case measure => simp [intOf]
    · obtain rfl : i = 4 := by omega
      have hin2 : ¬ ((4 : Nat) : Int) < 4 := by omega
      go_wp2_with fail
      go_ret2
      have := KI.out
      rw [bsK_4] at this
      exact ⟨P, r, rfl, this, ALL.out, HB.out⟩
end Go.Proofs.Ytajcjepolfmhmaa
