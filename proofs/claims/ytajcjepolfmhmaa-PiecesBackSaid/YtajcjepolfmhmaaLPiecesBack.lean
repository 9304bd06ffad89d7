/- The row of PiecesBack. -/
import Derived.Test.YtajcjepolfmhmaaPcArg
import Derived.Test.YtajcjepolfmhmaaPcLaw
import Derived.Test.YtajcjepolfmhmaaPoolSame
import Derived.Test.YtajcjepolfmhmaaArg
import Derived.Test.YtajcjepolfmhmaaRows
import Derived.ProofKit
import Derived.OpenShut
import Derived.ShutString
import Derived.ChangeOld
import Derived.Below
import Derived.SizedLaws
namespace Go.Proofs.Ytajcjepolfmhmaa
open Go.ChangeShapes Go.WideShapes Go.ChangeAt Go.RowKit
open Go.ChangeMaps (open_string shut_string)
set_option linter.unusedVariables false
set_option linter.unusedSimpArgs false
namespace piecesBack
def Post (w : World) (e : Ending) (w' : World) : Prop := e = .returned (.bool true) ∧ Below w.heap.size w w'
theorem bs6_own : ∀ b ∈ bs6, b.own = 0 ∨ b.own = 1 := by decide
theorem slc_src {w : World} {t : TypeId} {A : Option Addr} {m c : Nat} {xs : List Value} (h : Slc w t 1 (.slice A m c) m xs) : Src w 1 A m xs := by
  obtain ⟨A', c', e, hs⟩ := h.src
  injection e with e1 e2 e3
  subst e1
  exact hs
theorem add_zero_ {A : Option Addr} (h : ∀ a, A = some a → a.spot = none) : A.map (·.add 0) = A := by
  cases A with
  | none => rfl
  | some a =>
    obtain ⟨b, o, s⟩ := a
    have := h _ rfl
    simp only at this
    subst this
    simp [Addr.add]
theorem slice_hi' (A : Option Addr) (n c N : Nat) (hA : ∀ a, A = some a → a.spot = none) (hN : N ≤ c) (W : World) : (Instr.slice 23 (.slice A n c) none (some (.int .i64 N)) none).run Try.prog W = .ok (.slice A N c) W := by
  have hu : Try.prog.underlying 23 = some (.slice (Try.prog.elem 23)) := by kernel_rfl
  have hz : ∀ W', (sizeOf (Try.prog.elem 23)).run Try.prog W' = .ok 1 W' := fun W' => by kernel_rfl
  rw [run_slice_h (ht := hu) (kh := .i64) (h := (N : Int)) (h0 := by omega) (h2 := by omega), hz]
  simp only [Result.andThen, sliced, Int.toNat_natCast, Nat.zero_mul, Nat.sub_zero, add_zero_ hA, ite_self]
theorem slice_lo (A : Option Addr) (n c N : Nat) (hN : N ≤ n) (hA : ∀ a, A = some a → a.spot = none) (hnc : n ≤ c) : ∃ A', (∀ W, (Instr.slice 23 (.slice A n c) (some (.int .i64 N)) none none).run Try.prog W = .ok (.slice A' (n - N) (c - N)) W) ∧ ∀ W L, Src W 1 A n (byteCells L) → Src W 1 A' (n - N) (byteCells (L.drop N)) := by
  have hu : Try.prog.underlying 23 = some (.slice (Try.prog.elem 23)) := by kernel_rfl
  have hz : ∀ W', (sizeOf (Try.prog.elem 23)).run Try.prog W' = .ok 1 W' := fun W' => by kernel_rfl
  refine ⟨if c = N then A else A.map (·.add (N * 1)), fun W => ?_, fun W L hs => ?_⟩
  · rw [run_slice_l (ht := hu) (kl := .i64) (l := (N : Int)) (h0 := by omega) (h1 := by omega), hz]
    simp only [Result.andThen, sliced, Int.toNat_natCast]
  · have hl : L.length = n := by simpa [byteCells] using hs.1
    by_cases e : c = N
    · rw [if_pos e]
      exact ⟨by simp [byteCells]; omega, .inl (by omega)⟩
    · rw [if_neg e, Nat.mul_one]
      refine ⟨by simp [byteCells]; omega, ?_⟩
      rcases hs.2 with h0 | ⟨ad, rfl, hc⟩
      · exact .inl (by omega)
      · obtain ⟨d, o, s⟩ := ad
        have := hA _ rfl
        simp only at this
        subst this
        refine .inr ⟨⟨d, o + N, none⟩, by rw [Option.map_some, Addr.add_lit], fun j u hu => ?_⟩
        have h2 := hc (N + j) u (by rw [← hu]; simp [byteCells, List.getElem?_drop])
        rw [Addr.add_lit] at h2 ⊢
        rw [Nat.add_assoc]; exact h2
theorem src_take' {w : World} {A : Option Addr} {n m : Nat} {L : List Int} (h : Src w 1 A m (byteCells L)) (hn : n ≤ m) : Src w 1 A n (byteCells (L.take n)) := by
  have hl : L.length = m := by simpa [byteCells] using h.1
  refine ⟨by simp [byteCells]; omega, ?_⟩
  rcases h.2 with h0 | ⟨ad, e, hc⟩
  · exact .inl (by omega)
  · refine .inr ⟨ad, e, fun j u hu => ?_⟩
    have hj : j < n := by
      have := (List.getElem?_eq_some_iff.1 hu).1
      simp [byteCells] at this
      omega
    refine hc j u ?_
    rw [← hu]
    simp [byteCells, List.getElem?_take_of_lt hj]
theorem both_parts (L a : List Int) (M nb N : Nat) (hL : L.length = nb) (ha : a.length = M) (hN : min M nb = N) : (L.take M ++ a.drop L.length).take N = L.take N ∧ (L.take M ++ a.drop L.length).drop N = a.drop N := by
  by_cases c : nb ≤ M
  · have e : L.take M = L := List.take_of_length_le (by omega)
    obtain rfl : N = L.length := by omega
    rw [e]
    exact ⟨by rw [List.take_left, List.take_of_length_le (Nat.le_refl _)], by rw [List.drop_left]⟩
  · have e : a.drop L.length = [] := List.drop_eq_nil_of_le (by omega)
    obtain rfl : N = M := by omega
    rw [e, List.append_nil]
    exact ⟨by rw [List.take_take, Nat.min_self], by rw [List.drop_eq_nil_of_le (by simp; omega), List.drop_eq_nil_of_le (by omega)]⟩
set_option maxRecDepth 100000 in
set_option maxHeartbeats 4000000 in
theorem walk2 (w : World) (A : Option Addr) (n cap : Nat) (ps : List Pc) (hl : ps.length = n) (hc : PsAt w A ps) (hok : ∀ x ∈ ps, x.ok) (ok : CapOk w A n cap) (bA : Option Addr) (nb bc : Nat) (L : List Int) (hL : L.length = nb) (hs : Src w 1 bA nb (byteCells L)) (okb : CapOk w bA nb bc) (hn9 : n ≤ 140737488351232) (hb9 : nb ≤ 140737488351232) :
    Calls Try.prog 3 #[.slice A n cap, .slice bA nb bc] w (Post w) := by
  have HC := Lib.hid hc
  have HL := Lib.hid hl
  have HOK := Lib.hid hok
  have OK := Lib.hid ok
  have OKB := Lib.hid okb
  have HS := Lib.hid hs
  have HLB := Lib.hid hL
  clear hc ok hok okb hs
  by_cases h16 : n ≤ 16
  · have d1 : decide (16 < (n : Int)) = false := decide_eq_false (by omega)
    by_cases h5 : nb ≤ 500
    · have d2 : decide (500 < (nb : Int)) = false := decide_eq_false (by omega)
      have hA0 : n = 0 → A = none ∨ ∃ b off, A = some ⟨b, off, none⟩ := fun _ => by
        cases A with
        | none => exact .inl rfl
        | some a => obtain ⟨b, off, s⟩ := a; have := (OK.out.2 _ rfl).1; simp only at this; subst this; exact .inr ⟨_, _, rfl⟩
      have SRC : ∀ W, Below w.heap.size w W → Src W 1 bA nb (byteCells L) := fun W b => HS.out.keep fun p hp _ => b.cell hp
      have HSRC := Lib.hid SRC
      have MY := fun W P (k : IsP W P bs6) (b : Below w.heap.size w W) => Lib.hid (mayl_any k bs6_bytes A n cap ps (HC.out.below b) HL.out h16 OK.out.1 hA0)
      have GA := fun W P (bs : List Bf) (k : IsP W P bs) (hb : ∀ b ∈ bs, b.bytes.length ≤ 65536) (b : Below w.heap.size w W) => Lib.hid (gather_any k hb A n cap ps HL.out h16 OK.out.1 (HC.out.below b) HOK.out hA0)
      have SC := fun W P (k : IsP W P bs6) (b : Below w.heap.size w W) (hP : ∀ i, P.all i → w.heap.size ≤ i) => Lib.hid (HLB.out ▸ scatter_any k bs6_bytes A n cap ps HL.out h16 OK.out.1 (HC.out.below b) (fun a e => ⟨Nat.lt_of_lt_of_le (OK.out.2 a e).2 b.size, fun h => by have := hP _ h; have := (OK.out.2 a e).2; omega⟩) hA0 1 bA bc L (by have := HLB.out; omega) (by rw [HLB.out]; exact OKB.out.1) (by rw [HLB.out]; exact HSRC.out W b) (fun a e => ⟨(OKB.out.2 a e).1, Nat.lt_of_lt_of_le (OKB.out.2 a e).2 b.size, fun h => by have := hP _ h; have := (OKB.out.2 a e).2; omega⟩))
      have LN := fun W (b : Below w.heap.size w W) => Lib.hid (len_any W A n cap ps HL.out h16 (HC.out.below b) (fun a e => Nat.lt_of_lt_of_le (OK.out.2 a e).2 b.size))
      clear hl hL SRC
      go_enter Try.func3, Try.ntmps3
      go_wp2_with (go_at_call 7; (with_reducible refine Calls.mono (awake_any _) ?_); rintro e w0 ⟨rfl, b0⟩; have B0 := Lib.hid b0; clear b0)
      go_at_call 8
      (with_reducible refine Calls.mono (both_any _) ?_)
      rintro e w1 ⟨P, r, rfl, kP, hall, b1⟩
      have K1 := Lib.hid kP
      have B1 := Lib.hid (Below.next B0.out b1)
      have ALL := Lib.hid (show ∀ i, P.all i → w.heap.size ≤ i from fun i h => Nat.le_trans B0.out.size (hall i h))
      clear kP b1 hall B0
      go_wp2_with fail
      go_at_call 9
      (with_reducible refine Calls.mono (MY _ _ K1.out B1.out).out ?_)
      rintro e w2 ⟨rb, rfl, hr, b2⟩
      have K2 := Lib.hid (K1.out.below b2)
      have B2 := Lib.hid (Below.next B1.out b2)
      have HR := Lib.hid hr
      clear b2 hr B1 K1
      cases rb with
      | false =>
        go_wp2_with fail
        go_at_call 10
        (with_reducible refine Calls.mono (SC _ _ K2.out B2.out ALL.out).out ?_)
        rintro e w3 ⟨rr, hr, rfl, k3, o3⟩
        obtain rfl : rr = (0, 1, bs6) := by
          rcases hr with ⟨-, h⟩ | ⟨h, -⟩ | ⟨h, -⟩
          · exact h
          · have := HR.out.2 h; cases this
          · have := HR.out.2 h; cases this
        have B3 := Lib.hid (Below.onlyF B2.out o3 (fun i h => ALL.out i (.inr (.inr h))))
        clear o3 k3 hr
        go_wp2_with fail
        go_ret
        exact ⟨rfl, B3.out⟩
      | true =>
        have ML := Lib.hid (HR.out.1 rfl)
        have AB := Lib.hid (all_by bs6_own ML.out)
        have SU := Lib.hid (scat_up bs6_bytes (by decide) L ML.out AB.out ps.length (Nat.le_refl _))
        have ML2 := Lib.hid ((mayL_alike SU.out.1 ps).1 ML.out)
        have GS := Lib.hid (gather_scat bs6_bytes (by decide) L ML.out AB.out ps.length (Nat.le_refl _))
        have GA1 := Lib.hid (gatherF_atP bs6_bytes ML.out ps.length (Nat.le_refl _))
        have GA2 := Lib.hid (gatherF_atP SU.out.2.1 ML2.out ps.length (Nat.le_refl _))
        go_wp2_with fail
        go_at_call 11
        (with_reducible refine Calls.mono (GA _ _ _ K2.out bs6_bytes B2.out).out ?_)
        rintro e w3 ⟨A3, M, c3, code, rfl, b3, hq⟩
        obtain ⟨rfl, hM, hs3, -⟩ : code = 0 ∧ M = (gatherF bs6 ps ps.length).length ∧ Slc w3 5 1 (.slice A3 M c3) M (byteCells (gatherF bs6 ps ps.length)) ∧ True := by
          rcases hq with ⟨h, -⟩ | ⟨-, h1, h2, h3, -⟩
          · exact (h ML.out).elim
          · exact ⟨h1, h2, h3, trivial⟩
        have K3 := Lib.hid (K2.out.below b3)
        have B3 := Lib.hid (Below.next B2.out b3)
        have S3 := Lib.hid hs3
        have HM := Lib.hid hM
        have atM : atP ps ps.length = M := by rw [← GA1.out, hM]
        have AM := Lib.hid atM
        have NO3 := Lib.hid (show ∀ g, (Value.slice A3 M c3).ownBlock = some g → ¬ P.own g ∧ g < w3.heap.size from fun g hg => ⟨fun h => by
          rcases hq with ⟨h, -⟩ | ⟨-, -, -, -, h5⟩
          · exact h ML.out
          · have := h5 g hg; have := K2.out.lt (.inr (.inr h)); omega, hs3.lt hg⟩)
        clear b3 hs3 hq B2 K2 hM atM
        go_wp2_with fail
        go_at_call 10
        (with_reducible refine Calls.mono (SC _ _ K3.out B3.out ALL.out).out ?_)
        rintro e w4 ⟨rr, hr, rfl, k4, o4⟩
        obtain ⟨N, hN⟩ : ∃ N, min M nb = N := ⟨_, rfl⟩
        obtain rfl : rr = ((N : Int), 0, scatF ps 1 L bs6 ps.length) := by
          rcases hr with ⟨h, -⟩ | ⟨-, h, -⟩ | ⟨-, -, h⟩
          · exact (h ML.out).elim
          · rw [AB.out] at h; cases h
          · rw [h, AM.out, HLB.out]
            have : (if (M : Int) < (nb : Int) then (M : Int) else (nb : Int)) = N := by split <;> omega
            rw [this]
        have K4 := Lib.hid k4
        have B4 := Lib.hid (Below.onlyF B3.out o4 (fun i h => ALL.out i (.inr (.inr h))))
        have S4 := Lib.hid (S3.out.only o4 (fun g hg => (NO3.out g hg).1))
        have NO4 := Lib.hid (show ∀ g, (Value.slice A3 M c3).ownBlock = some g → g < w4.heap.size from fun g hg => Nat.lt_of_lt_of_le (NO3.out g hg).2 o4.size)
        clear hr k4 o4 S3 K3 B3 NO3
        go_wp2_with fail
        go_at_call 11
        (with_reducible refine Calls.mono (GA _ _ _ K4.out SU.out.2.1 B4.out).out ?_)
        rintro e w5 ⟨A5, M5, c5, code, rfl, b5, hq⟩
        obtain ⟨rfl, hM5, hs5⟩ : code = 0 ∧ M5 = (gatherF (scatF ps 1 L bs6 ps.length) ps ps.length).length ∧ Slc w5 5 1 (.slice A5 M5 c5) M5 (byteCells (gatherF (scatF ps 1 L bs6 ps.length) ps ps.length)) := by
          rcases hq with ⟨h, -⟩ | ⟨-, h1, h2, h3, -⟩
          · exact (h ML2.out).elim
          · exact ⟨h1, h2, h3⟩
        obtain rfl : M5 = M := by
          have := GA2.out
          have := AM.out
          omega
        have B5 := Lib.hid (Below.next B4.out b5)
        have S5 := Lib.hid hs5
        have W5 := Lib.hid (S4.out.below b5 NO4.out)
        clear hq hM5 hs5 b5 S4 B4 K4
        have h0M : 0 < M5 := by
          obtain ⟨x, hx⟩ : ∃ x, ps[0]? = some x := ⟨_, List.getElem?_eq_getElem ML.out.2.1⟩
          have := mayL_at ML.out hx
          obtain ⟨_, _, _, _, h1, _⟩ := may1_of this
          have h2 := lenP_may bs6_bytes this
          have h3 := atP_mono ps ML.out.2.1
          have h4 : atP ps 1 = lenP x := by simp [atP, hx]
          have := AM.out
          omega
        have q1 : (if (M5 : Int) < (nb : Int) then (M5 : Int) else (nb : Int)) = N := by split <;> omega
        have q2 : (if M5 < nb then (M5 : Int) else (nb : Int)) = N := by split <;> omega
        have HN := Lib.hid hN
        clear hN
        go_wp2_with fail
        go_at_call 12
        (with_reducible refine Calls.mono (LN _ B5.out).out ?_)
        rintro e w6 ⟨rfl, b6⟩
        have B6 := Lib.hid (Below.next B5.out b6)
        have hat : atP ps n = M5 := by rw [← HL.out]; exact AM.out
        rw [hat]
        obtain ⟨g5, o5, cc5, e5, hc5, -, hg5, -⟩ := S5.out.at_ h0M
        injection e5 with e5 _ e6
        subst e5 e6
        obtain ⟨g3, o3, cc3, e3, hc3, -, hg3, -⟩ := W5.out.at_ h0M
        injection e3 with e3 _ e7
        subst e3 e7
        have X5 := Lib.hid (slc_src (S5.out.below b6 (fun g hg => S5.out.lt hg)))
        have X3 := Lib.hid (slc_src (W5.out.below b6 (fun g hg => W5.out.lt hg)))
        have hN := HN.out
        have sl1 := slice_hi' (some ⟨g5, o5, none⟩) M5 c5 N (fun a e => by cases e; rfl) (by omega)
        have sl2 := slice_hi' bA nb bc N (fun a e => (OKB.out.2 a e).1) (by have := OKB.out.1; omega)
        obtain ⟨A7, sl3, sr3⟩ := slice_lo (some ⟨g5, o5, none⟩) M5 c5 N (by omega) (fun a e => by cases e; rfl) hc5
        obtain ⟨A8, sl4, sr4⟩ := slice_lo (some ⟨g3, o3, none⟩) M5 c3 N (by omega) (fun a e => by cases e; rfl) hc3
        have hM6 := GA1.out
        have hM7 := AM.out
        have hM8 : (gatherF bs6 ps ps.length).length = M5 := by omega
        obtain ⟨E1, E2⟩ := both_parts L (gatherF bs6 ps ps.length) M5 nb N HLB.out hM8 hN
        have GS2 := GS.out
        rw [hM8] at GS2
        rw [← GS2] at E1 E2
        have hNm : N ≤ M5 := by omega
        have hNb : N ≤ nb := by omega
        have SM1 := fun W (b : Below w6.heap.size w6 W) => Lib.hid (show Calls Try.prog 13 #[.slice (some ⟨g5, o5, none⟩) N c5, .slice bA N bc] W fun e w' => e = .returned (.bool true) ∧ Below W.heap.size W w' from by
          have := same_any W (some ⟨g5, o5, none⟩) bA N N c5 bc _ _ (src_take' (X5.out.keep fun p hp _ => b.cell hp) hNm) (src_take' (HSRC.out _ (Below.next B6.out b)) hNb) (by omega) (by omega)
          rwa [decide_eq_true E1] at this)
        have SM2 := fun W (b : Below w6.heap.size w6 W) => Lib.hid (show Calls Try.prog 13 #[.slice A7 (M5 - N) (c5 - N), .slice A8 (M5 - N) (c3 - N)] W fun e w' => e = .returned (.bool true) ∧ Below W.heap.size W w' from by
          have hM9 : M5 - N ≤ 140737488351232 := by have := HL.out; have := atP_le ps ps.length; omega
          have := same_any W A7 A8 (M5 - N) (M5 - N) (c5 - N) (c3 - N) _ _ (sr3 _ _ (X5.out.keep fun p hp _ => b.cell hp)) (sr4 _ _ (X3.out.keep fun p hp _ => b.cell hp)) hM9 hM9
          rwa [decide_eq_true E2] at this)
        clear sr3 sr4 hM6 hM7 hM8 E1 E2 hN q1 q2 GS2 hat S5 W5 B5 b6
        go_wp2_with fail
        go_region_with (first
          | (go_at_call 13; (with_reducible refine Calls.mono (SM1 _ (Below.refl _ _).drew).out ?_); rintro e w7 ⟨rfl, b7⟩; have B7 : Hid (Below w6.heap.size w6 w7) := Lib.hid (Below.trans (Below.refl _ w6).drew b7); clear b7)
          | (go_at_call 13; (with_reducible refine Calls.mono (SM2 _ B7.out).out ?_); rintro e w8 ⟨rfl, b8⟩; have B8 := Lib.hid (Below.next B7.out b8); clear b8))
        go_wp2_with fail
        go_ret
        exact ⟨rfl, Below.next B6.out B8.out⟩
    · have d2 : decide (500 < (nb : Int)) = true := decide_eq_true (by omega)
      clear hl hL
      go_enter Try.func3, Try.ntmps3
      go_wp2_with (go_at_call 7; (with_reducible refine Calls.mono (awake_any _) ?_); rintro e w0 ⟨rfl, b0⟩; have B0 := Lib.hid b0; clear b0)
      go_ret
      exact ⟨rfl, B0.out⟩
  · have d1 : decide (16 < (n : Int)) = true := decide_eq_true (by omega)
    clear hl hL
    go_enter Try.func3, Try.ntmps3
    go_wp2_with (go_at_call 7; (with_reducible refine Calls.mono (awake_any _) ?_); rintro e w0 ⟨rfl, b0⟩; have B0 := Lib.hid b0; clear b0)
    go_ret
    exact ⟨rfl, B0.out⟩
theorem walk (w : World) (A0 : Option Addr) (n0 cap0 : Nat) (D0 : Nat → List Value) (w0 : Elems w [some .i64, some .u64, some .i64, some .i64] A0 n0 D0) (l0 : n0 * 32 ≤ 140737488351232) (ok : CapOk w A0 n0 cap0) (A1 : Option Addr) (n1 cap1 : Nat) (D1 : Nat → List Value) (w1 : Elems w [some .u8] A1 n1 D1) (l1 : n1 * 1 ≤ 140737488351232) (ok1 : CapOk w A1 n1 cap1) :
    Calls Try.prog 3 #[.slice A0 n0 cap0, .slice A1 n1 cap1] w fun e w' => e = .returned (.bool true) ∧ Below w.heap.size w w' := by
  obtain ⟨ps, hl, hc, hok⟩ := ps_of w0
  obtain ⟨U, hA, hU⟩ := ints_of w1
  exact walk2 w A0 n0 cap0 ps hl hc hok ok A1 n1 cap1 _ (by simp) (src_of_ints hA) ok1 (by omega) (by omega)
end piecesBack
namespace piecesBack
theorem own : ownKnob Try.prog.godebug = none := by kernel_rfl
set_option maxRecDepth 100000 in
theorem lifted (os : Os) (started : os.Started) (H : Type) (enc : TypeId × Value → H) :
    ReturnsInHanded {} Try.checked os 3 .any (Rows.piecesBackSpec.pre6 enc Try.prog Try.f3 Rows.piecesBackRow.domain false) (Rows.piecesBackSpec.post enc Try.prog Try.f3 false true false false) := by
  refine returnsInHanded_of_change_sized (C := Try.checked) own started (by kernel_rfl) Try.func3
    (ChangeSpec.witness6 (enc := enc) (C := Try.checked) false ⟨#[], #[.slice none 0 0, .slice none 0 0], []⟩ 8 (by kernel_rfl) (by kernel_rfl) (by kernel_rfl) (by kernel_rfl)) ?_
  intro W base args ds gs before hval0 hW hcnd hsz0 _
  have hsz : (DataW.weightsEach Try.prog (Try.f3.params.toList ++ Rows.piecesBackSpec.plain.varTypes Try.prog) (ds ++ gs)).all (· ≤ reachBytes) = true := hsz0
  have hval : ∀ (j : Nat) t v, Try.f3.params[j]? = some t → args[j]? = some v → Value.okWide Try.prog W .any base t v := hval0
  have hW' := hW
  obtain ⟨p, q, hA0, hV, rfl, hfz, hnd⟩ := hW
  have hA : DataW.TrodAll enc Try.prog W 0 (fun _ => true) true Try.f3.params.toList args.toList ds p := hA0
  rw [Try.params3] at hA hval hsz
  obtain ⟨v0, vs0, d0, ds0, p0, q0, hargs, rfl, rfl, h0, r0⟩ := trodAll_cons hA
  obtain ⟨v1, vs1, d1, ds1, p1, q1, rfl, rfl, rfl, h1, r1⟩ := trodAll_cons r0
  obtain ⟨rfl, rfl, rfl⟩ := trodAll_nil r1
  obtain rfl : args = #[v0, v1] := by cases args; simp_all
  obtain ⟨rfl, rfl⟩ := trodVars_none hV
  have y0 := arg_cap Try.underlying22 (hval 0 22 v0 rfl rfl)
  obtain ⟨A0, n0, cap0, D0, rfl, w0, m0, z0⟩ := arg_slice [some .i64, some .u64, some .i64, some .i64] Try.underlying22 6 (by kernel_rfl) (by kernel_rfl) (hval 0 22 v0 rfl rfl) h0
  have l0 : n0 * Try.prog.bytesOf 42 ≤ reachBytes := by
    rcases z0 with ⟨_, e⟩ | ⟨es, sp, e, el⟩
    · subst e; simp
    · subst e; subst el; exact Nat.le_trans (Nat.mul_le_mul_right _ (Nat.le_add_right _ _)) (sized_slice hsz (j := 0) (t := 22) (e := 42) rfl rfl Try.underlying22)
  have b0 : Try.prog.bytesOf 42 = 32 := by kernel_rfl
  rw [b0] at l0
  simp only [reachBytes] at l0
  clear z0 b0
  have y1 := arg_cap Try.underlying23 (hval 1 23 v1 rfl rfl)
  obtain ⟨A1, n1, cap1, D1, rfl, w1, m1, z1⟩ := arg_slice [some .u8] Try.underlying23 6 (by kernel_rfl) (by kernel_rfl) (hval 1 23 v1 rfl rfl) h1
  have l1 : n1 * Try.prog.bytesOf 5 ≤ reachBytes := by
    rcases z1 with ⟨_, e⟩ | ⟨es, sp, e, el⟩
    · subst e; simp
    · subst e; subst el; exact Nat.le_trans (Nat.mul_le_mul_right _ (Nat.le_add_right _ _)) (sized_slice hsz (j := 1) (t := 23) (e := 5) rfl rfl Try.underlying23)
  have b1 : Try.prog.bytesOf 5 = 1 := by kernel_rfl
  rw [b1] at l1
  simp only [reachBytes] at l1
  clear z1 b1
  clear hA0 hval0 hsz0 hsz
  refine (walk W A0 n0 cap0 D0 w0 l0 (y0 _ _ _ rfl) A1 n1 cap1 D1 w1 l1 (y1 _ _ _ rfl)).mono fun e W' ⟨he, bel⟩ => ?_
  subst he
  exact ⟨_, rfl, _, _, _, [], _, [], hW', trodAll_mk1 (shut_bool Try.underlying4 _), (trodAll_cons_mk (Below.trod laidOut (by kernel_rfl) (of_decide_eq_true (by kernel_rfl)) h0 bel (fun x hx => by simpa using hW'.lt x (by simp [hx]))) (trodAll_cons_mk (Below.trod laidOut (by kernel_rfl) (of_decide_eq_true (by kernel_rfl)) h1 bel (fun x hx => by simpa using hW'.lt x (by simp [hx]))) trodAll_mk0)), rfl, bel.frame _, fun h => by cases h⟩
theorem over : Rows.piecesBackRow.holds Try.pinned (OpenSpec.ofChange Rows.piecesBackSpec) :=
  OpenClaim.holds_of_wide 3 Try.f3 rfl rfl rfl rfl rfl rfl rfl ⟨rfl, rfl, rfl, rfl, rfl⟩ rfl rfl rfl rfl rfl (by kernel_rfl) Try.func3 (by kernel_rfl)
    (of_decide_eq_true (by kernel_rfl)) (by unfold Func.isWrapper; first | (rw [if_pos (by decide +kernel)]; kernel_rfl) | (rw [if_neg (by decide +kernel)]; exact ⟨rfl, rfl⟩))
    (fun os started H enc _ => lifted os started H enc)
end piecesBack
theorem piecesBack_holds : Rows.PiecesBackSaid := piecesBack.over
#print axioms piecesBack_holds
end Go.Proofs.Ytajcjepolfmhmaa
