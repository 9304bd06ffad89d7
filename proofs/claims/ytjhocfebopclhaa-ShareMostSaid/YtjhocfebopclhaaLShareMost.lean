/- ShareMost: in any span no more units are taken, one a tick, than the document's bound, whoever wants how many, and wherever the span begins. No condition. -/
import Derived.Test.YtjhocfebopclhaaShareLaw
import Derived.Test.YtjhocfebopclhaaStill
import Derived.Test.YtjhocfebopclhaaArg
import Derived.Test.YtjhocfebopclhaaRows
import Derived.ProofKit
import Derived.OpenShut
import Derived.ShutString
import Derived.ChangeOld
import Derived.Below
import Derived.SizedLaws
namespace Go.Proofs.Ytjhocfebopclhaa
open Go.ChangeShapes Go.WideShapes Go.ChangeAt Go.RowKit
open Go.ChangeMaps (open_string shut_string)
set_option linter.unusedVariables false
set_option linter.unusedSimpArgs false
namespace shareMost
/-- Behind t ticks: how many units were taken, and the meter; R: whether one is wanted. -/
def runM (b p f : Int) (R : Nat → Bool) : Nat → Int × Ms
  | 0 => (0, ⟨b, p, f, f, 0, 0⟩)
  | t + 1 => if R t then ((runM b p f R t).1 + (takeM (f + t) 1 (runM b p f R t).2).1.1, (takeM (f + t) 1 (runM b p f R t).2).2) else runM b p f R t
section
variable {b p f : Int} {R : Nat → Bool}
theorem run_no {t : Nat} (h : R t = false) : runM b p f R (t + 1) = runM b p f R t := by rw [runM, h]; rfl
theorem run_yes {t : Nat} (h : R t = true) : runM b p f R (t + 1) = ((runM b p f R t).1 + (takeM (f + t) 1 (runM b p f R t).2).1.1, (takeM (f + t) 1 (runM b p f R t).2).2) := by rw [runM, h]; rfl
theorem runs (m : mayM b p = true) (h0 : 0 ≤ f) (h1 : f ≤ 100) (t : Nat) (ht : t ≤ 1000) : NowM b p f (f + t) (runM b p f R t).2 := by
  induction t with
  | zero => simpa [runM] using NowM.new m h0 (by omega)
  | succ t ih =>
    have i := ih (by omega)
    cases hR : R t with
    | false => rw [run_no hR]; exact ⟨i.ok, i.hb, i.hp, i.hf, by have := i.t; omega⟩
    | true =>
      obtain ⟨k0, -, -, -, e, n⟩ := i.take 1 (by omega) (by omega)
      rw [run_yes hR, e]
      exact ⟨n.ok, n.hb, n.hp, n.hf, by simp only; omega⟩
def Far (b p f : Int) (R : Nat → Bool) (a t : Nat) : Prop :=
  (runM b p f R t).1 = (runM b p f R a).1 ∨ ((a : Int) / p ≤ (runM b p f R t).2.x ∧ (runM b p f R t).1 - (runM b p f R a).1 ≤ b * ((runM b p f R t).2.x - (a : Int) / p) + (runM b p f R t).2.k ∧ (runM b p f R t).2.x ≤ ((t : Int) - 1) / p)
theorem fars (m : mayM b p = true) (h0 : 0 ≤ f) (h1 : f ≤ 100) (a d : Nat) (ht : a + d ≤ 1000) :
    Far b p f R a (a + d) ∧ (runM b p f R a).1 ≤ (runM b p f R (a + d)).1 ∧ (runM b p f R (a + d)).1 ≤ (runM b p f R a).1 + d := by
  obtain ⟨m1, m2, m3, m4⟩ := mayM_iff.1 m
  induction d with
  | zero => exact ⟨.inl rfl, by simp, by simp⟩
  | succ d ih =>
    obtain ⟨i1, i2, i3⟩ := ih (by omega)
    have mono : (((a + d : Nat) : Int) - 1) / p ≤ (((a + d + 1 : Nat) : Int) - 1) / p := Int.ediv_le_ediv (by omega) (by omega)
    rw [← Nat.add_assoc]
    cases hR : R (a + d) with
    | false =>
      unfold Far at i1 ⊢
      rw [run_no hR]
      refine ⟨i1.imp id fun h => ⟨h.1, h.2.1, by omega⟩, i2, by omega⟩
    | true =>
      obtain ⟨k0, k1, k2, hk, e, n⟩ := (runs (R := R) m h0 h1 (a + d) (by omega)).take 1 (by omega) (by omega)
      have et : (f + ((a + d : Nat) : Int) - f) / p = (((a + d + 1 : Nat) : Int) - 1) / p := by congr 1; omega
      have ea : (a : Int) / p ≤ (((a + d + 1 : Nat) : Int) - 1) / p := Int.ediv_le_ediv (by omega) (by omega)
      rw [et] at hk e n
      unfold Far at i1 ⊢
      rw [run_yes hR, e]
      simp only
      generalize (((a + d + 1 : Nat) : Int) - 1) / p = X at *
      generalize (a : Int) / p = A at *
      have hnn : 0 ≤ b * (X - A) := Int.mul_nonneg (by omega) (by omega)
      refine ⟨.inr ⟨ea, ?_, Int.le_refl _⟩, by omega, by omega⟩
      rcases i1 with h | ⟨h2, h3, -⟩
      · omega
      · rcases hk with ⟨e1, e2⟩ | ⟨e1, e2⟩
        · rw [e1, e2]; omega
        · have h5 : b * ((runM b p f R (a + d)).2.x + 1 - A) ≤ b * (X - A) := Int.mul_le_mul_of_nonneg_left (by omega) (by omega)
          have h6 : b * ((runM b p f R (a + d)).2.x + 1 - A) = b * ((runM b p f R (a + d)).2.x - A) + b := by
            rw [show (runM b p f R (a + d)).2.x + 1 - A = ((runM b p f R (a + d)).2.x - A) + 1 by omega, Int.mul_add, Int.mul_one]
          have h7 := (runs (R := R) m h0 h1 (a + d) (by omega)).ok.k1
          rw [(runs (R := R) m h0 h1 (a + d) (by omega)).hb] at h7
          omega
/-- What the law asks at last. -/
theorem answer (m : mayM b p = true) (h0 : 0 ≤ f) (h1 : f ≤ 100) (a d n : Nat) (ht : a + d ≤ 1000) (hd : d ≤ n) (hn : n ≤ 1000) : (runM b p f R (a + d)).1 - (runM b p f R a).1 ≤ mostM b p n := by
  obtain ⟨m1, m2, m3, m4⟩ := mayM_iff.1 m
  have hm := (mostM_mono m (show (0 : Int) ≤ d by omega) (show (d : Int) ≤ n by omega) (by omega)).1
  refine Int.le_trans ?_ hm
  obtain ⟨i1, i2, i3⟩ := fars (R := R) m h0 h1 a d ht
  rw [mostM_yes m (by omega)]
  have u := upF_le d p (by omega) (by omega)
  have hp : 0 ≤ (upF d p + 1) * b := Int.mul_nonneg (by omega) (by omega)
  rcases i1 with h | ⟨x1, x2, x3⟩
  · omega
  · rcases Nat.eq_zero_or_pos d with h | h
    · subst h; simp only [Nat.add_zero] at *; omega
    · have e := upF_eq d p (by omega) (by omega)
      have e2 : ((d : Int) + p - 1) / p = ((d : Int) - 1) / p + 1 := by
        have := Int.add_mul_ediv_right ((d : Int) - 1) 1 (show p ≠ 0 by omega)
        rw [show (d : Int) - 1 + 1 * p = d + p - 1 by omega] at this
        exact this
      have e3 := (div_add (a : Int) ((d : Int) - 1) p (by omega) (by omega) (by omega)).2
      rw [show (a : Int) + ((d : Int) - 1) = ((a + d : Nat) : Int) - 1 by omega] at e3
      have hk := (runs (R := R) m h0 h1 (a + d) (by omega)).ok.k1
      rw [(runs (R := R) m h0 h1 (a + d) (by omega)).hb] at hk
      have h5 : b * ((runM b p f R (a + d)).2.x - (a : Int) / p + 1) ≤ b * (upF d p + 1) := Int.mul_le_mul_of_nonneg_left (by omega) (by omega)
      have h6 : b * ((runM b p f R (a + d)).2.x - (a : Int) / p + 1) = b * ((runM b p f R (a + d)).2.x - (a : Int) / p) + b := by rw [Int.mul_add, Int.mul_one]
      have h7 : b * (upF d p + 1) = (upF d p + 1) * b := Int.mul_comm _ _
      omega
end

def cl (a n t : Nat) : Nat := max a (min t (a + n))
def W0 (w : World) (b p x y : Int) : World := (w.alloc (.cells #[.int .u64 b, .int .u64 p] 24)).alloc (.cells #[.int .u16 x, .int .u16 y] 42)
theorem box2 (w : World) (b p x y : Int) (W : World) (h : Below ((w.alloc (.cells #[.int .u64 b, .int .u64 p] 24)).alloc (.cells #[.int .u16 x, .int .u16 y] 42)).heap.size ((w.alloc (.cells #[.int .u64 b, .int .u64 p] 24)).alloc (.cells #[.int .u16 x, .int .u16 y] 42)) W) :
    W.cell? ⟨w.heap.size, 0, none⟩ = some (.int .u64 b) ∧ W.cell? ⟨w.heap.size, 1, none⟩ = some (.int .u64 p) ∧ W.cell? ⟨w.heap.size + 1, 0, none⟩ = some (.int .u16 x) ∧ W.cell? ⟨w.heap.size + 1, 1, none⟩ = some (.int .u16 y) := by
  have k := ((Blk.new w 24 [.int .u64 b, .int .u64 p]).alloc (.cells #[.int .u16 x, .int .u16 y] 42)).below h (by simp; omega)
  have l : Blk ((w.alloc (.cells #[.int .u64 b, .int .u64 p] 24)).alloc (.cells #[.int .u16 x, .int .u16 y] 42)) (w.heap.size + 1) 42 [.int .u16 x, .int .u16 y] := by
    have := Blk.new (w.alloc (.cells #[.int .u64 b, .int .u64 p] 24)) 42 [.int .u16 x, .int .u16 y]
    simpa using this
  have l2 := l.below h (by simp)
  exact ⟨k.cell 0, k.cell 1, l2.cell 0, l2.cell 1⟩
def Rel' (w : World) (m B M : Nat) (b p x y : Int) (R : Nat → Bool) (sv tv : Value) (wr : World) : Prop :=
  ∃ (t : Nat) (S : Int), sv = .int .u64 S ∧ tv = .int .i64 t ∧ t ≤ 300 ∧ S = (runM b p 5 R (cl B M t)).1 - (runM b p 5 R B).1 ∧ IsM wr m (runM b p 5 R t).2 ∧ Below (W0 w b p x y).heap.size (W0 w b p x y) wr
set_option maxRecDepth 100000 in
set_option maxHeartbeats 8000000 in
theorem walk2 (w : World) (b p : Int) (bb : 0 ≤ b) (bb' : b ≤ 18446744073709551615) (bp : 0 ≤ p) (bp' : p ≤ 18446744073709551615) (A : Option Addr) (n cap : Nat) (U : Nat → Bool) (hA : Hid (BoolsAt w A n U)) (hn9 : n ≤ 140737488351232) (x : Int) (x0 : 0 ≤ x) (x1 : x ≤ 65535) (y : Int) (y0 : 0 ≤ y) (y1 : y ≤ 65535) :
    Calls Try.prog 4 #[.agg #[.int .u64 b, .int .u64 p], .slice A n cap, .agg #[.int .u16 x, .int .u16 y]] w fun e w' => e = .returned (.bool true) ∧ Below w.heap.size w w' := by
  have BOX := Lib.hid (box2 w b p x y)
  have c1 := fun W => mostM_any b p y W bb bb' bp bp' (by omega) (by omega)
  have c2 := fun W => rmostM_any b p y W bb bb' bp bp' (by omega) (by omega)
  generalize hMo : mostM b p y = mo at *
  clear hMo
  have M1 := fun W => Lib.hid (c1 W)
  have M2 := fun W => Lib.hid (c2 W)
  clear c1 c2
  cases h1 : mayM b p with
  | false =>
    have C1 := fun W => Lib.hid (newM_no b p 5 W bb bb' bp bp' (by omega) (by omega) h1)
    have c3 := fun W => rmaym_any b p W bb bb' bp bp'
    rw [h1] at c3
    have M3 := fun W => Lib.hid (c3 W)
    clear h1 c3
    go_enter Try.func4, Try.ntmps4
    go_wp2_with (first
        | (go_at_call 8; (with_reducible refine Calls.mono (awake_any _) ?_); rintro e w0 ⟨rfl, bel0⟩
           have HB := Lib.hid bel0; clear bel0; obtain ⟨q0, q1, q2, q3⟩ := BOX.out _ HB.out))
    have hs0 := HB.out.size
    simp only [World.size_alloc] at hs0
    have g0 := SubW.cell q0 (by omega)
    have g1 := SubW.cell q1 (by omega)
    refine wp_region_sub (by kernel_rfl) (by kernel_rfl) ?_
    repeat (go_big_quiet_step (first | (go_at_call 19; exact sub_call _ (M1 _).out) | (go_at_call 20; exact sub_call _ (M2 _).out)))
    refine wpQuiet_nil ?_
    intro _ hw'
    obtain ⟨⟨w5, hw5⟩, rfl⟩ := hw'
    have HB := Lib.hid (Below.next HB.out hw5)
    clear g0 g1 hw5 q0 q1 q2 q3 hs0
    obtain ⟨q0, q1, q2, q3⟩ := BOX.out _ HB.out
    go_wp2_with (first
        | (go_at_call 9; (with_reducible refine Calls.mono (C1 _).out ?_); rintro e w1 ⟨rfl, bel0⟩
           have HB := Lib.hid (Below.next HB.out bel0); clear bel0; obtain ⟨q0, q1, q2, q3⟩ := BOX.out _ HB.out)
        | (go_at_call 11; (with_reducible refine Calls.mono (M3 _).out ?_); rintro e w1 ⟨rfl, bel0⟩
           have HB := Lib.hid (Below.next HB.out bel0); clear bel0; obtain ⟨q0, q1, q2, q3⟩ := BOX.out _ HB.out))
    go_ret
    exact ⟨rfl, Below.next (((Below.refl _ _).alloc (Nat.le_refl _) _).alloc (by simp) _) HB.out⟩
  | true =>
    have C1 := fun W => Lib.hid (newM_any b p 5 W bb bb' bp bp' (by omega) (by omega) h1 (by omega))
    have B1 := Lib.hid h1
    obtain ⟨m1, m2, m3, m4⟩ := mayM_iff.1 h1
    clear h1
    obtain ⟨B, hB⟩ : ∃ B : Nat, x % 300 = (B : Int) := ⟨(x % 300).toNat, by omega⟩
    obtain ⟨M, hM⟩ : ∃ M : Nat, y % 300 = (M : Int) := ⟨(y % 300).toNat, by omega⟩
    have hB3 : B < 300 := by omega
    have hM3 : M < 300 := by omega
    go_enter Try.func4, Try.ntmps4
    go_wp2_with (first
        | (go_at_call 8; (with_reducible refine Calls.mono (awake_any _) ?_); rintro e w0 ⟨rfl, bel0⟩
           have HB := Lib.hid bel0; clear bel0; obtain ⟨q0, q1, q2, q3⟩ := BOX.out _ HB.out))
    have hs0 := HB.out.size
    simp only [World.size_alloc] at hs0
    have g0 := SubW.cell q0 (by omega)
    have g1 := SubW.cell q1 (by omega)
    refine wp_region_sub (by kernel_rfl) (by kernel_rfl) ?_
    repeat (go_big_quiet_step (first | (go_at_call 19; exact sub_call _ (M1 _).out) | (go_at_call 20; exact sub_call _ (M2 _).out)))
    refine wpQuiet_nil ?_
    intro _ hw'
    obtain ⟨⟨w5, hw5⟩, rfl⟩ := hw'
    have HB := Lib.hid (Below.next HB.out hw5)
    clear g0 g1 hw5 q0 q1 q2 q3 hs0
    obtain ⟨q0, q1, q2, q3⟩ := BOX.out _ HB.out
    go_wp2_with (first
        | (go_at_call 9; (with_reducible refine Calls.mono (C1 _).out ?_); rintro e w1 ⟨m, rfl, hb, kb, bel0⟩
           have hwm := Nat.le_trans HB.out.size hb
           have HB := Lib.hid (Below.next HB.out bel0); clear bel0; obtain ⟨q0, q1, q2, q3⟩ := BOX.out _ HB.out))
    rw [hB, hM]
    clear M1 M2 C1 hB hM
    obtain ⟨R, hR0⟩ : ∃ R : Nat → Bool, Hid (∀ t, R t = if n = 0 then true else U (t % n)) := ⟨_, fun t => rfl⟩
    go_loopw [14, 15] (fun sv tv wr => Hid (Rel' w m B M b p x y R sv tv wr)) (fun _ tv _ => 300 - (intOf tv).toNat)
    case atStart => exact ⟨0, 0, rfl, rfl, by omega, by rw [show cl B M 0 = B by unfold cl; omega]; omega, kb, HB.out⟩
    case round =>
      obtain ⟨t, S, rfl, rfl, ht, hS, hs, hbel⟩ := hrel
      have KS := Lib.hid hs
      have BEL := Lib.hid hbel
      obtain ⟨q0, q1, q2, q3⟩ := BOX.out _ hbel
      clear hs hbel kb HB
      have hB1 : B ≤ cl B M t := by unfold cl; omega
      have hB2 : cl B M t ≤ B + 300 := by unfold cl; omega
      obtain ⟨-, f1, f2⟩ := fars (f := 5) (R := R) B1.out (by omega) (by omega) B (cl B M t - B) (by omega)
      rw [show B + (cl B M t - B) = cl B M t by omega] at f1 f2
      have S0 : 0 ≤ S := by omega
      have S1 : S ≤ 300 := by omega
      have HS := Lib.hid hS
      clear hS f1 f2
      by_cases htn : t < 300
      · have ht3 : (t : Int) < 300 := by omega
        have hn := runs (f := 5) (R := R) B1.out (by omega) (by omega) t (by omega)
        by_cases hz : n = 0
        · subst hz
          have hR : R t = true := by rw [hR0.out t, if_pos rfl]
          have e := run_yes (b := b) (p := p) (f := 5) (R := R) (t := t) hR
          obtain ⟨k0, k1, k2, -, et, nt⟩ := hn.take 1 (by omega) (by omega)
          have c1 := fun W (kk : IsM W m (runM b p 5 R t).2) => takem_any kk hn.ok (5 + t) 1 (by omega) (by omega) (by omega) (by omega)
          rw [et] at c1 e
          have T1 := fun W kk => Lib.hid (c1 W kk)
          have E := Lib.hid e
          clear c1 et e hn nt
          generalize hv : min 1 (b - k0) = v at *
          have v0 : 0 ≤ v := by omega
          have v1 : v ≤ 1 := by omega
          have d1 : decide (1 < v) = false := decide_eq_false (by omega)
          by_cases hr : B ≤ t ∧ t < B + M
          · have d2 : (B : Int) ≤ t := by omega
            have d3 : (t : Int) < B + M := by omega
            have d4 : decide ((B : Int) ≤ t) = true := decide_eq_true d2
            have d5 : decide ((t : Int) < B + M) = true := decide_eq_true d3
            go_wp2_with (go_at_call 13; (with_reducible refine Calls.mono (T1 _ KS.out).out ?_); rintro e w2 ⟨rfl, k2, o2⟩
                         have HB2 := Lib.hid (Below.only BEL.out o2 hwm))
            go_roundw
            case rel =>
              refine ⟨t + 1, _, rfl, by go_num, by omega, ?_, by rw [E.out]; exact k2, HB2.out⟩
              have hS := HS.out
              rw [show cl B M t = t by unfold cl; omega] at hS
              rw [show cl B M (t + 1) = t + 1 by unfold cl; omega, E.out, hS]
              simp only; omega
            case measure => simp [intOf]; omega
          · rcases (show t < B ∨ (B ≤ t ∧ B + M ≤ t) by omega) with hr2 | ⟨hr2, hr3⟩
            · have d4 : decide ((B : Int) ≤ t) = false := decide_eq_false (by omega)
              go_wp2_with (go_at_call 13; (with_reducible refine Calls.mono (T1 _ KS.out).out ?_); rintro e w2 ⟨rfl, k2, o2⟩
                           have HB2 := Lib.hid (Below.only BEL.out o2 hwm))
              go_roundw
              case rel =>
                refine ⟨t + 1, _, rfl, by go_num, by omega, ?_, by rw [E.out]; exact k2, HB2.out⟩
                rw [show cl B M (t + 1) = cl B M t by unfold cl; omega]
                exact HS.out
              case measure => simp [intOf]; omega
            · have d4 : decide ((B : Int) ≤ t) = true := decide_eq_true (by omega)
              have d5 : decide ((t : Int) < B + M) = false := decide_eq_false (by omega)
              go_wp2_with (go_at_call 13; (with_reducible refine Calls.mono (T1 _ KS.out).out ?_); rintro e w2 ⟨rfl, k2, o2⟩
                           have HB2 := Lib.hid (Below.only BEL.out o2 hwm))
              go_roundw
              case rel =>
                refine ⟨t + 1, _, rfl, by go_num, by omega, ?_, by rw [E.out]; exact k2, HB2.out⟩
                rw [show cl B M (t + 1) = cl B M t by unfold cl; omega]
                exact HS.out
              case measure => simp [intOf]; omega
        · have hz2 : (0 : Int) < n := by omega
          have hmod : t % n < n := Nat.mod_lt _ (by omega)
          obtain ⟨ab, ao, rfl, hlt, hcw⟩ := hA.out.at_ hmod
          have hcell := ((Below.next (((Below.refl _ _).alloc (Nat.le_refl _) _).alloc (by simp) _) BEL.out).cell (p := ⟨ab, ao + t % n, none⟩) hlt).trans hcw
          cases hU : U (t % n) with
          | false =>
            rw [hU] at hcell
            have hR : R t = false := by rw [hR0.out t, if_neg hz, hU]
            have E := Lib.hid (run_no (b := b) (p := p) (f := 5) (R := R) (t := t) hR)
            clear hn
            go_wp2_with fail
            go_roundw
            case rel =>
              refine ⟨t + 1, S, rfl, by go_num, by omega, ?_, by rw [E.out]; exact KS.out, BEL.out⟩
              rw [HS.out]
              by_cases hr : B ≤ t ∧ t < B + M
              · rw [show cl B M (t + 1) = t + 1 by unfold cl; omega, E.out, show cl B M t = t by unfold cl; omega]
              · rw [show cl B M (t + 1) = cl B M t by unfold cl; omega]
            case measure => simp [intOf]; omega
          | true =>
            rw [hU] at hcell
            have hR : R t = true := by rw [hR0.out t, if_neg hz, hU]
            have e := run_yes (b := b) (p := p) (f := 5) (R := R) (t := t) hR
            obtain ⟨k0, k1, k2, -, et, nt⟩ := hn.take 1 (by omega) (by omega)
            have c1 := fun W (kk : IsM W m (runM b p 5 R t).2) => takem_any kk hn.ok (5 + t) 1 (by omega) (by omega) (by omega) (by omega)
            rw [et] at c1 e
            have T1 := fun W kk => Lib.hid (c1 W kk)
            have E := Lib.hid e
            clear c1 et e hn nt
            generalize hv : min 1 (b - k0) = v at *
            have v0 : 0 ≤ v := by omega
            have v1 : v ≤ 1 := by omega
            have d1 : decide (1 < v) = false := decide_eq_false (by omega)
            by_cases hr : B ≤ t ∧ t < B + M
            · have d2 : (B : Int) ≤ t := by omega
              have d3 : (t : Int) < B + M := by omega
              have d4 : decide ((B : Int) ≤ t) = true := decide_eq_true d2
              have d5 : decide ((t : Int) < B + M) = true := decide_eq_true d3
              go_wp2_with (go_at_call 13; (with_reducible refine Calls.mono (T1 _ KS.out).out ?_); rintro e w2 ⟨rfl, k2, o2⟩
                           have HB2 := Lib.hid (Below.only BEL.out o2 hwm))
              go_roundw
              case rel =>
                refine ⟨t + 1, _, rfl, by go_num, by omega, ?_, by rw [E.out]; exact k2, HB2.out⟩
                have hS := HS.out
                rw [show cl B M t = t by unfold cl; omega] at hS
                rw [show cl B M (t + 1) = t + 1 by unfold cl; omega, E.out, hS]
                simp only; omega
              case measure => simp [intOf]; omega
            · rcases (show t < B ∨ (B ≤ t ∧ B + M ≤ t) by omega) with hr2 | ⟨hr2, hr3⟩
              · have d4 : decide ((B : Int) ≤ t) = false := decide_eq_false (by omega)
                go_wp2_with (go_at_call 13; (with_reducible refine Calls.mono (T1 _ KS.out).out ?_); rintro e w2 ⟨rfl, k2, o2⟩
                             have HB2 := Lib.hid (Below.only BEL.out o2 hwm))
                go_roundw
                case rel =>
                  refine ⟨t + 1, _, rfl, by go_num, by omega, ?_, by rw [E.out]; exact k2, HB2.out⟩
                  rw [show cl B M (t + 1) = cl B M t by unfold cl; omega]
                  exact HS.out
                case measure => simp [intOf]; omega
              · have d4 : decide ((B : Int) ≤ t) = true := decide_eq_true (by omega)
                have d5 : decide ((t : Int) < B + M) = false := decide_eq_false (by omega)
                go_wp2_with (go_at_call 13; (with_reducible refine Calls.mono (T1 _ KS.out).out ?_); rintro e w2 ⟨rfl, k2, o2⟩
                             have HB2 := Lib.hid (Below.only BEL.out o2 hwm))
                go_roundw
                case rel =>
                  refine ⟨t + 1, _, rfl, by go_num, by omega, ?_, by rw [E.out]; exact k2, HB2.out⟩
                  rw [show cl B M (t + 1) = cl B M t by unfold cl; omega]
                  exact HS.out
                case measure => simp [intOf]; omega
      · have ht3 : ¬ (t : Int) < 300 := by omega
        have an := answer (f := 5) (R := R) B1.out (by omega) (by omega) B (cl B M t - B) M (by omega) (by unfold cl; omega) (by omega)
        rw [show B + (cl B M t - B) = cl B M t by omega] at an
        have M4 := fun W => Lib.hid (mostM_any b p M W bb bb' bp bp' (by omega) (by omega))
        generalize mostM b p M = mm at *
        have d1 : decide (S ≤ mm) = true := decide_eq_true (by have := HS.out; omega)
        go_wp2_with (go_at_call 19; (with_reducible refine Calls.mono (M4 _).out ?_); rintro e w3 ⟨rfl, bel0⟩
                     have HB := Lib.hid (Below.next BEL.out bel0))
        go_ret
        exact ⟨rfl, Below.next (((Below.refl _ _).alloc (Nat.le_refl _) _).alloc (by simp) _) HB.out⟩
theorem walk (w : World) (cs : List Value) (ws : AllOk [some .u64, some .u64] cs) (A : Option Addr) (n cap : Nat) (D : Nat → List Value) (w2 : Elems w [none] A n D) (hl : n * 1 ≤ 140737488351232) (ds : List Value) (vs : AllOk [some .u16, some .u16] ds) :
    Calls Try.prog 4 #[.agg ⟨cs⟩, .slice A n cap, .agg ⟨ds⟩] w fun e w' => e = .returned (.bool true) ∧ Below w.heap.size w w' := by
  obtain ⟨b, p, rfl, b1, b2, b3, b4⟩ := shareOf ws
  obtain ⟨_, _, rfl, ⟨x, rfl, wx⟩, ⟨y, rfl, wy⟩⟩ := pair_of vs
  obtain ⟨U, hA⟩ := bools_of w2
  exact walk2 w b p b1 b2 b3 b4 A n cap U hA (by omega) x (bounds_u16 wx).1 (bounds_u16 wx).2 y (bounds_u16 wy).1 (bounds_u16 wy).2
end shareMost
namespace shareMost
theorem own : ownKnob Try.prog.godebug = none := by kernel_rfl
set_option maxRecDepth 100000 in
theorem lifted (os : Os) (started : os.Started) (H : Type) (enc : TypeId × Value → H) :
    ReturnsInHanded {} Try.checked os 4 .any (Rows.shareMostSpec.pre6 enc Try.prog Try.f4 Rows.shareMostRow.domain false) (Rows.shareMostSpec.post enc Try.prog Try.f4 false true false false) := by
  refine returnsInHanded_of_change_sized (C := Try.checked) own started (by kernel_rfl) Try.func4
    (ChangeSpec.witness6 (enc := enc) (C := Try.checked) false ⟨#[], #[.agg #[.int .u64 0, .int .u64 0], .slice none 0 0, .agg #[.int .u16 0, .int .u16 0]], []⟩ 8 (by kernel_rfl) (by kernel_rfl) (by kernel_rfl) (by kernel_rfl)) ?_
  intro W base args ds gs before hval0 hW hcnd hsz0 _
  have hsz : (DataW.weightsEach Try.prog (Try.f4.params.toList ++ Rows.shareMostSpec.plain.varTypes Try.prog) (ds ++ gs)).all (· ≤ reachBytes) = true := hsz0
  have hval : ∀ (j : Nat) t v, Try.f4.params[j]? = some t → args[j]? = some v → Value.okWide Try.prog W .any base t v := hval0
  have hW' := hW
  obtain ⟨p, q, hA0, hV, rfl, hfz, hnd⟩ := hW
  have hA : DataW.TrodAll enc Try.prog W 0 (fun _ => true) true Try.f4.params.toList args.toList ds p := hA0
  rw [Try.params4] at hA hval hsz
  obtain ⟨v0, vs0, d0, ds0, p0, q0, hargs, rfl, rfl, h0, r0⟩ := trodAll_cons hA
  obtain ⟨v1, vs1, d1, ds1, p1, q1, rfl, rfl, rfl, h1, r1⟩ := trodAll_cons r0
  obtain ⟨v2, vs2, d2, ds2, p2, q2, rfl, rfl, rfl, h2, r2⟩ := trodAll_cons r1
  obtain ⟨rfl, rfl, rfl⟩ := trodAll_nil r2
  obtain rfl : args = #[v0, v1, v2] := by cases args; simp_all
  obtain ⟨rfl, rfl⟩ := trodVars_none hV
  obtain ⟨c0, rfl, w0⟩ := arg_agg [some .u64, some .u64] (by first | exact .inl ⟨_, Try.underlying24⟩ | exact .inr ⟨_, _, Try.underlying24⟩) 6 (by kernel_rfl) (by kernel_rfl) (hval 0 24 v0 rfl rfl) h0
  obtain ⟨A1, n1, cap1, D1, rfl, w1, m1, z1⟩ := arg_slice [none] Try.underlying40 6 (by kernel_rfl) (by kernel_rfl) (hval 1 40 v1 rfl rfl) h1
  have l1 : n1 * Try.prog.bytesOf 4 ≤ reachBytes := by
    rcases z1 with ⟨_, e⟩ | ⟨es, sp, e, el⟩
    · subst e; simp
    · subst e; subst el; exact Nat.le_trans (Nat.mul_le_mul_right _ (Nat.le_add_right _ _)) (sized_slice hsz (j := 1) (t := 40) (e := 4) rfl rfl Try.underlying40)
  have b1 : Try.prog.bytesOf 4 = 1 := by kernel_rfl
  rw [b1] at l1
  simp only [reachBytes] at l1
  clear z1 b1
  obtain ⟨c2, rfl, w2⟩ := arg_agg [some .u16, some .u16] (by first | exact .inl ⟨_, Try.underlying42⟩ | exact .inr ⟨_, _, Try.underlying42⟩) 6 (by kernel_rfl) (by kernel_rfl) (hval 2 42 v2 rfl rfl) h2
  clear hA0 hval0 hsz0 hsz
  refine (walk W c0 w0 A1 n1 cap1 D1 w1 l1 c2 w2).mono fun e W' ⟨he, bel⟩ => ?_
  subst he
  exact ⟨_, rfl, _, _, _, [], _, [], hW', trodAll_mk1 (shut_bool Try.underlying4 _), (trodAll_cons_mk (Below.trod laidOut (by kernel_rfl) (of_decide_eq_true (by kernel_rfl)) h0 bel (fun x hx => by simpa using hW'.lt x (by simp [hx]))) (trodAll_cons_mk (Below.trod laidOut (by kernel_rfl) (of_decide_eq_true (by kernel_rfl)) h1 bel (fun x hx => by simpa using hW'.lt x (by simp [hx]))) (trodAll_cons_mk (Below.trod laidOut (by kernel_rfl) (of_decide_eq_true (by kernel_rfl)) h2 bel (fun x hx => by simpa using hW'.lt x (by simp [hx]))) trodAll_mk0))), rfl, bel.frame _, fun h => by cases h⟩
theorem over : Rows.shareMostRow.holds Try.pinned (OpenSpec.ofChange Rows.shareMostSpec) :=
  OpenClaim.holds_of_wide 4 Try.f4 rfl rfl rfl rfl rfl rfl rfl ⟨rfl, rfl, rfl, rfl, rfl⟩ rfl rfl rfl rfl rfl (by kernel_rfl) Try.func4 (by kernel_rfl)
    (of_decide_eq_true (by kernel_rfl)) (by unfold Func.isWrapper; first | (rw [if_pos (by decide +kernel)]; kernel_rfl) | (rw [if_neg (by decide +kernel)]; exact ⟨rfl, rfl⟩))
    (fun os started H enc _ => lifted os started H enc)
end shareMost
theorem shareMost_holds : Rows.ShareMostSaid := shareMost.over
#print axioms shareMost_holds
end Go.Proofs.Ytjhocfebopclhaa
