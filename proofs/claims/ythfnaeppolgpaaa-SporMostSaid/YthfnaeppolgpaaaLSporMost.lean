/- SporMost: in any span of a period no more than the budget is used; in any span no more than the document's bound, one a tick, whenever it is tried. No condition. -/
import Derived.Test.YthfnaeppolgpaaaSporLaw
import Derived.Test.YthfnaeppolgpaaaArg
import Derived.Test.YthfnaeppolgpaaaRows
import Derived.ProofKit
import Derived.OpenShut
import Derived.ShutString
import Derived.ChangeOld
import Derived.Below
import Derived.SizedLaws
namespace Go.Proofs.Ythfnaeppolgpaaa
open Go.ChangeShapes Go.WideShapes Go.ChangeAt Go.RowKit
open Go.ChangeMaps (open_string shut_string)
set_option linter.unusedVariables false
set_option linter.unusedSimpArgs false
namespace sporMost
theorem left_at (s : Bs) (T : Int) (h1 : T < 4611686018427387904) (h2 : s.now ≤ T) : leftB T s = ((s.u - ((s.back.dropWhile (· ≤ T)).length : Int), 0), { s with back := s.back.dropWhile (· ≤ T), now := T }) := by
  unfold leftB; rw [if_neg (by omega), if_neg (by omega)]
theorem use_at (s : Bs) (T : Int) (h1 : T < 4611686018427387904) (h2 : s.now ≤ T) :
    useB T s = ((false, 0), { s with back := s.back.dropWhile (· ≤ T), now := T }) ∨ useB T s = ((true, 0), { s with back := s.back.dropWhile (· ≤ T) ++ [T + s.p], now := T }) := by
  unfold useB; rw [left_at s T h1 h2]
  by_cases h : s.u - ((s.back.dropWhile (· ≤ T)).length : Int) = 0
  · exact .inl (by rw [if_pos h])
  · exact .inr (by rw [if_neg h])
theorem filter_drop (l : List Int) (T y : Int) (h : T < y) : (l.dropWhile (· ≤ T)).filter (y ≤ ·) = l.filter (y ≤ ·) := by
  induction l with
  | nil => rfl
  | cons x l ih =>
    by_cases hx : x ≤ T
    · rw [List.dropWhile_cons_of_pos (by simpa using hx), ih, List.filter_cons_of_neg (by simp; omega)]
    · rw [List.dropWhile_cons_of_neg (by simpa using hx)]
/-- Behind t ticks: how many units were used, and the budget; R: whether it is tried. -/
def runS (u p : Int) (R : Nat → Bool) : Nat → Int × Bs
  | 0 => (0, ⟨u, p, [], 0⟩)
  | t + 1 => if R t then ((runS u p R t).1 + (if (useB t (runS u p R t).2).1.1 then 1 else 0), (useB t (runS u p R t).2).2) else runS u p R t
section
variable {u p : Int} {R : Nat → Bool}
theorem run_no {t : Nat} (h : R t = false) : runS u p R (t + 1) = runS u p R t := by rw [runS, h]; rfl
theorem run_yes {t : Nat} (h : R t = true) : runS u p R (t + 1) = ((runS u p R t).1 + (if (useB t (runS u p R t).2).1.1 then 1 else 0), (useB t (runS u p R t).2).2) := by rw [runS, h]; rfl
structure Inv (u p : Int) (R : Nat → Bool) (t : Nat) : Prop where
  ok : (runS u p R t).2.ok
  hu : (runS u p R t).2.u = u
  hp : (runS u p R t).2.p = p
  now : (runS u p R t).2.now ≤ t
  cnt : ∀ a : Nat, a ≤ t → (t : Int) ≤ a + p → (runS u p R t).1 - (runS u p R a).1 ≤ (((runS u p R t).2.back.filter ((a : Int) + p ≤ ·)).length : Int)
theorem inv (m : mayS u p = true) (t : Nat) (ht : t ≤ 1000) : Inv u p R t := by
  induction t with
  | zero =>
    refine ⟨b0_ok m, rfl, rfl, by simp [runS], fun a ha _ => ?_⟩
    obtain rfl : a = 0 := by omega
    rw [Int.sub_self]; omega
  | succ t ih =>
    have I := ih (by omega)
    obtain ⟨ok, hu, hp, now, cnt⟩ := I
    cases hR : R t with
    | false =>
      have e := run_no (u := u) (p := p) hR
      refine ⟨by rw [e]; exact ok, by rw [e]; exact hu, by rw [e]; exact hp, by rw [e]; omega, fun a ha hb => ?_⟩
      rcases Nat.lt_or_ge t a with h | h
      · obtain rfl : a = t + 1 := by omega
        rw [Int.sub_self]; omega
      · rw [e]; exact cnt a h (by omega)
    | true =>
      have e := run_yes (u := u) (p := p) hR
      have okn := useB_ok ok t (by omega)
      have key : ∀ a : Nat, a ≤ t → ((t + 1 : Nat) : Int) ≤ a + p → (((runS u p R t).2.back.dropWhile (· ≤ (t : Int))).filter ((a : Int) + p ≤ ·)) = ((runS u p R t).2.back.filter ((a : Int) + p ≤ ·)) := fun a _ hb => filter_drop _ _ _ (by omega)
      rcases use_at (runS u p R t).2 t (by omega) now with h | h
      · rw [h] at e okn
        simp only [Bool.false_eq_true, if_false, Int.add_zero] at e
        refine ⟨by rw [e]; exact okn, by rw [e]; exact hu, by rw [e]; exact hp, by rw [e]; simp only; omega, fun a ha hb => ?_⟩
        rcases Nat.lt_or_ge t a with h | h
        · obtain rfl : a = t + 1 := by omega
          rw [Int.sub_self]; omega
        · rw [e]; simp only; rw [key a h hb]; exact cnt a h (by omega)
      · rw [h] at e okn
        simp only [if_true] at e
        refine ⟨by rw [e]; exact okn, by rw [e]; exact hu, by rw [e]; exact hp, by rw [e]; simp only; omega, fun a ha hb => ?_⟩
        rcases Nat.lt_or_ge t a with h | h
        · obtain rfl : a = t + 1 := by omega
          rw [Int.sub_self]; omega
        · rw [e]; simp only
          rw [List.filter_append, key a h hb, List.filter_cons_of_pos (by simp only [hp, decide_eq_true_eq]; omega)]
          have := cnt a h (by omega)
          simp only [List.filter_nil, List.length_append, List.length_cons, List.length_nil]
          omega
theorem step (t : Nat) : (runS u p R t).1 ≤ (runS u p R (t + 1)).1 ∧ (runS u p R (t + 1)).1 ≤ (runS u p R t).1 + 1 := by
  cases hR : R t with
  | false => rw [run_no hR]; omega
  | true => rw [run_yes hR]; simp only; split <;> omega
theorem walks (a d : Nat) : (runS u p R a).1 ≤ (runS u p R (a + d)).1 ∧ (runS u p R (a + d)).1 ≤ (runS u p R a).1 + d := by
  induction d with
  | zero => simp
  | succ d ih => have := step (u := u) (p := p) (R := R) (a + d); rw [← Nat.add_assoc]; omega
theorem span (m : mayS u p = true) (a d : Nat) (h : a + d ≤ 1000) (hd : (d : Int) ≤ p) : (runS u p R (a + d)).1 - (runS u p R a).1 ≤ u := by
  have I := inv (R := R) m (a + d) h
  have h1 := I.cnt a (by omega) (by omega)
  have h2 := I.ok.len
  rw [I.hu] at h2
  have h3 := List.length_filter_le (fun x => decide ((a : Int) + p ≤ x)) (runS u p R (a + d)).2.back
  omega
theorem up_step (n q : Int) (hq : 0 < q) : upF n q = upF (n - q) q + 1 := by
  have h1 : (n - q) % q = n % q := Int.sub_emod_right n q
  have h2 : (n - q) / q = n / q - 1 := by
    have := Int.add_mul_ediv_right n (-1) (show q ≠ 0 by omega)
    rw [show n + -1 * q = n - q by omega] at this
    omega
  unfold upF
  simp only [show ¬ (q = 0) by omega, if_false, h1, h2]
  split <;> omega
theorem most (m : mayS u p = true) (d : Nat) : ∀ a : Nat, a + d ≤ 1000 → (runS u p R (a + d)).1 - (runS u p R a).1 ≤ upF d p * u := by
  obtain ⟨m1, m2, m3, m4⟩ := mayS_iff.1 m
  induction d using Nat.strongRecOn with
  | _ d ih =>
    intro a ha
    by_cases hd : (d : Int) ≤ p
    · have h1 := span (R := R) m a d ha hd
      rcases Nat.eq_zero_or_pos d with h0 | h0
      · subst h0
        have h2 : 0 ≤ upF 0 p * u := Int.mul_nonneg (upF_le 0 p (by omega) (by omega)).1 (by omega)
        simp only [Nat.add_zero, Int.sub_self]; exact h2
      · have h2 : 1 ≤ upF d p := by
          by_cases h3 : (d : Int) = p
          · have := upF_le (d - p) p (by omega) (by omega)
            rw [up_step d p (by omega)]; omega
          · unfold upF
            rw [if_neg (by omega), if_neg (by rw [Int.emod_eq_of_lt (by omega) (by omega)]; omega), Int.ediv_eq_zero_of_lt (by omega) (by omega)]; omega
        have h3 : 1 * u ≤ upF d p * u := Int.mul_le_mul_of_nonneg_right h2 (by omega)
        omega
    · obtain ⟨c, hc⟩ : ∃ c : Nat, (c : Int) = p := ⟨p.toNat, by omega⟩
      have h1 := span (R := R) m a c (by omega) (by omega)
      have h2 := ih (d - c) (by omega) (a + c) (by omega)
      rw [show a + c + (d - c) = a + d by omega, show ((d - c : Nat) : Int) = (d : Int) - p by omega] at h2
      rw [up_step d p (by omega), Int.add_mul]
      omega
/-- What the law's last loop asks. -/
theorem answer (m : mayS u p = true) (a b : Nat) (h : a ≤ b) (hb : b ≤ 1000) : (runS u p R b).1 - (runS u p R a).1 ≤ mostS u p (b - a) ∧ ((b : Int) - a ≤ p → (runS u p R b).1 - (runS u p R a).1 ≤ u) ∧ 0 ≤ (runS u p R b).1 - (runS u p R a).1 := by
  have h1 := walks (u := u) (p := p) (R := R) a (b - a)
  have h2 := most (R := R) m (b - a) a (by omega)
  have h3 := fun hd => span (R := R) m a (b - a) (by omega) hd
  rw [show a + (b - a) = b by omega] at h1 h2 h3
  rw [show ((b - a : Nat) : Int) = (b : Int) - a by omega] at h1 h2 h3
  refine ⟨?_, fun hd => h3 hd, by omega⟩
  unfold mostS
  rw [if_neg (by rw [m]; simp; omega)]
  omega
end
theorem box1 (w : World) (u p : Int) (W : World) (h : Below (w.alloc (.cells #[.int .i64 u, .int .u64 p] 24)).heap.size (w.alloc (.cells #[.int .i64 u, .int .u64 p] 24)) W) :
    W.cell? ⟨w.heap.size, 0, none⟩ = some (.int .i64 u) ∧ W.cell? ⟨w.heap.size, 1, none⟩ = some (.int .u64 p) := by
  have k := (Blk.new w 24 [.int .i64 u, .int .u64 p]).below h (by simp)
  exact ⟨k.cell 0, k.cell 1⟩
/-- n cells of nought. -/
def zeros (n : Nat) : List Value := List.replicate n (.int .i64 0)
def row (n : Nat) : Array Value := ⟨zeros n⟩
/-- A row of 201 counts in block g, of which the first t + 1 are known. -/
def Counts (w : World) (g : Nat) (t : Nat) (f : Nat → Int) : Prop :=
  ∃ cs, Blk w g 3 cs ∧ cs.length = 201 ∧ ∀ k, k ≤ t → cs[k]? = some (.int .i64 (f k))
theorem Counts.at_ {w : World} {g t : Nat} {f : Nat → Int} (h : Counts w g t f) {k : Nat} (hk : k ≤ t) : w.cell? ⟨g, k, none⟩ = some (.int .i64 (f k)) := by
  obtain ⟨cs, h1, h2, h3⟩ := h
  exact (h1.cell k).trans (h3 k hk)
theorem Counts.free {w : World} {g t : Nat} {f : Nat → Int} (h : Counts w g t f) (k : Nat) : w.frozen? ⟨g, k, none⟩ = false := by
  obtain ⟨cs, h1, h2, h3⟩ := h
  exact h1.free k
theorem Counts.has {w : World} {g t : Nat} {f : Nat → Int} (h : Counts w g t f) {k : Nat} (hk : k < 201) : ∃ v, w.cell? ⟨g, k, none⟩ = some v := by
  obtain ⟨cs, h1, h2, h3⟩ := h
  exact ⟨cs[k], (h1.cell k).trans (List.getElem?_eq_getElem (by omega))⟩
theorem Counts.put {w : World} {g t : Nat} {f : Nat → Int} (h : Counts w g t f) (ht : t < 200) {x : Int} (hx : x = f (t + 1)) : Counts (w.setCell ⟨g, t + 1, none⟩ (.int .i64 x)) g (t + 1) f := by
  obtain ⟨cs, h1, h2, h3⟩ := h
  refine ⟨_, h1.put (t + 1) (.int .i64 x), by simp [h2], fun k hk => ?_⟩
  rcases Nat.lt_or_ge t k with h4 | h4
  · obtain rfl : k = t + 1 := by omega
    rw [List.getElem?_set_self (by omega), hx]
  · rw [List.getElem?_set_ne (by omega)]; exact h3 k h4
theorem Counts.put0 {w : World} {g t : Nat} {f : Nat → Int} (h : Counts w g t f) (x : Value) : Counts (w.setCell ⟨g, t + 1, none⟩ x) g t f := by
  obtain ⟨cs, h1, h2, h3⟩ := h
  exact ⟨_, h1.put (t + 1) x, by simp [h2], fun k hk => by rw [List.getElem?_set_ne (by omega)]; exact h3 k hk⟩
theorem Counts.ne {w : World} {g t b : Nat} {f : Nat → Int} {s : Bs} {y : Bool} (h : Counts w g t f) (k : IsB w b s y) : g ≠ b := by
  obtain ⟨cs, h1, h2, h3⟩ := h
  obtain ⟨v, k1, -⟩ := k
  exact h1.ne k1 (by decide)
theorem Counts.far {w : World} {g t b i : Nat} {f : Nat → Int} {s : Bs} {y : Bool} (h : Counts w g t f) (k : IsB w b s y) (x : Value) : IsB (w.setCell ⟨g, i, none⟩ x) b s y := by
  have hne := h.ne k
  obtain ⟨cs, h1, h2, h3⟩ := h
  obtain ⟨v, k1, k2, k3⟩ := k
  exact ⟨v, k1.far (fun e => hne e.symm) x, k2.far (Slc.ne k2 h1 (by decide)) x, k3⟩
theorem Counts.keep {w w' : World} {g t b : Nat} {f : Nat → Int} (h : Counts w g t f) (o : Only (· = b) w w') (hb : g ≠ b) : Counts w' g t f := by
  obtain ⟨cs, h1, h2, h3⟩ := h
  exact ⟨cs, h1.only o hb, h2, h3⟩
theorem Counts.below {w w' : World} {g t : Nat} {f : Nat → Int} (h : Counts w g t f) (o : Below w.heap.size w w') : Counts w' g t f := by
  obtain ⟨cs, h1, h2, h3⟩ := h
  exact ⟨cs, h1.below o h1.lt, h2, h3⟩
theorem Counts.drewN {w : World} {g t : Nat} {f : Nat → Int} (h : Counts w g t f) (m : Nat) : Counts (w.drewN m) g t f := h
theorem Counts.first (w : World) (f : Nat → Int) (h : f 0 = 0) : Counts (w.alloc (.cells (row 201) 3)) w.heap.size 0 f :=
  ⟨_, Blk.new w 3 (zeros 201), List.length_replicate, fun k hk => (show k = 0 by omega) ▸ (by rw [h]; rfl)⟩
def W0 (w : World) (u p : Int) : World := w.alloc (.cells #[.int .i64 u, .int .u64 p] 24)
def Rel (w : World) (b g : Nat) (u p : Int) (R : Nat → Bool) (tv : Value) (wr : World) : Prop :=
  ∃ t : Nat, tv = .int .i64 t ∧ t ≤ 200 ∧ Counts wr g t (fun k => (runS u p R k).1) ∧ IsB wr b (runS u p R t).2 false ∧ Below (W0 w u p).heap.size (W0 w u p) wr
def Rel2 (w : World) (g B : Nat) (u p : Int) (R : Nat → Bool) (tv : Value) (wr : World) : Prop :=
  ∃ t : Nat, tv = .int .i64 t ∧ B ≤ t ∧ t ≤ 201 ∧ Counts wr g 200 (fun k => (runS u p R k).1) ∧ Below (W0 w u p).heap.size (W0 w u p) wr
set_option maxRecDepth 100000 in
set_option maxHeartbeats 8000000 in
theorem walk2 (w : World) (u p : Int) (bu : -9223372036854775808 ≤ u) (bu' : u ≤ 9223372036854775807) (bp : 0 ≤ p) (bp' : p ≤ 18446744073709551615)
    (A : Option Addr) (n cap : Nat) (U : Nat → Bool) (hA : Hid (BoolsAt w A n U)) (hn : n ≤ 140737488351232) (from_ : Int) (f0 : 0 ≤ from_) (f1 : from_ ≤ 255) :
    Calls Try.prog 3 #[.agg #[.int .i64 u, .int .u64 p], .slice A n cap, .int .u8 from_] w fun e w' => e = .returned (.bool true) ∧ Below w.heap.size w w' := by
  have M1 := fun W => Lib.hid (rmays_any u p W bu bu' bp bp')
  have BOX := Lib.hid (box1 w u p)
  cases h1 : mayS u p with
  | false =>
    rw [h1] at M1
    have C1 := fun W => Lib.hid (newB_no u p W bu bu' bp bp' h1)
    clear h1
    by_cases hz : n = 0
    · subst hz
      go_enter Try.func3, Try.ntmps3
      go_wp2_with (first
        | (go_at_call 7; (with_reducible refine Calls.mono (awake_any _) ?_); rintro e w0 ⟨rfl, bel0⟩
           have HB := Lib.hid bel0; clear bel0; obtain ⟨q0, q1⟩ := BOX.out _ HB.out)
        | (go_at_call 8; (with_reducible refine Calls.mono (C1 _).out ?_); rintro e w1 ⟨rfl, bel0⟩
           have HB := Lib.hid (Below.next HB.out bel0); clear bel0; obtain ⟨q0, q1⟩ := BOX.out _ HB.out)
        | (go_at_call 9; (with_reducible refine Calls.mono (M1 _).out ?_); rintro e w0 ⟨rfl, bel0⟩
           have HB := Lib.hid (Below.next HB.out bel0); clear bel0; obtain ⟨q0, q1⟩ := BOX.out _ HB.out))
      go_ret
      exact ⟨rfl, Below.next ((Below.refl _ _).alloc (Nat.le_refl _) _) HB.out⟩
    · have z1 : ((n : Int) == 0) = false := beq_eq_false_iff_ne.2 (by omega)
      have z2 : ((n : Int) = 0) = False := by simp; omega
      go_enter Try.func3, Try.ntmps3
      go_wp2_with (first
        | (go_at_call 7; (with_reducible refine Calls.mono (awake_any _) ?_); rintro e w0 ⟨rfl, bel0⟩
           have HB := Lib.hid bel0; clear bel0; obtain ⟨q0, q1⟩ := BOX.out _ HB.out)
        | (go_at_call 8; (with_reducible refine Calls.mono (C1 _).out ?_); rintro e w1 ⟨rfl, bel0⟩
           have HB := Lib.hid (Below.next HB.out bel0); clear bel0; obtain ⟨q0, q1⟩ := BOX.out _ HB.out)
        | (go_at_call 9; (with_reducible refine Calls.mono (M1 _).out ?_); rintro e w0 ⟨rfl, bel0⟩
           have HB := Lib.hid (Below.next HB.out bel0); clear bel0; obtain ⟨q0, q1⟩ := BOX.out _ HB.out))
      go_ret
      exact ⟨rfl, Below.next ((Below.refl _ _).alloc (Nat.le_refl _) _) HB.out⟩
  | true =>
    rw [h1] at M1
    have C1 := fun W => Lib.hid (newB_any u p W bu bu' bp bp' h1)
    by_cases hz : n = 0
    · subst hz
      go_enter Try.func3, Try.ntmps3
      go_wp2_with (first
        | (go_at_call 7; (with_reducible refine Calls.mono (awake_any _) ?_); rintro e w0 ⟨rfl, bel0⟩
           have HB := Lib.hid bel0; clear bel0; obtain ⟨q0, q1⟩ := BOX.out _ HB.out)
        | (go_at_call 8; (with_reducible refine Calls.mono (C1 _).out ?_); rintro e w1 ⟨b, rfl, hb, kb, bel0⟩
           have HB := Lib.hid (Below.next HB.out bel0); clear bel0; obtain ⟨q0, q1⟩ := BOX.out _ HB.out)
        | (go_at_call 9; (with_reducible refine Calls.mono (M1 _).out ?_); rintro e w0 ⟨rfl, bel0⟩
           have HB := Lib.hid (Below.next HB.out bel0); clear bel0; obtain ⟨q0, q1⟩ := BOX.out _ HB.out))
      go_ret
      exact ⟨rfl, Below.next ((Below.refl _ _).alloc (Nat.le_refl _) _) HB.out⟩
    · have z1 : ((n : Int) == 0) = false := beq_eq_false_iff_ne.2 (by omega)
      have hmk : ∀ W, (Instr.makeSlice 32 (.int .i64 201) (.int .i64 201)).run Try.prog W = .ok (.slice (some ⟨W.heap.size, 0, none⟩) 201 201) (W.alloc (.cells (row 201) 3)) := fun _ => by kernel_rfl
      have H1 := Lib.hid h1
      clear h1
      go_enter Try.func3, Try.ntmps3
      go_wp2_with (first
        | (go_at_call 7; (with_reducible refine Calls.mono (awake_any _) ?_); rintro e w0 ⟨rfl, bel0⟩
           have HB := Lib.hid bel0; clear bel0; obtain ⟨q0, q1⟩ := BOX.out _ HB.out)
        | (go_at_call 8; (with_reducible refine Calls.mono (C1 _).out ?_); rintro e w1 ⟨b, rfl, hb, kb, bel0⟩
           have hwb := Nat.le_trans HB.out.size hb
           have HB := Lib.hid (Below.next HB.out bel0); have KB := Lib.hid kb; clear bel0 kb; obtain ⟨q0, q1⟩ := BOX.out _ HB.out)
        | (go_at_call 9; (with_reducible refine Calls.mono (M1 _).out ?_); rintro e w2 ⟨rfl, bel0⟩
           have hb2 := Nat.lt_of_lt_of_le KB.out.lt bel0.size
           have HB := Lib.hid (Below.next HB.out bel0); have KB := Lib.hid (KB.out.below bel0); clear bel0; obtain ⟨q0, q1⟩ := BOX.out _ HB.out))
      have hg0 : (W0 w u p).heap.size ≤ w2.heap.size := HB.out.size
      have hR : Rel w b w2.heap.size u p (fun t => U (t % n)) (.int .i64 0) (w2.alloc (.cells (row 201) 3)) :=
        ⟨0, rfl, by omega, Counts.first _ _ rfl, (IsB.below KB.out ((Below.refl _ _).alloc (Nat.le_refl _) _)).weak, HB.out.alloc hg0 _⟩
      go_loopw [10] (fun tv wr => Hid (Rel w b w2.heap.size u p (fun t => U (t % n)) tv wr)) (fun tv _ => 200 - (intOf tv).toNat)
      case atStart => exact hR
      case round =>
        clear hR hmk
        obtain ⟨t, rfl, ht, hc, hk, hbel⟩ := hrel
        have CN := Lib.hid hc
        have BEL := Lib.hid hbel
        have KS := Lib.hid hk
        obtain ⟨q0, q1⟩ := BOX.out _ hbel
        clear hk hbel hc
        by_cases htn : t < 200
        · have I := inv (R := fun t => U (t % n)) H1.out t (by omega)
          have hmod : t % n < n := Nat.mod_lt _ (by omega)
          obtain ⟨ab, ao, eA, hlt, hcw⟩ := hA.out.at_ hmod
          subst eA
          have c0 := CN.out.at_ (Nat.le_refl t)
          obtain ⟨v1, c1⟩ := CN.out.has (k := t + 1) (by omega)
          have l1 := CN.out.free (t + 1)
          have hcell : ∀ x, (wr.setCell ⟨w2.heap.size, t + 1, none⟩ x).cell? ⟨ab, ao + t % n, none⟩ = some (.bool (U (t % n))) := fun x => by
            have b1 : Below (W0 w u p).heap.size (W0 w u p) (wr.setCell ⟨w2.heap.size, t + 1, none⟩ x) := BEL.out.setCell hg0 x
            exact ((Below.next ((Below.refl _ _).alloc (Nat.le_refl _) _) b1).cell (p := ⟨ab, ao + t % n, none⟩) hlt).trans hcw
          have st := walks (u := u) (p := p) (R := fun t => U (t % n)) 0 t
          have st2 : (runS u p (fun t => U (t % n)) 0).1 = 0 := rfl
          rw [st2, Nat.zero_add] at st
          clear st2
          have CN0 := fun x => Lib.hid (CN.out.put0 (.int .i64 x))
          have CN1 := fun x h => Lib.hid (CN.out.put htn (x := x) h)
          have K1 := fun x => Lib.hid (CN.out.far (i := t + 1) KS.out (.int .i64 x))
          have NE := Lib.hid (CN.out.ne KS.out)
          have BE1 := fun x => Lib.hid (BEL.out.setCell (p := ⟨w2.heap.size, t + 1, none⟩) hg0 x)
          cases hU : U (t % n) with
          | false =>
            rw [hU] at hcell
            have e := run_no (u := u) (p := p) (R := fun t => U (t % n)) (t := t) hU
            have e1 : (runS u p (fun t => U (t % n)) t).1 = (runS u p (fun t => U (t % n)) (t + 1)).1 := by rw [e]
            have E := Lib.hid e
            have CN2 := CN1 _ e1
            have K2 := K1 (runS u p (fun t => U (t % n)) t).1
            have BE2 := BE1 (.int .i64 (runS u p (fun t => U (t % n)) t).1)
            clear e e1 CN1 CN0 hcw I K1 BE1
            generalize (runS u p (fun t => U (t % n)) t).1 = x at *
            go_wp2_with fail
            go_roundw
            case rel => exact ⟨t + 1, by go_num, by omega, CN2.out, by rw [E.out]; exact K2.out, BE2.out⟩
            case measure => simp [intOf]; omega
          | true =>
            rw [hU] at hcell
            have e := run_yes (u := u) (p := p) (R := fun t => U (t % n)) (t := t) hU
            have ua := use_at (runS u p (fun t => U (t % n)) t).2 t (by omega) I.now
            have c := fun x => use_any (K1 x).out I.ok t (by omega) (by omega)
            rcases ua with h | h
            · rw [h] at e
              simp only [h] at c
              simp only [Bool.false_eq_true, if_false, Int.add_zero] at e
              have e1 : (runS u p (fun t => U (t % n)) t).1 = (runS u p (fun t => U (t % n)) (t + 1)).1 := by rw [e]
              have E := Lib.hid e
              have CN2 := CN1 _ e1
              have C := Lib.hid (c (runS u p (fun t => U (t % n)) t).1)
              have BE2 := BE1 (.int .i64 (runS u p (fun t => U (t % n)) t).1)
              clear c e e1 CN1 CN0 hcw I K1 BE1 h
              generalize (runS u p (fun t => U (t % n)) t).1 = x at *
              go_wp2_with (go_at_call 10; (with_reducible refine Calls.mono C.out ?_); rintro e w3 ⟨rfl, k', o3⟩
                           have HB3 := Lib.hid (Below.only BE2.out o3 hwb)
                           have CN3 := Lib.hid (CN2.out.keep o3 NE.out)
                           have k3 := Lib.hid k'.weak
                           clear k' o3)
              go_roundw
              case rel => exact ⟨t + 1, by go_num, by omega, CN3.out, by rw [E.out]; exact k3.out, HB3.out⟩
              case measure => simp [intOf]; omega
            · rw [h] at e
              simp only [h] at c
              simp only [if_true] at e
              have e1 : (runS u p (fun t => U (t % n)) t).1 + 1 = (runS u p (fun t => U (t % n)) (t + 1)).1 := by rw [e]
              have E := Lib.hid e
              have CN2 := CN0 (runS u p (fun t => U (t % n)) t).1
              have C := Lib.hid (c (runS u p (fun t => U (t % n)) t).1)
              have BE2 := BE1 (.int .i64 (runS u p (fun t => U (t % n)) t).1)
              have E1 := Lib.hid e1
              have CE : Hid ((wr.setCell ⟨w2.heap.size, t + 1, none⟩ (.int .i64 (runS u p (fun t => U (t % n)) t).1)).cell? ⟨w2.heap.size, t + 1, none⟩ = some (.int .i64 (runS u p (fun t => U (t % n)) t).1)) := World.cell?_setCell_same' _ _ _ (by rw [c1]; rfl)
              clear c e e1 CN1 CN0 hcw I K1 BE1 h
              generalize (runS u p (fun t => U (t % n)) t).1 = x at *
              go_wp2_with (go_at_call 10; (with_reducible refine Calls.mono C.out ?_); rintro e w3 ⟨rfl, k', o3⟩
                           have HB3 := Lib.hid (Below.only BE2.out o3 hwb)
                           have CN3 := Lib.hid (CN2.out.keep o3 NE.out)
                           have k3 := Lib.hid k'.weak
                           have c3 : w3.cell? ⟨w2.heap.size, t + 1, none⟩ = some (.int .i64 x) := (World.cell?_of_block (w := wr.setCell ⟨w2.heap.size, t + 1, none⟩ (.int .i64 x)) (o3.block w2.heap.size (World.block_lt_of_cell? _ _ CE.out) NE.out)).trans CE.out
                           have l3 := CN3.out.free (t + 1)
                           have CN4 := fun x h => Lib.hid (CN3.out.put htn (x := x) h)
                           have K4 := fun x => Lib.hid (CN3.out.far (i := t + 1) k3.out (.int .i64 x))
                           have BE4 := fun x => Lib.hid (HB3.out.setCell (p := ⟨w2.heap.size, t + 1, none⟩) hg0 x)
                           clear k' o3)
              go_roundw
              case rel => exact ⟨t + 1, by go_num, by omega, (CN4 _ E1.out).out, by rw [E.out]; exact (K4 _).out, (BE4 _).out⟩
              case measure => simp [intOf]; omega
        · have CN : Hid (Counts wr w2.heap.size 200 (fun k => (runS u p (fun t => U (t % n)) k).1)) := (show t = 200 by omega) ▸ CN
          obtain ⟨B, hB⟩ : ∃ B : Nat, from_ % 200 = (B : Int) := ⟨(from_ % 200).toNat, by omega⟩
          have hB2 : B < 200 := by omega
          clear KS KB hb2
          go_wp2_with fail
          rw [hB]
          go_loopw [14] (fun tv wr => Hid (Rel2 w w2.heap.size B u p (fun t => U (t % n)) tv wr)) (fun tv _ => 201 - (intOf tv).toNat)
          case atStart => exact ⟨B, rfl, Nat.le_refl _, by omega, CN.out, BEL.out⟩
          case round =>
            clear q0 q1 CN BEL
            obtain ⟨t, rfl, ht0, ht, hc, hbel⟩ := hrel
            have CN := Lib.hid hc
            have BEL := Lib.hid hbel
            obtain ⟨q0, q1⟩ := BOX.out _ hbel
            clear hbel hc
            by_cases htn : t ≤ 200
            · have ht3 : (t : Int) ≤ 200 := by omega
              obtain ⟨a1, a2, a3⟩ := answer (R := fun t => U (t % n)) H1.out B t ht0 (by omega)
              have c0 := CN.out.at_ (k := t) (by omega)
              have c1 := CN.out.at_ (k := B) (by omega)
              have st := walks (u := u) (p := p) (R := fun t => U (t % n)) 0 t
              have sB := walks (u := u) (p := p) (R := fun t => U (t % n)) 0 B
              have st2 : (runS u p (fun t => U (t % n)) 0).1 = 0 := rfl
              rw [st2, Nat.zero_add] at st sB
              clear st2
              have M2 := fun W => Lib.hid (mostS_any u p ((t : Int) - B) W bu bu' bp bp' (by omega) (by omega))
              generalize mostS u p ((t : Int) - B) = M at *
              generalize (runS u p (fun t => U (t % n)) t).1 = x at *
              generalize (runS u p (fun t => U (t % n)) B).1 = y at *
              have d1 : decide (M < x - y) = false := decide_eq_false (by omega)
              by_cases d2 : (t : Int) - B ≤ p
              · have d3 : decide ((t : Int) - B ≤ p) = true := decide_eq_true d2
                have d4 : decide (u < x - y) = false := decide_eq_false (by have := a2 d2; omega)
                clear a2
                go_wp2_with fail
                go_quiet (fail)
                go_wp2_with (go_at_call 11; (with_reducible refine Calls.mono (M2 _).out ?_); rintro e w3 ⟨rfl, bel0⟩
                             have HB3 := Lib.hid (Below.next (Below.drewN' BEL.out _) bel0); have CN3 := Lib.hid ((CN.out.drewN _).below bel0); clear bel0; obtain ⟨q0, q1⟩ := BOX.out _ HB3.out)
                go_roundw
                case rel => exact ⟨t + 1, by go_num, by omega, by omega, CN3.out, HB3.out⟩
                case measure => simp [intOf]; omega
              · have d3 : decide ((t : Int) - B ≤ p) = false := decide_eq_false d2
                clear a2
                go_wp2_with fail
                go_quiet (fail)
                go_wp2_with (go_at_call 11; (with_reducible refine Calls.mono (M2 _).out ?_); rintro e w3 ⟨rfl, bel0⟩
                             have HB3 := Lib.hid (Below.next (Below.drewN' BEL.out _) bel0); have CN3 := Lib.hid ((CN.out.drewN _).below bel0); clear bel0; obtain ⟨q0, q1⟩ := BOX.out _ HB3.out)
                go_roundw
                case rel => exact ⟨t + 1, by go_num, by omega, by omega, CN3.out, HB3.out⟩
                case measure => simp [intOf]; omega
            · have ht3 : ¬ (t : Int) ≤ 200 := by omega
              go_wp2_with fail
              go_ret
              exact ⟨rfl, Below.next ((Below.refl _ _).alloc (Nat.le_refl _) _) BEL.out⟩
theorem walk (w : World) (cs : List Value) (ws : AllOk [some .i64, some .u64] cs) (A : Option Addr) (n cap : Nat) (D : Nat → List Value) (w2 : Elems w [none] A n D) (hl : n * 1 ≤ 140737488351232) (from_ : Int) (w3 : (Lit.int .u8 from_).wf = true) :
    Calls Try.prog 3 #[.agg ⟨cs⟩, .slice A n cap, .int .u8 from_] w fun e w' => e = .returned (.bool true) ∧ Below w.heap.size w w' := by
  obtain ⟨u, p, rfl, b1, b2, b3, b4⟩ := serverOf ws
  obtain ⟨U, hA⟩ := bools_of w2
  obtain ⟨f0, f1⟩ := bounds_u8 w3
  exact walk2 w u p b1 b2 b3 b4 A n cap U hA (by omega) from_ f0 f1
end sporMost
namespace sporMost
theorem own : ownKnob Try.prog.godebug = none := by kernel_rfl
set_option maxRecDepth 100000 in
theorem lifted (os : Os) (started : os.Started) (H : Type) (enc : TypeId × Value → H) :
    ReturnsInHanded {} Try.checked os 3 .any (Rows.sporMostSpec.pre6 enc Try.prog Try.f3 Rows.sporMostRow.domain false) (Rows.sporMostSpec.post enc Try.prog Try.f3 false true false false) := by
  refine returnsInHanded_of_change_sized (C := Try.checked) own started (by kernel_rfl) Try.func3
    (ChangeSpec.witness6 (enc := enc) (C := Try.checked) false ⟨#[], #[.agg #[.int .i64 0, .int .u64 0], .slice none 0 0, .int .u8 0], []⟩ 8 (by kernel_rfl) (by kernel_rfl) (by kernel_rfl) (by kernel_rfl)) ?_
  intro W base args ds gs before hval0 hW hcnd hsz0 _
  have hsz : (DataW.weightsEach Try.prog (Try.f3.params.toList ++ Rows.sporMostSpec.plain.varTypes Try.prog) (ds ++ gs)).all (· ≤ reachBytes) = true := hsz0
  have hval : ∀ (j : Nat) t v, Try.f3.params[j]? = some t → args[j]? = some v → Value.okWide Try.prog W .any base t v := hval0
  have hW' := hW
  obtain ⟨p, q, hA0, hV, rfl, hfz, hnd⟩ := hW
  have hA : DataW.TrodAll enc Try.prog W 0 (fun _ => true) true Try.f3.params.toList args.toList ds p := hA0
  rw [Try.params3] at hA hval hsz
  obtain ⟨v0, vs0, d0, ds0, p0, q0, hargs, rfl, rfl, h0, r0⟩ := trodAll_cons hA
  obtain ⟨v1, vs1, d1, ds1, p1, q1, rfl, rfl, rfl, h1, r1⟩ := trodAll_cons r0
  obtain ⟨v2, vs2, d2, ds2, p2, q2, rfl, rfl, rfl, h2, r2⟩ := trodAll_cons r1
  obtain ⟨rfl, rfl, rfl⟩ := trodAll_nil r2
  obtain rfl : args = #[v0, v1, v2] := by cases args; simp_all
  obtain ⟨rfl, rfl⟩ := trodVars_none hV
  obtain ⟨c0, rfl, w0⟩ := arg_agg [some .i64, some .u64] (by first | exact .inl ⟨_, Try.underlying24⟩ | exact .inr ⟨_, _, Try.underlying24⟩) 6 (by kernel_rfl) (by kernel_rfl) (hval 0 24 v0 rfl rfl) h0
  obtain ⟨A1, n1, cap1, D1, rfl, w1, m1, z1⟩ := arg_slice [none] Try.underlying25 6 (by kernel_rfl) (by kernel_rfl) (hval 1 25 v1 rfl rfl) h1
  have l1 : n1 * Try.prog.bytesOf 4 ≤ reachBytes := by
    rcases z1 with ⟨_, e⟩ | ⟨es, sp, e, el⟩
    · subst e; simp
    · subst e; subst el; exact Nat.le_trans (Nat.mul_le_mul_right _ (Nat.le_add_right _ _)) (sized_slice hsz (j := 1) (t := 25) (e := 4) rfl rfl Try.underlying25)
  have b1 : Try.prog.bytesOf 4 = 1 := by kernel_rfl
  rw [b1] at l1
  simp only [reachBytes] at l1
  clear z1 b1
  obtain ⟨a2, rfl, w2⟩ := arg_one Try.underlying5 (hval 2 5 v2 rfl rfl) h2
  clear hA0 hval0 hsz0 hsz
  refine (walk W c0 w0 A1 n1 cap1 D1 w1 l1 a2 w2).mono fun e W' ⟨he, bel⟩ => ?_
  subst he
  exact ⟨_, rfl, _, _, _, [], _, [], hW', trodAll_mk1 (shut_bool Try.underlying4 _), (trodAll_cons_mk (Below.trod laidOut (by kernel_rfl) (of_decide_eq_true (by kernel_rfl)) h0 bel (fun x hx => by simpa using hW'.lt x (by simp [hx]))) (trodAll_cons_mk (Below.trod laidOut (by kernel_rfl) (of_decide_eq_true (by kernel_rfl)) h1 bel (fun x hx => by simpa using hW'.lt x (by simp [hx]))) (trodAll_cons_mk (Below.trod laidOut (by kernel_rfl) (of_decide_eq_true (by kernel_rfl)) h2 bel (fun x hx => by simpa using hW'.lt x (by simp [hx]))) trodAll_mk0))), rfl, bel.frame _, fun h => by cases h⟩
theorem over : Rows.sporMostRow.holds Try.pinned (OpenSpec.ofChange Rows.sporMostSpec) :=
  OpenClaim.holds_of_wide 3 Try.f3 rfl rfl rfl rfl rfl rfl rfl ⟨rfl, rfl, rfl, rfl, rfl⟩ rfl rfl rfl rfl rfl (by kernel_rfl) Try.func3 (by kernel_rfl)
    (of_decide_eq_true (by kernel_rfl)) (by unfold Func.isWrapper; first | (rw [if_pos (by decide +kernel)]; kernel_rfl) | (rw [if_neg (by decide +kernel)]; exact ⟨rfl, rfl⟩))
    (fun os started H enc _ => lifted os started H enc)
end sporMost
theorem sporMost_holds : Rows.SporMostSaid := sporMost.over
#print axioms sporMost_holds
end Go.Proofs.Ythfnaeppolgpaaa
