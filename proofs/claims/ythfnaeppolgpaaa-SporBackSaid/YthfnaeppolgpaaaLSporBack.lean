/- SporBack: a unit that was used is there again just a period later; used as often as may be the next one is there when it is told. No condition. -/
import Derived.Test.YthfnaeppolgpaaaSporLaw
import Derived.Test.YthfnaeppolgpaaaArg
import Derived.Test.YthfnaeppolgpaaaRows
import Derived.ProofKit
import Derived.OpenShut
import Derived.ShutString
import Derived.ChangeOld
import Derived.Below
import Derived.SizedLaws
namespace Go.Proofs.Ythfnaeppolgpaaa
open Go.ChangeShapes Go.WideShapes Go.ChangeAt Go.RowKit
open Go.ChangeMaps (open_string shut_string)
set_option linter.unusedVariables false
set_option linter.unusedSimpArgs false
namespace sporBack
theorem drop_twice (l : List Int) (T : Int) : (l.dropWhile (· ≤ T)).dropWhile (· ≤ T) = l.dropWhile (· ≤ T) := by
  induction l with
  | nil => rfl
  | cons x l ih =>
    by_cases h : x ≤ T
    · rw [List.dropWhile_cons_of_pos (by simpa using h)]; exact ih
    · rw [List.dropWhile_cons_of_neg (by simpa using h), List.dropWhile_cons_of_neg (by simpa using h)]
theorem drop_more (l : List Int) (T y : Int) (hy : T < y) : (l.dropWhile (· ≤ T) ++ [y]).dropWhile (· ≤ T) = l.dropWhile (· ≤ T) ++ [y] := by
  induction l with
  | nil => exact List.dropWhile_cons_of_neg (by simpa using hy)
  | cons x l ih =>
    by_cases h : x ≤ T
    · rw [List.dropWhile_cons_of_pos (by simpa using h)]; exact ih
    · rw [List.dropWhile_cons_of_neg (by simpa using h), List.cons_append, List.dropWhile_cons_of_neg (by simpa using h)]
theorem drop_all (l : List Int) (T : Int) (h : ∀ x ∈ l, x ≤ T) : l.dropWhile (· ≤ T) = [] := by
  induction l with
  | nil => rfl
  | cons x l ih => rw [List.dropWhile_cons_of_pos (by simpa using h x (by simp))]; exact ih fun y hy => h y (by simp [hy])
theorem left_at (s : Bs) (T : Int) (h1 : T < 4611686018427387904) (h2 : s.now ≤ T) : leftB T s = ((s.u - ((s.back.dropWhile (· ≤ T)).length : Int), 0), { s with back := s.back.dropWhile (· ≤ T), now := T }) := by
  unfold leftB; rw [if_neg (by omega), if_neg (by omega)]
theorem take {t : Bs} (ok : t.ok) (T : Int) (h0 : 0 ≤ T) (h1 : T < 4611686018427387904) (h2 : t.now ≤ T) (hl : ((t.back.dropWhile (· ≤ T)).length : Int) < t.u) :
    ∃ n t1 t2, leftB T t = ((n, 0), t1) ∧ useB T t1 = ((true, 0), t2) ∧ leftB T t2 = ((n - 1, 0), t2) ∧ 1 ≤ n ∧ n ≤ 200 ∧ t1.ok ∧ t2.ok ∧ t2.now = T ∧ t2.u = t.u ∧ t2.p = t.p := by
  have hu := ok.u1
  have hp := ok.p0
  have hu0 := ok.u0
  have ok1 := leftB_ok ok T h0
  rw [left_at t T h1 h2] at ok1
  have ok2 := useB_ok ok1 T h0
  have e1 : leftB T { t with back := t.back.dropWhile (· ≤ T), now := T } = ((t.u - ((t.back.dropWhile (· ≤ T)).length : Int), 0), { t with back := t.back.dropWhile (· ≤ T), now := T }) := by
    rw [left_at _ T h1 (by simp)]; simp only [drop_twice]
  have e2 : useB T { t with back := t.back.dropWhile (· ≤ T), now := T } = ((true, 0), { t with back := t.back.dropWhile (· ≤ T) ++ [T + t.p], now := T }) := by
    unfold useB; rw [e1]; rw [if_neg (by simp only; omega)]
  simp only at ok2
  rw [e2] at ok2
  refine ⟨_, _, _, left_at t T h1 h2, e2, ?_, by omega, by omega, ok1, ok2, rfl, rfl, rfl⟩
  rw [left_at _ T h1 (by simp)]
  simp only [drop_more _ T (T + t.p) (by omega)]
  simp; omega
theorem next {s : Bs} (ok : s.ok) (N : Int) (h0 : s.now ≤ N) (h1 : N < 1099511627776) (hp : s.p ≤ 1048576) :
    ∃ at_ s1, nextB N s = ((at_, 0), s1) ∧ s1.ok ∧ N ≤ at_ ∧ at_ ≤ N + s.p ∧ s1.now = N ∧ s1.u = s.u ∧ s1.p = s.p ∧
      ((at_ = N ∧ ((s1.back.dropWhile (· ≤ at_)).length : Int) < s1.u) ∨
       (N < at_ ∧ ∃ s2, useB (at_ - 1) s1 = ((false, 0), s2) ∧ s2.ok ∧ s2.now = at_ - 1 ∧ s2.u = s.u ∧ s2.p = s.p ∧ ((s2.back.dropWhile (· ≤ at_)).length : Int) < s2.u)) := by
  have n0 := ok.n0
  have hlen := ok.len
  have hu0 := ok.u0
  have hp0 := ok.p0
  have ok1 := leftB_ok ok N (by omega)
  have el := left_at s N (by omega) h0
  rw [el] at ok1
  have hd := drop_twice s.back N
  have hhd : ∀ x l, s.back.dropWhile (· ≤ N) = x :: l → N < x := by
    intro x l h
    have := List.head?_dropWhile_not (fun x => decide (x ≤ N)) s.back
    rw [h] at this
    simpa using this
  generalize hD : s.back.dropWhile (· ≤ N) = d at *
  unfold nextB
  simp only [el]
  simp only [ne_eq, not_true_eq_false, if_false]
  by_cases hz : 0 < s.u - (d.length : Int)
  · rw [if_pos hz]
    exact ⟨N, _, rfl, ok1, by omega, by omega, rfl, rfl, rfl, .inl ⟨rfl, by simp only [hd]; omega⟩⟩
  · rw [if_neg hz]
    match d, hhd with
    | [], _ => simp at hz; omega
    | x :: l, hx =>
      have hxN := hx x l rfl
      have hx2 := (ok1.el x (by simp)).2
      simp only at hx2
      have ln := ok1.len
      simp only [List.length_cons] at ln hz
      rw [if_neg (by simp; omega)]
      have ok2 := useB_ok ok1 (x - 1) (by omega)
      have e1 : leftB (x - 1) { s with back := x :: l, now := N } = ((s.u - ((x :: l).length : Int), 0), { s with back := x :: l, now := x - 1 }) := by
        rw [left_at _ (x - 1) (by omega) (by simp only; omega)]
        have : (x :: l).dropWhile (· ≤ x - 1) = x :: l := List.dropWhile_cons_of_neg (by simp; omega)
        simp only [this]
      have e2 : useB (x - 1) { s with back := x :: l, now := N } = ((false, 0), { s with back := x :: l, now := x - 1 }) := by
        unfold useB; rw [e1, if_pos (by simp only [List.length_cons]; omega)]
      rw [e2] at ok2
      refine ⟨x, _, rfl, ok1, by omega, by omega, rfl, rfl, rfl, .inr ⟨hxN, _, e2, ok2, rfl, rfl, rfl, ?_⟩⟩
      have h1 : (x :: l).dropWhile (· ≤ x) = l.dropWhile (· ≤ x) := List.dropWhile_cons_of_pos (by simp)
      have h2 := (List.dropWhile_sublist (p := fun y => decide (y ≤ x)) (l := l)).length_le
      simp only [h1]
      omega
theorem last {s : Bs} (ok : s.ok) (N : Int) (h0 : s.now ≤ N) (h1 : N < 1099511627776) (hp : s.p ≤ 1048576) : ∃ s1, leftB (N + s.p) s = ((s.u, 0), s1) := by
  have n0 := ok.n0
  have hp0 := ok.p0
  have hu0 := ok.u0
  have := drop_all s.back (N + s.p) fun x hx => by have := (ok.el x hx).2; omega
  exact ⟨⟨s.u, s.p, [], N + s.p⟩, by rw [left_at s (N + s.p) (by omega) (by omega), this]; simp⟩
theorem box1 (w : World) (u p : Int) (W : World) (h : Below (w.alloc (.cells #[.int .i64 u, .int .u64 p] 24)).heap.size (w.alloc (.cells #[.int .i64 u, .int .u64 p] 24)) W) :
    W.cell? ⟨w.heap.size, 0, none⟩ = some (.int .i64 u) ∧ W.cell? ⟨w.heap.size, 1, none⟩ = some (.int .u64 p) := by
  have k := (Blk.new w 24 [.int .i64 u, .int .u64 p]).below h (by simp)
  exact ⟨k.cell 0, k.cell 1⟩
def W0 (w : World) (u p : Int) : World := w.alloc (.cells #[.int .i64 u, .int .u64 p] 24)
def Rel (w : World) (b n : Nat) (u p : Int) (nv iv : Value) (wr : World) : Prop :=
  ∃ (k : Nat) (N : Int) (s : Bs), nv = .int .u64 N ∧ iv = .int .i64 k ∧ k ≤ n ∧ s.now ≤ N ∧ N ≤ 1048580 * k ∧ s.ok ∧ s.u = u ∧ s.p = p ∧ IsB wr b s false ∧ Below (W0 w u p).heap.size (W0 w u p) wr
set_option maxRecDepth 100000 in
set_option maxHeartbeats 8000000 in
theorem walk2 (w : World) (u p : Int) (bu : -9223372036854775808 ≤ u) (bu' : u ≤ 9223372036854775807) (bp : 0 ≤ p) (bp' : p ≤ 18446744073709551615)
    (A : Option Addr) (n cap : Nat) (U : Nat → Int) (hA : Hid (IntsAt w .u8 A n U)) (hU : Hid (∀ i, i < n → 0 ≤ U i ∧ U i ≤ 255)) (hn : n ≤ 140737488351232) :
    Calls Try.prog 4 #[.agg #[.int .i64 u, .int .u64 p], .slice A n cap] w fun e w' => e = .returned (.bool true) ∧ Below w.heap.size w w' := by
  have M1 := fun W => Lib.hid (mays_any u p W bu bu' bp bp')
  have BOX := Lib.hid (box1 w u p)
  cases h1 : mayS u p with
  | false =>
    rw [h1] at M1
    clear h1
    go_enter Try.func4, Try.ntmps4
    go_wp2_with (first
        | (go_at_call 7; (with_reducible refine Calls.mono (awake_any _) ?_); rintro e w0 ⟨rfl, bel0⟩
           have HB := Lib.hid bel0; clear bel0; obtain ⟨q0, q1⟩ := BOX.out _ HB.out)
        | (go_at_call 12; (with_reducible refine Calls.mono (M1 _).out ?_); rintro e w0 ⟨rfl, bel0⟩
           have HB := Lib.hid (Below.next HB.out bel0); clear bel0; obtain ⟨q0, q1⟩ := BOX.out _ HB.out))
    go_ret
    exact ⟨rfl, Below.next ((Below.refl _ _).alloc (Nat.le_refl _) _) HB.out⟩
  | true =>
    rw [h1] at M1
    by_cases h2 : p ≤ 1048576 ∧ n ≤ 100
    · obtain ⟨h2, h3⟩ := h2
      have C1 := fun W => Lib.hid (newB_any u p W bu bu' bp bp' h1)
      have B1 := Lib.hid h1
      clear h1
      go_enter Try.func4, Try.ntmps4
      go_wp2_with (first
        | (go_at_call 7; (with_reducible refine Calls.mono (awake_any _) ?_); rintro e w0 ⟨rfl, bel0⟩
           have HB := Lib.hid bel0; clear bel0; obtain ⟨q0, q1⟩ := BOX.out _ HB.out)
        | (go_at_call 12; (with_reducible refine Calls.mono (M1 _).out ?_); rintro e w0 ⟨rfl, bel0⟩
           have HB := Lib.hid (Below.next HB.out bel0); clear bel0; obtain ⟨q0, q1⟩ := BOX.out _ HB.out)
        | (go_at_call 8; (with_reducible refine Calls.mono (C1 _).out ?_); rintro e w1 ⟨b, rfl, hb, kb, bel0⟩
           have hwb := Nat.le_trans HB.out.size hb
           have HB := Lib.hid (Below.next HB.out bel0); clear bel0; obtain ⟨q0, q1⟩ := BOX.out _ HB.out))
      go_loopw [7, 8] (fun nv iv wr => Hid (Rel w b n u p nv iv wr)) (fun _ iv _ => n - (intOf iv).toNat)
      case atStart => exact ⟨0, 0, ⟨u, p, [], 0⟩, rfl, rfl, by omega, by simp, by simp, b0_ok B1.out, rfl, rfl, kb.weak, HB.out⟩
      case round =>
        obtain ⟨k, N, s, rfl, rfl, hk, hsN, hN1, ok, hsu, hsp, ks, hbel⟩ := hrel
        have BEL := Lib.hid hbel
        have KS := Lib.hid ks
        obtain ⟨q0, q1⟩ := BOX.out _ hbel
        have n0 := ok.n0
        clear ks hbel
        by_cases hkn : k < n
        · obtain ⟨at_, s1, e1, ok1, ha0, ha1, hs1n, hs1u, hs1p, cs⟩ := next ok N hsN (by omega) (by omega)
          have c1 := nextB_any KS.out ok N (by omega) (by omega)
          rw [e1] at c1
          have N1 := Lib.hid c1
          clear c1 e1
          rcases cs with ⟨ea, hl⟩ | ⟨hlt2, s2, e2, ok2, hs2n, hs2u, hs2p, hl⟩
          · subst ea
            obtain ⟨m, t1, t2, f1, f2, f3, m1, m2, okt1, okt2, t2n, t2u, t2p⟩ := take ok1 at_ (by omega) (by omega) (by omega) hl
            have T1 := fun W t (k : IsB W b s1 t) => Lib.hid (left_any k ok1 at_ (by omega) (by omega))
            have T2 := fun W t (k : IsB W b t1 t) => Lib.hid (use_any k okt1 at_ (by omega) (by omega))
            have T3 := fun W t (k : IsB W b t2 t) => Lib.hid (left_any k okt2 at_ (by omega) (by omega))
            simp only [f1] at T1
            simp only [f2] at T2
            simp only [f3] at T3
            have OK := Lib.hid okt2
            have HU := Lib.hid (hU.out k hkn)
            generalize hv : U k = v at *
            obtain ⟨v0, v1⟩ := HU.out
            have v2 : 0 ≤ v % 5 := by omega
            have v3 : v % 5 < 5 := by omega
            have z1 : (m - 1 == m - 1) = true := by simp
            clear f1 f2 f3 okt1 okt2 hl ok1 ok
            go_wp2_with (first
                | (go_at_call 13; (with_reducible refine Calls.mono N1.out ?_); rintro e w2 ⟨rfl, k', o2⟩
                   have HB2 := Lib.hid (Below.only BEL.out o2 hwb)
                   have k2 := Lib.hid k'.weak
                   clear k' o2)
                | (go_at_call 14; (with_reducible refine Calls.mono (T1 _ _ k2.out).out ?_); rintro e w4 ⟨rfl, k', o4⟩
                   have HB3 := Lib.hid (Below.only HB2.out o4 hwb)
                   have k3 := Lib.hid k'.weak
                   clear k' o4)
                | (go_at_call 10; (with_reducible refine Calls.mono (T2 _ _ k3.out).out ?_); rintro e w5 ⟨rfl, k', o5⟩
                   have HB4 := Lib.hid (Below.only HB3.out o5 hwb)
                   have k4 := Lib.hid k'
                   clear k' o5)
                | (go_at_call 14; (with_reducible refine Calls.mono (T3 _ _ k4.out).out ?_); rintro e w6 ⟨rfl, k', o6⟩
                   have HB5 := Lib.hid (Below.only HB4.out o6 hwb)
                   have k5 := Lib.hid k'.weak
                   clear k' o6
                   obtain ⟨q0, q1⟩ := BOX.out _ HB5.out
                   obtain ⟨ab, ao, eA, hlt, hcell⟩ := (hA.out.below (Below.next (((Below.refl _ _).alloc (Nat.le_refl _) _)) HB5.out)).at_ hkn
                   subst eA))
            go_roundw
            case rel => exact ⟨k + 1, at_ + v % 5, t2, rfl, by go_num, by omega, by omega, by omega, OK.out, by omega, by omega, k5.out, HB5.out⟩
            case measure => simp [intOf]; omega
          · have N2 := fun W t (k : IsB W b s1 t) => Lib.hid (use_any k ok1 (at_ - 1) (by omega) (by omega))
            simp only [e2] at N2
            clear e2
            obtain ⟨m, t1, t2, f1, f2, f3, m1, m2, okt1, okt2, t2n, t2u, t2p⟩ := take ok2 at_ (by omega) (by omega) (by omega) hl
            have T1 := fun W t (k : IsB W b s2 t) => Lib.hid (left_any k ok2 at_ (by omega) (by omega))
            have T2 := fun W t (k : IsB W b t1 t) => Lib.hid (use_any k okt1 at_ (by omega) (by omega))
            have T3 := fun W t (k : IsB W b t2 t) => Lib.hid (left_any k okt2 at_ (by omega) (by omega))
            simp only [f1] at T1
            simp only [f2] at T2
            simp only [f3] at T3
            have OK := Lib.hid okt2
            have HU := Lib.hid (hU.out k hkn)
            generalize hv : U k = v at *
            obtain ⟨v0, v1⟩ := HU.out
            have v2 : 0 ≤ v % 5 := by omega
            have v3 : v % 5 < 5 := by omega
            have z1 : (m - 1 == m - 1) = true := by simp
            clear ok2 f1 f2 f3 okt1 okt2 hl ok1 ok
            go_wp2_with (first
                | (go_at_call 13; (with_reducible refine Calls.mono N1.out ?_); rintro e w2 ⟨rfl, k', o2⟩
                   have HB1 := Lib.hid (Below.only BEL.out o2 hwb)
                   have k1 := Lib.hid k'.weak
                   clear k' o2)
                | (go_at_call 10; (with_reducible refine Calls.mono (N2 _ _ k1.out).out ?_); rintro e w3 ⟨rfl, k', o3⟩
                   have HB2 := Lib.hid (Below.only HB1.out o3 hwb)
                   have k2 := Lib.hid k'
                   clear k' o3)
                | (go_at_call 14; (with_reducible refine Calls.mono (T1 _ _ k2.out).out ?_); rintro e w4 ⟨rfl, k', o4⟩
                   have HB3 := Lib.hid (Below.only HB2.out o4 hwb)
                   have k3 := Lib.hid k'.weak
                   clear k' o4)
                | (go_at_call 10; (with_reducible refine Calls.mono (T2 _ _ k3.out).out ?_); rintro e w5 ⟨rfl, k', o5⟩
                   have HB4 := Lib.hid (Below.only HB3.out o5 hwb)
                   have k4 := Lib.hid k'
                   clear k' o5)
                | (go_at_call 14; (with_reducible refine Calls.mono (T3 _ _ k4.out).out ?_); rintro e w6 ⟨rfl, k', o6⟩
                   have HB5 := Lib.hid (Below.only HB4.out o6 hwb)
                   have k5 := Lib.hid k'.weak
                   clear k' o6
                   obtain ⟨q0, q1⟩ := BOX.out _ HB5.out
                   obtain ⟨ab, ao, eA, hlt, hcell⟩ := (hA.out.below (Below.next (((Below.refl _ _).alloc (Nat.le_refl _) _)) HB5.out)).at_ hkn
                   subst eA))
            go_roundw
            case rel => exact ⟨k + 1, at_ + v % 5, t2, rfl, by go_num, by omega, by omega, by omega, OK.out, by omega, by omega, k5.out, HB5.out⟩
            case measure => simp [intOf]; omega
        · obtain ⟨s1, e1⟩ := last ok N hsN (by omega) (by omega)
          have c1 := left_any KS.out ok (N + s.p) (by have := ok.p0; have := ok.u0; omega) (by omega)
          rw [e1] at c1
          simp only [hsp, hsu] at c1
          have N1 := Lib.hid c1
          clear c1 e1 ok
          go_wp2_with (go_at_call 14; (with_reducible refine Calls.mono N1.out ?_); rintro e w2 ⟨rfl, k', o2⟩
                       have HB2 := Lib.hid (Below.only BEL.out o2 hwb)
                       clear k' o2; obtain ⟨q0, q1⟩ := BOX.out _ HB2.out)
          go_ret
          exact ⟨retb (by simp), Below.next ((Below.refl _ _).alloc (Nat.le_refl _) _) HB2.out⟩
    · rcases (show 1048576 < p ∨ (p ≤ 1048576 ∧ 100 < n) by omega) with h3 | ⟨h3, h4⟩
      all_goals
        clear h1 h2
        go_enter Try.func4, Try.ntmps4
        go_wp2_with (first
        | (go_at_call 7; (with_reducible refine Calls.mono (awake_any _) ?_); rintro e w0 ⟨rfl, bel0⟩
           have HB := Lib.hid bel0; clear bel0; obtain ⟨q0, q1⟩ := BOX.out _ HB.out)
        | (go_at_call 12; (with_reducible refine Calls.mono (M1 _).out ?_); rintro e w0 ⟨rfl, bel0⟩
           have HB := Lib.hid (Below.next HB.out bel0); clear bel0; obtain ⟨q0, q1⟩ := BOX.out _ HB.out))
        go_ret
        exact ⟨rfl, Below.next ((Below.refl _ _).alloc (Nat.le_refl _) _) HB.out⟩
theorem walk (w : World) (cs : List Value) (ws : AllOk [some .i64, some .u64] cs) (A : Option Addr) (n cap : Nat) (D : Nat → List Value) (w2 : Elems w [some .u8] A n D) (hl : n * 1 ≤ 140737488351232) :
    Calls Try.prog 4 #[.agg ⟨cs⟩, .slice A n cap] w fun e w' => e = .returned (.bool true) ∧ Below w.heap.size w w' := by
  obtain ⟨u, p, rfl, b1, b2, b3, b4⟩ := serverOf ws
  obtain ⟨U, hA, hU⟩ := ints_of w2
  exact walk2 w u p b1 b2 b3 b4 A n cap U hA (fun i hi => bounds_u8 (hU i hi)) (by omega)
end sporBack
namespace sporBack
theorem own : ownKnob Try.prog.godebug = none := by kernel_rfl
set_option maxRecDepth 100000 in
theorem lifted (os : Os) (started : os.Started) (H : Type) (enc : TypeId × Value → H) :
    ReturnsInHanded {} Try.checked os 4 .any (Rows.sporBackSpec.pre6 enc Try.prog Try.f4 Rows.sporBackRow.domain false) (Rows.sporBackSpec.post enc Try.prog Try.f4 false true false false) := by
  refine returnsInHanded_of_change_sized (C := Try.checked) own started (by kernel_rfl) Try.func4
    (ChangeSpec.witness6 (enc := enc) (C := Try.checked) false ⟨#[], #[.agg #[.int .i64 0, .int .u64 0], .slice none 0 0], []⟩ 8 (by kernel_rfl) (by kernel_rfl) (by kernel_rfl) (by kernel_rfl)) ?_
  intro W base args ds gs before hval0 hW hcnd hsz0 _
  have hsz : (DataW.weightsEach Try.prog (Try.f4.params.toList ++ Rows.sporBackSpec.plain.varTypes Try.prog) (ds ++ gs)).all (· ≤ reachBytes) = true := hsz0
  have hval : ∀ (j : Nat) t v, Try.f4.params[j]? = some t → args[j]? = some v → Value.okWide Try.prog W .any base t v := hval0
  have hW' := hW
  obtain ⟨p, q, hA0, hV, rfl, hfz, hnd⟩ := hW
  have hA : DataW.TrodAll enc Try.prog W 0 (fun _ => true) true Try.f4.params.toList args.toList ds p := hA0
  rw [Try.params4] at hA hval hsz
  obtain ⟨v0, vs0, d0, ds0, p0, q0, hargs, rfl, rfl, h0, r0⟩ := trodAll_cons hA
  obtain ⟨v1, vs1, d1, ds1, p1, q1, rfl, rfl, rfl, h1, r1⟩ := trodAll_cons r0
  obtain ⟨rfl, rfl, rfl⟩ := trodAll_nil r1
  obtain rfl : args = #[v0, v1] := by cases args; simp_all
  obtain ⟨rfl, rfl⟩ := trodVars_none hV
  obtain ⟨c0, rfl, w0⟩ := arg_agg [some .i64, some .u64] (by first | exact .inl ⟨_, Try.underlying24⟩ | exact .inr ⟨_, _, Try.underlying24⟩) 6 (by kernel_rfl) (by kernel_rfl) (hval 0 24 v0 rfl rfl) h0
  obtain ⟨A1, n1, cap1, D1, rfl, w1, m1, z1⟩ := arg_slice [some .u8] Try.underlying37 6 (by kernel_rfl) (by kernel_rfl) (hval 1 37 v1 rfl rfl) h1
  have l1 : n1 * Try.prog.bytesOf 5 ≤ reachBytes := by
    rcases z1 with ⟨_, e⟩ | ⟨es, sp, e, el⟩
    · subst e; simp
    · subst e; subst el; exact Nat.le_trans (Nat.mul_le_mul_right _ (Nat.le_add_right _ _)) (sized_slice hsz (j := 1) (t := 37) (e := 5) rfl rfl Try.underlying37)
  have b1 : Try.prog.bytesOf 5 = 1 := by kernel_rfl
  rw [b1] at l1
  simp only [reachBytes] at l1
  clear z1 b1
  clear hA0 hval0 hsz0 hsz
  refine (walk W c0 w0 A1 n1 cap1 D1 w1 l1).mono fun e W' ⟨he, bel⟩ => ?_
  subst he
  exact ⟨_, rfl, _, _, _, [], _, [], hW', trodAll_mk1 (shut_bool Try.underlying4 _), (trodAll_cons_mk (Below.trod laidOut (by kernel_rfl) (of_decide_eq_true (by kernel_rfl)) h0 bel (fun x hx => by simpa using hW'.lt x (by simp [hx]))) (trodAll_cons_mk (Below.trod laidOut (by kernel_rfl) (of_decide_eq_true (by kernel_rfl)) h1 bel (fun x hx => by simpa using hW'.lt x (by simp [hx]))) trodAll_mk0)), rfl, bel.frame _, fun h => by cases h⟩
theorem over : Rows.sporBackRow.holds Try.pinned (OpenSpec.ofChange Rows.sporBackSpec) :=
  OpenClaim.holds_of_wide 4 Try.f4 rfl rfl rfl rfl rfl rfl rfl ⟨rfl, rfl, rfl, rfl, rfl⟩ rfl rfl rfl rfl rfl (by kernel_rfl) Try.func4 (by kernel_rfl)
    (of_decide_eq_true (by kernel_rfl)) (by unfold Func.isWrapper; first | (rw [if_pos (by decide +kernel)]; kernel_rfl) | (rw [if_neg (by decide +kernel)]; exact ⟨rfl, rfl⟩))
    (fun os started H enc _ => lifted os started H enc)
end sporBack
theorem sporBack_holds : Rows.SporBackSaid := sporBack.over
#print axioms sporBack_holds
end Go.Proofs.Ythfnaeppolgpaaa
