/- OrderTimes: what is taken is never later than what stays; those of one time, with none coming between, are all taken with at most two turns of the head. No condition. -/
import Derived.Test.YtinpaplpgoljpaaOrderJ
import Derived.Test.YtinpaplpgoljpaaArg
import Derived.Test.YtinpaplpgoljpaaRows
import Derived.ProofKit
import Derived.OpenShut
import Derived.ShutString
import Derived.ChangeOld
import Derived.Below
import Derived.SizedLaws
namespace Go.Proofs.Ytinpaplpgoljpaa
open Go.ChangeShapes Go.WideShapes Go.ChangeAt Go.RowKit
open Go.ChangeMaps (open_string shut_string)
set_option linter.unusedVariables false
set_option linter.unusedSimpArgs false
namespace orderTimes
structure Inv (l : List Wt) (h : Int) (d : Bool) (last turns : Int) : Prop where
  track : ∀ y ∈ l, 0 ≤ y.track
  dead : ∀ y ∈ l, last ≤ y.dead
  t0 : 0 ≤ turns
  t1 : turns ≤ 1
  side : turns = 1 → ∀ y ∈ l, y.dead = last → (d = true → y.track ≤ h) ∧ (d = false → h ≤ y.track)
theorem sub {l : List Wt} {x y : Wt} (h : y ∈ l.filter (fun y => !(y.id == x.id))) : y ∈ l := (List.mem_filter.1 h).1
theorem turn {l : List Wt} {h : Int} {d dn : Bool} {x : Wt} (n : Nxt l h d x dn) (hd : dn ≠ d) : ∀ y ∈ l, y.dead = x.dead → (dn = true → y.track ≤ x.track) ∧ (dn = false → x.track ≤ y.track) := by
  intro y hy e
  cases d <;> cases dn
  · exact absurd rfl hd
  · exact ⟨fun _ => ((n.down rfl).2 y hy e (Int.le_of_lt (n.turnD rfl rfl y hy e))).1, fun h => Bool.noConfusion h⟩
  · exact ⟨fun h => Bool.noConfusion h, fun _ => ((n.up rfl).2 y hy e (Int.le_of_lt (n.turnU rfl rfl y hy e))).1⟩
  · exact absurd rfl hd
theorem step_new {l : List Wt} {h last turns : Int} {d dn : Bool} {x : Wt} (i : Inv l h d last turns) (n : Nxt l h d x dn) (t : Int) (ht : (dn = d ∧ t = 0) ∨ (dn ≠ d ∧ t = 1)) : Inv (l.filter (fun y => !(y.id == x.id))) x.track dn x.dead t := by
  refine ⟨fun y hy => i.track y (sub hy), fun y hy => n.least y (sub hy), by omega, by omega, fun e y hy ed => ?_⟩
  rcases ht with ⟨_, h⟩ | ⟨h, _⟩
  · omega
  · exact turn n h y (sub hy) ed
theorem step_same {l : List Wt} {h last turns : Int} {d dn : Bool} {x : Wt} (i : Inv l h d last turns) (n : Nxt l h d x dn) (e : x.dead = last) (h1 : turns = 1) : dn = d ∧ Inv (l.filter (fun y => !(y.id == x.id))) x.track dn x.dead 1 := by
  have s := i.side h1 x n.mem e
  have hd : dn = d := by
    cases d <;> cases dn
    · rfl
    · have := n.turnD rfl rfl x n.mem rfl; have := s.2 rfl; omega
    · have := n.turnU rfl rfl x n.mem rfl; have := s.1 rfl; omega
    · rfl
  subst hd
  refine ⟨rfl, fun y hy => i.track y (sub hy), fun y hy => n.least y (sub hy), by omega, by omega, fun _ y hy ed => ?_⟩
  have s := i.side h1 y (sub hy) (ed.trans e)
  exact ⟨fun hh => ((n.down hh).2 y (sub hy) ed (s.1 hh)).1, fun hh => ((n.up hh).2 y (sub hy) ed (s.2 hh)).1⟩
theorem add_count (l : List Wt) (x : Wt) : ((addF l x).1 = 0 ∧ (addF l x).2.length = l.length + 1) ∨ ((addF l x).1 ≠ 0 ∧ (addF l x).2 = l) := by
  unfold addF
  split
  · split
    · exact .inr ⟨by simp, rfl⟩
    · split
      · exact .inr ⟨by simp, rfl⟩
      · exact .inl ⟨rfl, insW_len _ _⟩
  · exact .inr ⟨by simp, rfl⟩
def Rel1 (w : World) (n p base : Nat) (mv iv : Value) (wr : World) : Prop :=
  ∃ (i : Nat) (l : List Wt), iv = .int .i64 i ∧ mv = .int .i64 (l.length : Nat) ∧ i ≤ n ∧ l.length ≤ i ∧ (∀ y ∈ l, 0 ≤ y.track ∧ 0 ≤ y.dead) ∧ KeptQ wr p base NF l 0 false ∧ base ≤ wr.heap.size ∧ Below w.heap.size w wr
def Rel2 (w : World) (m p base : Nat) (lv tv yv kv : Value) (wr : World) : Prop :=
  ∃ (k : Nat) (l : List Wt) (h : Int) (d : Bool) (last turns : Int), kv = .int .i64 k ∧ lv = .int .u64 last ∧ tv = .int .i64 turns ∧ yv = .bool (!d) ∧ l.length + k = m ∧ Inv l h d last turns ∧ KeptQ wr p base NF l h d ∧ base ≤ wr.heap.size ∧ Below w.heap.size w wr
set_option maxRecDepth 100000 in
set_option maxHeartbeats 4000000 in
theorem walk2 (w : World) (A : Option Addr) (n c : Nat) (U : Nat → Wt) (hs : Hid (WantsAt w A n U)) (hw : Hid (∀ i, i < n → 0 ≤ (U i).dead)) (hn : n ≤ 140737488351232) :
    Calls Try.prog 7 #[.slice A n c] w fun e w' => e = .returned (.bool true) ∧ Below w.heap.size w w' := by
  have CN := fun W => Lib.hid (newq_k W)
  by_cases h64 : 64 < n
  · have d1 : decide ((64 : Int) < n) = true := decide_eq_true (by omega)
    go_enter Try.func7, Try.ntmps7
    go_wp2_with (first
      | (go_at_call 9; (with_reducible refine Calls.mono (awake_any _) ?_); rintro e w0 ⟨rfl, bel0⟩; have HB := Lib.hid bel0; clear bel0))
    go_ret
    exact ⟨rfl, HB.out⟩
  · have d1 : decide ((64 : Int) < n) = false := decide_eq_false (by omega)
    go_enter Try.func7, Try.ntmps7
    go_wp2_with (first
      | (go_at_call 9; (with_reducible refine Calls.mono (awake_any _) ?_); rintro e w0 ⟨rfl, bel0⟩; have HB := Lib.hid bel0; clear bel0)
      | (go_at_call 10; (with_reducible refine Calls.mono (CN _).out ?_); rintro e w1 ⟨p, rfl, k1, b1⟩; have K1 := Lib.hid (show KeptQ w1 p w0.heap.size NF [] 0 false from k1); have S1 := Lib.hid b1.size; have B1 := Lib.hid (Below.next HB.out b1); clear k1 b1))
    go_loopw [4, 5] (fun mv iv wr => Hid (Rel1 w n p w0.heap.size mv iv wr)) (fun _ iv _ => (n - intOf iv).toNat)
    case atStart => exact ⟨0, [], rfl, rfl, by omega, by simp, fun y hy => (by cases hy), K1.out, S1.out, B1.out⟩
    case round =>
      obtain ⟨i, l, rfl, rfl, hi, hli, hok, ki, si, bi⟩ := hrel
      have KI := Lib.hid ki
      have SI := Lib.hid si
      have BI := Lib.hid bi
      have f := ki.fine
      clear ki si bi K1 S1 B1
      by_cases hin : i < n
      · have hin2 : (i : Int) < n := by omega
        obtain ⟨b, off, rfl, hlt, c0, c1, c2⟩ := hs.out.at_ hin
        have g1 : IntKind.i64.wrap ((i : Int) + 1) = i + 1 := IntWalk.i64_in _ (by omega)
        have g2 : IntKind.i64.wrap ((l.length : Int) + 1) = l.length + 1 := IntWalk.i64_in _ (by omega)
        have hd0 := hw.out i hin
        obtain ⟨x, hux⟩ : ∃ x, U i = x := ⟨_, rfl⟩
        rw [hux] at c0 c1 c2 hd0
        have c0 := (BI.out.cell (p := ⟨b, off + i * 3, none⟩) hlt).trans c0
        have c1 := (BI.out.cell (p := ⟨b, off + i * 3 + 1, none⟩) hlt).trans c1
        have c2 := (BI.out.cell (p := ⟨b, off + i * 3 + 2, none⟩) hlt).trans c2
        have hbl := Nat.lt_of_lt_of_le hlt BI.out.size
        have ac := add_count l x
        have ok2 : ∀ y ∈ (addF l x).2, 0 ≤ y.track ∧ 0 ≤ y.dead := fun y hy => ⟨add_track (fun y hy => (hok y hy).1) y hy, (add_sub hy).elim (fun h => (hok y h).2) (fun e => e.1 ▸ hd0)⟩
        obtain ⟨⟨e, l1⟩, hr⟩ : ∃ r, addF l x = r := ⟨_, rfl⟩
        rw [hr] at ac ok2
        simp only at ac ok2
        have OK2 := Lib.hid ok2
        obtain ⟨a1, a2, a3⟩ := x
        have R1 := Lib.hid hr
        simp only at c0 c1 c2
        clear hr hux ok2 hok f hd0
        rcases ac with ⟨rfl, hl1⟩ | ⟨he, rfl⟩
        · have HL := Lib.hid hl1
          clear hl1
          go_wp2_with (first
            | (go_at_call 11; (with_reducible refine Calls.mono (add_at KI.out nf SI.out R1.out) ?_); rintro e w4 ⟨rfl, k4, o4⟩; have K4 := Lib.hid k4; have S4 := Lib.hid (Nat.le_trans SI.out o4.size); have B4 := Lib.hid (Below.onlyF BI.out o4 (fun i h => Nat.le_trans HB.out.size h.1)); clear k4 o4))
          go_roundw
          case rel => exact ⟨i + 1, l1, by go_num, by rw [HL.out]; go_num, by omega, by rw [HL.out]; omega, OK2.out, K4.out, S4.out, B4.out⟩
          case measure => simp [intOf]; omega
        · have f2 : (e == 0) = false := beq_eq_false_iff_ne.2 he
          clear he
          go_wp2_with (first
            | (go_at_call 11; (with_reducible refine Calls.mono (add_at KI.out nf SI.out R1.out) ?_); rintro e w4 ⟨rfl, k4, o4⟩; have K4 := Lib.hid k4; have S4 := Lib.hid (Nat.le_trans SI.out o4.size); have B4 := Lib.hid (Below.onlyF BI.out o4 (fun i h => Nat.le_trans HB.out.size h.1)); clear k4 o4))
          go_roundw
          case rel => exact ⟨i + 1, l1, by go_num, rfl, by omega, by omega, OK2.out, K4.out, S4.out, B4.out⟩
          case measure => simp [intOf]; omega
      · obtain rfl : i = n := by omega
        have hin2 : ¬ (i : Int) < i := by omega
        have HE := fun W (k : KeptQ W p w0.heap.size NF l 0 false) => Lib.hid (head_k k)
        obtain ⟨m, hm⟩ : ∃ m, l.length = m := ⟨_, rfl⟩
        have OK1 := Lib.hid hok
        have HM := Lib.hid hm
        rw [hm] at hli
        have hm64 : m ≤ 64 := by omega
        simp only [hm]
        clear hok hm f
        go_wp2_with (first
          | (go_at_call 16; (with_reducible refine Calls.mono (HE _ KI.out).out ?_); rintro e w4 ⟨rfl, k4, b4⟩; have K4 := Lib.hid k4; have S4 := Lib.hid (Nat.le_trans SI.out b4.size); have B4 := Lib.hid (Below.next BI.out b4); clear k4 b4))
        go_loopw [6, 7, 9, 10] (fun lv tv yv kv wr => Hid (Rel2 w m p w0.heap.size lv tv yv kv wr)) (fun _ _ _ kv _ => (m - intOf kv).toNat)
        case atStart => exact ⟨0, l, 0, false, 0, 0, rfl, rfl, rfl, rfl, HM.out, ⟨fun y hy => (OK1.out y hy).1, fun y hy => (OK1.out y hy).2, by omega, by omega, fun e => by omega⟩, K4.out, S4.out, B4.out⟩
        case round =>
        obtain ⟨j, l2, h, d, last, turns, rfl, rfl, rfl, rfl, hj, iv, kj, sj, bj⟩ := hrel
        have KJ := Lib.hid kj
        have SJ := Lib.hid sj
        have BJ := Lib.hid bj
        have f := kj.fine
        clear kj sj bj KI SI BI K4 S4 B4 OK1 HM HE
        by_cases hjn : j < m
        · have hjn2 : (j : Int) < m := by omega
          have g1 : IntKind.i64.wrap ((j : Int) + 1) = j + 1 := IntWalk.i64_in _ (by omega)
          obtain ⟨x, dn, n⟩ := next_spec f (by rintro rfl; simp at hj; omega) iv.track h d
          obtain ⟨tk, tl⟩ := take_spec f n
          have TL : Hid ((l2.filter (fun y => !(y.id == x.id))).length + 1 = l2.length) := tl
          have e1 : decide (x.dead < last) = false := decide_eq_false (by have := iv.dead x n.mem; omega)
          have HE := fun W F (k : KeptQ W p w0.heap.size F (l2.filter (fun y => !(y.id == x.id))) x.track dn) => Lib.hid (head_k k)
          by_cases hx : x.dead = last
          · subst hx
            by_cases h1 : turns = 1
            · obtain ⟨rfl, iv2⟩ := step_same iv n rfl h1
              subst h1
              have IV := Lib.hid iv2
              obtain ⟨a, b, c⟩ := x
              simp only at *
              have TK := Lib.hid tk
              clear tk tl iv n f
              go_wp2_with (first
                | (go_at_call 13; (with_reducible refine Calls.mono (take_at KJ.out nf SJ.out TK.out) ?_); rintro e w5 ⟨rfl, k5, o5⟩; have K5 := Lib.hid (k5.below ((Below.refl _ _).alloc (Nat.le_refl _) (.cells #[.int .i64 a, .int .u64 b, .int .i64 c] 30))); have B5 := Lib.hid (Below.onlyF BJ.out o5 (fun i h => Nat.le_trans HB.out.size h.1)); have B6 := Lib.hid (B5.out.alloc B5.out.size (.cells #[.int .i64 a, .int .u64 b, .int .i64 c] 30)); have S6 := Lib.hid (show w0.heap.size ≤ (w5.alloc (.cells #[.int .i64 a, .int .u64 b, .int .i64 c] 30)).heap.size from (by have := SJ.out; have := o5.size; simp at *; omega)); have X5 := Lib.hid (Blk.new w5 30 [.int .i64 a, .int .u64 b, .int .i64 c]); clear k5 o5)
                | (go_at_call 16; (with_reducible refine Calls.mono (HE _ _ K5.out).out ?_); rintro e w7 ⟨rfl, k7, b7⟩; have K7 := Lib.hid k7; have S7 := Lib.hid (Nat.le_trans S6.out b7.size); have B7 := Lib.hid (Below.next B6.out b7); have X7 := Lib.hid (X5.out.below b7 X5.out.lt); have x1 := X7.out.cell 1; have xl := X7.out.lt; clear k7 b7))
              go_roundw
              case rel => exact ⟨j + 1, _, _, dn, _, 1, by go_num, rfl, rfl, rfl, by have := TL.out; omega, IV.out, K7.out, S7.out, B7.out⟩
              case measure => simp [intOf]; omega
            · have t0 : turns = 0 := by have := iv.t0; have := iv.t1; omega
              subst t0
              by_cases hd : dn = d
              · have IV := Lib.hid (step_new iv n 0 (.inl ⟨hd, rfl⟩))
                subst hd
                obtain ⟨a, b, c⟩ := x
                simp only at *
                have TK := Lib.hid tk
                clear tk tl iv n f
                go_wp2_with (first
                  | (go_at_call 13; (with_reducible refine Calls.mono (take_at KJ.out nf SJ.out TK.out) ?_); rintro e w5 ⟨rfl, k5, o5⟩; have K5 := Lib.hid (k5.below ((Below.refl _ _).alloc (Nat.le_refl _) (.cells #[.int .i64 a, .int .u64 b, .int .i64 c] 30))); have B5 := Lib.hid (Below.onlyF BJ.out o5 (fun i h => Nat.le_trans HB.out.size h.1)); have B6 := Lib.hid (B5.out.alloc B5.out.size (.cells #[.int .i64 a, .int .u64 b, .int .i64 c] 30)); have S6 := Lib.hid (show w0.heap.size ≤ (w5.alloc (.cells #[.int .i64 a, .int .u64 b, .int .i64 c] 30)).heap.size from (by have := SJ.out; have := o5.size; simp at *; omega)); have X5 := Lib.hid (Blk.new w5 30 [.int .i64 a, .int .u64 b, .int .i64 c]); clear k5 o5)
                  | (go_at_call 16; (with_reducible refine Calls.mono (HE _ _ K5.out).out ?_); rintro e w7 ⟨rfl, k7, b7⟩; have K7 := Lib.hid k7; have S7 := Lib.hid (Nat.le_trans S6.out b7.size); have B7 := Lib.hid (Below.next B6.out b7); have X7 := Lib.hid (X5.out.below b7 X5.out.lt); have x1 := X7.out.cell 1; have xl := X7.out.lt; clear k7 b7))
                go_roundw
                case rel => exact ⟨j + 1, _, _, dn, _, 0, by go_num, rfl, rfl, rfl, by have := TL.out; omega, IV.out, K7.out, S7.out, B7.out⟩
                case measure => simp [intOf]; omega
              · have IV := Lib.hid (step_new iv n 1 (.inr ⟨hd, rfl⟩))
                have f4 : ((!dn) == (!d)) = false := by cases d <;> cases dn <;> first | rfl | exact absurd rfl hd
                obtain ⟨a, b, c⟩ := x
                simp only at *
                have TK := Lib.hid tk
                clear tk tl iv n f
                go_wp2_with (first
                  | (go_at_call 13; (with_reducible refine Calls.mono (take_at KJ.out nf SJ.out TK.out) ?_); rintro e w5 ⟨rfl, k5, o5⟩; have K5 := Lib.hid (k5.below ((Below.refl _ _).alloc (Nat.le_refl _) (.cells #[.int .i64 a, .int .u64 b, .int .i64 c] 30))); have B5 := Lib.hid (Below.onlyF BJ.out o5 (fun i h => Nat.le_trans HB.out.size h.1)); have B6 := Lib.hid (B5.out.alloc B5.out.size (.cells #[.int .i64 a, .int .u64 b, .int .i64 c] 30)); have S6 := Lib.hid (show w0.heap.size ≤ (w5.alloc (.cells #[.int .i64 a, .int .u64 b, .int .i64 c] 30)).heap.size from (by have := SJ.out; have := o5.size; simp at *; omega)); have X5 := Lib.hid (Blk.new w5 30 [.int .i64 a, .int .u64 b, .int .i64 c]); clear k5 o5)
                  | (go_at_call 16; (with_reducible refine Calls.mono (HE _ _ K5.out).out ?_); rintro e w7 ⟨rfl, k7, b7⟩; have K7 := Lib.hid k7; have S7 := Lib.hid (Nat.le_trans S6.out b7.size); have B7 := Lib.hid (Below.next B6.out b7); have X7 := Lib.hid (X5.out.below b7 X5.out.lt); have x1 := X7.out.cell 1; have xl := X7.out.lt; clear k7 b7))
                go_roundw
                case rel => exact ⟨j + 1, _, _, dn, _, 1, by go_num, rfl, rfl, rfl, by have := TL.out; omega, IV.out, K7.out, S7.out, B7.out⟩
                case measure => simp [intOf]; omega
          · have f3 : (x.dead == last) = false := beq_eq_false_iff_ne.2 hx
            by_cases hd : dn = d
            · have IV := Lib.hid (step_new iv n 0 (.inl ⟨hd, rfl⟩))
              subst hd
              obtain ⟨a, b, c⟩ := x
              simp only at *
              have TK := Lib.hid tk
              clear tk tl iv n f
              go_wp2_with (first
                | (go_at_call 13; (with_reducible refine Calls.mono (take_at KJ.out nf SJ.out TK.out) ?_); rintro e w5 ⟨rfl, k5, o5⟩; have K5 := Lib.hid (k5.below ((Below.refl _ _).alloc (Nat.le_refl _) (.cells #[.int .i64 a, .int .u64 b, .int .i64 c] 30))); have B5 := Lib.hid (Below.onlyF BJ.out o5 (fun i h => Nat.le_trans HB.out.size h.1)); have B6 := Lib.hid (B5.out.alloc B5.out.size (.cells #[.int .i64 a, .int .u64 b, .int .i64 c] 30)); have S6 := Lib.hid (show w0.heap.size ≤ (w5.alloc (.cells #[.int .i64 a, .int .u64 b, .int .i64 c] 30)).heap.size from (by have := SJ.out; have := o5.size; simp at *; omega)); have X5 := Lib.hid (Blk.new w5 30 [.int .i64 a, .int .u64 b, .int .i64 c]); clear k5 o5)
                | (go_at_call 16; (with_reducible refine Calls.mono (HE _ _ K5.out).out ?_); rintro e w7 ⟨rfl, k7, b7⟩; have K7 := Lib.hid k7; have S7 := Lib.hid (Nat.le_trans S6.out b7.size); have B7 := Lib.hid (Below.next B6.out b7); have X7 := Lib.hid (X5.out.below b7 X5.out.lt); have x1 := X7.out.cell 1; have xl := X7.out.lt; clear k7 b7))
              go_roundw
              case rel => exact ⟨j + 1, _, _, dn, _, 0, by go_num, rfl, rfl, rfl, by have := TL.out; omega, IV.out, K7.out, S7.out, B7.out⟩
              case measure => simp [intOf]; omega
            · have IV := Lib.hid (step_new iv n 1 (.inr ⟨hd, rfl⟩))
              have f4 : ((!dn) == (!d)) = false := by cases d <;> cases dn <;> first | rfl | exact absurd rfl hd
              obtain ⟨a, b, c⟩ := x
              simp only at *
              have TK := Lib.hid tk
              clear tk tl iv n f
              go_wp2_with (first
                | (go_at_call 13; (with_reducible refine Calls.mono (take_at KJ.out nf SJ.out TK.out) ?_); rintro e w5 ⟨rfl, k5, o5⟩; have K5 := Lib.hid (k5.below ((Below.refl _ _).alloc (Nat.le_refl _) (.cells #[.int .i64 a, .int .u64 b, .int .i64 c] 30))); have B5 := Lib.hid (Below.onlyF BJ.out o5 (fun i h => Nat.le_trans HB.out.size h.1)); have B6 := Lib.hid (B5.out.alloc B5.out.size (.cells #[.int .i64 a, .int .u64 b, .int .i64 c] 30)); have S6 := Lib.hid (show w0.heap.size ≤ (w5.alloc (.cells #[.int .i64 a, .int .u64 b, .int .i64 c] 30)).heap.size from (by have := SJ.out; have := o5.size; simp at *; omega)); have X5 := Lib.hid (Blk.new w5 30 [.int .i64 a, .int .u64 b, .int .i64 c]); clear k5 o5)
                | (go_at_call 16; (with_reducible refine Calls.mono (HE _ _ K5.out).out ?_); rintro e w7 ⟨rfl, k7, b7⟩; have K7 := Lib.hid k7; have S7 := Lib.hid (Nat.le_trans S6.out b7.size); have B7 := Lib.hid (Below.next B6.out b7); have X7 := Lib.hid (X5.out.below b7 X5.out.lt); have x1 := X7.out.cell 1; have xl := X7.out.lt; clear k7 b7))
              go_roundw
              case rel => exact ⟨j + 1, _, _, dn, _, 1, by go_num, rfl, rfl, rfl, by have := TL.out; omega, IV.out, K7.out, S7.out, B7.out⟩
              case measure => simp [intOf]; omega
        · have e0 : l2 = [] := List.eq_nil_of_length_eq_zero (by omega)
          subst e0
          obtain rfl : j = m := by simp at hj; omega
          have hjn2 : ¬ (j : Int) < j := by omega
          have NX := fun W (k : KeptQ W p w0.heap.size NF [] h d) => Lib.hid (nextq_at k (show nextF [] h d = (⟨0, 0, 0⟩, false, 5) from rfl))
          have AL := fun W (k : KeptQ W p w0.heap.size NF [] h d) => Lib.hid (all_k k)
          clear iv f
          go_wp2_with (first
            | (go_at_call 15; (with_reducible refine Calls.mono (NX _ KJ.out).out ?_); rintro e w5 ⟨rfl, k5, b5⟩; have K5 := Lib.hid (k5.below ((Below.refl _ _).alloc (Nat.le_refl _) (.cells #[.int .i64 0, .int .u64 0, .int .i64 0] 30))); have B5 := Lib.hid ((Below.next BJ.out b5).alloc (Below.next BJ.out b5).size (.cells #[.int .i64 0, .int .u64 0, .int .i64 0] 30)); clear k5 b5)
            | (go_at_call 23; (with_reducible refine Calls.mono (AL _ K5.out).out ?_); rintro e w6 ⟨A6, c6, rfl, -, b6⟩; have B6 := Lib.hid (Below.next B5.out b6); clear b6))
          go_ret
          exact ⟨rfl, B6.out⟩
theorem walk (w : World) (A0 : Option Addr) (n0 cap0 : Nat) (D0 : Nat → List Value) (w0 : Elems w [some .i64, some .u64, some .i64] A0 n0 D0) (l0 : n0 * 24 ≤ 140737488351232) :
    Calls Try.prog 7 #[.slice A0 n0 cap0] w fun e w' => e = .returned (.bool true) ∧ Below w.heap.size w w' := by
  obtain ⟨U, hU, hw⟩ := wants_of w0
  exact walk2 w A0 n0 cap0 U (Lib.hid hU) (Lib.hid fun i hi => (bounds_u64 (hw i hi)).1) (by omega)
end orderTimes
namespace orderTimes
theorem own : ownKnob Try.prog.godebug = none := by kernel_rfl
set_option maxRecDepth 100000 in
theorem lifted (os : Os) (started : os.Started) (H : Type) (enc : TypeId × Value → H) :
    ReturnsInHanded {} Try.checked os 7 .any (Rows.orderTimesSpec.pre6 enc Try.prog Try.f7 Rows.orderTimesRow.domain false) (Rows.orderTimesSpec.post enc Try.prog Try.f7 false true false false) := by
  refine returnsInHanded_of_change_sized (C := Try.checked) own started (by kernel_rfl) Try.func7
    (ChangeSpec.witness6 (enc := enc) (C := Try.checked) false ⟨#[], #[.slice none 0 0], []⟩ 8 (by kernel_rfl) (by kernel_rfl) (by kernel_rfl) (by kernel_rfl)) ?_
  intro W base args ds gs before hval0 hW hcnd hsz0 _
  have hsz : (DataW.weightsEach Try.prog (Try.f7.params.toList ++ Rows.orderTimesSpec.plain.varTypes Try.prog) (ds ++ gs)).all (· ≤ reachBytes) = true := hsz0
  have hval : ∀ (j : Nat) t v, Try.f7.params[j]? = some t → args[j]? = some v → Value.okWide Try.prog W .any base t v := hval0
  have hW' := hW
  obtain ⟨p, q, hA0, hV, rfl, hfz, hnd⟩ := hW
  have hA : DataW.TrodAll enc Try.prog W 0 (fun _ => true) true Try.f7.params.toList args.toList ds p := hA0
  rw [Try.params7] at hA hval hsz
  obtain ⟨v0, vs0, d0, ds0, p0, q0, hargs, rfl, rfl, h0, r0⟩ := trodAll_cons hA
  obtain ⟨rfl, rfl, rfl⟩ := trodAll_nil r0
  obtain rfl : args = #[v0] := by cases args; simp_all
  obtain ⟨rfl, rfl⟩ := trodVars_none hV
  obtain ⟨A0, n0, cap0, D0, rfl, w0, m0, z0⟩ := arg_slice [some .i64, some .u64, some .i64] Try.underlying22 6 (by kernel_rfl) (by kernel_rfl) (hval 0 22 v0 rfl rfl) h0
  have l0 : n0 * Try.prog.bytesOf 30 ≤ reachBytes := by
    rcases z0 with ⟨_, e⟩ | ⟨es, sp, e, el⟩
    · subst e; simp
    · subst e; subst el; exact Nat.le_trans (Nat.mul_le_mul_right _ (Nat.le_add_right _ _)) (sized_slice hsz (j := 0) (t := 22) (e := 30) rfl rfl Try.underlying22)
  have b0 : Try.prog.bytesOf 30 = 24 := by kernel_rfl
  rw [b0] at l0
  simp only [reachBytes] at l0
  clear z0 b0
  clear hA0 hval0 hsz0 hsz
  refine (walk W A0 n0 cap0 D0 w0 l0).mono fun e W' ⟨he, bel⟩ => ?_
  subst he
  exact ⟨_, rfl, _, _, _, [], _, [], hW', trodAll_mk1 (shut_bool Try.underlying4 _), (trodAll_cons_mk (Below.trod laidOut (by kernel_rfl) (of_decide_eq_true (by kernel_rfl)) h0 bel (fun x hx => by simpa using hW'.lt x (by simp [hx]))) trodAll_mk0), rfl, bel.frame _, fun h => by cases h⟩
theorem over : Rows.orderTimesRow.holds Try.pinned (OpenSpec.ofChange Rows.orderTimesSpec) :=
  OpenClaim.holds_of_wide 7 Try.f7 rfl rfl rfl rfl rfl rfl rfl ⟨rfl, rfl, rfl, rfl, rfl⟩ rfl rfl rfl rfl rfl (by kernel_rfl) Try.func7 (by kernel_rfl)
    (of_decide_eq_true (by kernel_rfl)) (by unfold Func.isWrapper; first | (rw [if_pos (by decide +kernel)]; kernel_rfl) | (rw [if_neg (by decide +kernel)]; exact ⟨rfl, rfl⟩))
    (fun os started H enc _ => lifted os started H enc)
end orderTimes
theorem orderTimes_holds : Rows.OrderTimesSaid := orderTimes.over
#print axioms orderTimes_holds
end Go.Proofs.Ytinpaplpgoljpaa
