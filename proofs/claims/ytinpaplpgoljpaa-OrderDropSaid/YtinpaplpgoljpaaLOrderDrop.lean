/- OrderDrop: whoever goes is never taken; the others are taken as if it had never been, as long as the head is where it was. No condition. -/
import Derived.Test.YtinpaplpgoljpaaOrderArg
import Derived.Test.YtinpaplpgoljpaaArg
import Derived.Test.YtinpaplpgoljpaaRows
import Derived.ProofKit
import Derived.OpenShut
import Derived.ShutString
import Derived.ChangeOld
import Derived.Below
import Derived.SizedLaws
namespace Go.Proofs.Ytinpaplpgoljpaa
open Go.ChangeShapes Go.WideShapes Go.ChangeAt Go.RowKit
open Go.ChangeMaps (open_string shut_string)
set_option linter.unusedVariables false
set_option linter.unusedSimpArgs false
namespace orderDrop
structure Inv (id : Int) (i : Nat) (l : List Wt) (T : Bool) : Prop where
  len : l.length ≤ i
  there : T = true ↔ ∃ x ∈ l, x.id = id
  track : ∀ y ∈ l, 0 ≤ y.track
theorem start (id : Int) : Inv id 0 [] false := ⟨Nat.le_refl _, ⟨fun h => Bool.noConfusion h, fun ⟨x, h, _⟩ => by cases h⟩, fun y h => by cases h⟩
theorem step_other {id : Int} {i : Nat} {l : List Wt} {T : Bool} {x : Wt} (v : Inv id i l T) (f : Fine l) (hx : x.id ≠ id) : Inv id (i + 1) (addF l x).2 T := by
  refine ⟨by have := add_len l x; have := v.len; omega, ?_, add_track v.track⟩
  rw [v.there]
  constructor
  · rintro ⟨y, hy, e⟩
    exact ⟨y, by
      unfold addF
      split
      · split
        · exact hy
        · split
          · exact hy
          · exact mem_insW.2 (.inr hy)
      · exact hy, e⟩
  · rintro ⟨y, hy, e⟩
    rcases add_sub hy with h | ⟨rfl, -⟩
    · exact ⟨y, h, e⟩
    · exact absurd e hx
theorem step_in {i : Nat} {l : List Wt} {T : Bool} {x : Wt} (v : Inv x.id i l T) (h : (addF l x).1 = 0) (hm : x ∈ (addF l x).2) : Inv x.id (i + 1) (addF l x).2 true :=
  ⟨by have := add_len l x; have := v.len; omega, ⟨fun _ => ⟨x, hm, rfl⟩, fun _ => rfl⟩, add_track v.track⟩
def Rel1 (w : World) (n pa pb base : Nat) (id : Int) (tv iv : Value) (wr : World) : Prop :=
  ∃ (i : Nat) (l : List Wt) (T : Bool), iv = .int .i64 i ∧ tv = .bool T ∧ i ≤ n ∧ Inv id i l T ∧ Two wr pa pb base NF l (fl id l) 0 0 false false ∧ base ≤ wr.heap.size ∧ Below w.heap.size w wr
def Rel2 (w : World) (pa pb base : Nat) (id : Int) (iv : Value) (wr : World) : Prop :=
  ∃ (i : Nat) (l : List Wt) (h : Int) (d : Bool), iv = .int .i64 i ∧ i ≤ 65 ∧ (∀ y ∈ l, y.id ≠ id ∧ 0 ≤ y.track) ∧ Two wr pa pb base NF l l h h d d ∧ base ≤ wr.heap.size ∧ Below w.heap.size w wr
theorem take_ok {id : Int} {l : List Wt} (f : Fine l) (hl : ∀ y ∈ l, y.id ≠ id ∧ 0 ≤ y.track) (h : Int) (d : Bool) : ∃ a b c x l' h' d', takeF l h d = ((⟨a, b, c⟩, x), (l', h', d')) ∧ (∀ y ∈ l', y.id ≠ id ∧ 0 ≤ y.track) ∧ ((x = 0 ∧ a ≠ id) ∨ x = 5) := by
  by_cases e : l = []
  · subst e
    exact ⟨0, 0, 0, 5, [], h, d, take_none h d, (fun y hy => by cases hy), .inr rfl⟩
  · obtain ⟨x, dn, n⟩ := next_spec f e (fun x hx => (hl x hx).2) h d
    exact ⟨x.id, x.dead, x.track, 0, _, _, _, (take_spec f n).1, fun y hy => hl y (List.mem_filter.1 hy).1, .inl ⟨rfl, (hl x n.mem).1⟩⟩
set_option maxRecDepth 100000 in
set_option maxHeartbeats 4000000 in
theorem walk2 (w : World) (A : Option Addr) (n c : Nat) (U : Nat → Wt) (hs : Hid (WantsAt w A n U)) (hn : n ≤ 140737488351232) (id : Int) :
    Calls Try.prog 3 #[.slice A n c, .int .i64 id] w fun e w' => e = .returned (.bool true) ∧ Below w.heap.size w w' := by
  have CN := fun W => Lib.hid (newq_k W)
  by_cases h64 : 64 < n
  · have d1 : decide ((64 : Int) < n) = true := decide_eq_true (by omega)
    go_enter Try.func3, Try.ntmps3
    go_wp2_with (first
      | (go_at_call 9; (with_reducible refine Calls.mono (awake_any _) ?_); rintro e w0 ⟨rfl, bel0⟩; have HB := Lib.hid bel0; clear bel0))
    go_ret
    exact ⟨rfl, HB.out⟩
  · have d1 : decide ((64 : Int) < n) = false := decide_eq_false (by omega)
    go_enter Try.func3, Try.ntmps3
    go_wp2_with (first
      | (go_at_call 9; (with_reducible refine Calls.mono (awake_any _) ?_); rintro e w0 ⟨rfl, bel0⟩; have HB := Lib.hid bel0; have D0 := Lib.hid (rfl : w0 = w0); clear bel0)
      | (go_at_call 10; (with_reducible refine Calls.mono (CN _).out ?_); rintro e w1 ⟨pa, rfl, k1, b1⟩; have K1 := Lib.hid (show KeptQ w1 pa w0.heap.size NF [] 0 false from k1); have S1 := Lib.hid b1.size; have B1 := Lib.hid (Below.next HB.out b1); clear k1 b1 CN)
      | (go_at_call 10; (with_reducible refine Calls.mono (two_new K1.out S1.out) ?_); rintro e w2 ⟨pb, rfl, k2, b2⟩; have K2 := Lib.hid k2; have S2 := Lib.hid (Nat.le_trans S1.out b2.size); have B2 := Lib.hid (Below.next B1.out b2); clear k2 b2))
    go_loopw [7, 8] (fun tv iv wr => Hid (Rel1 w n pa pb w0.heap.size id tv iv wr)) (fun _ iv _ => (n - intOf iv).toNat)
    case atStart => exact ⟨0, [], false, rfl, rfl, by omega, start id, K2.out, S2.out, B2.out⟩
    case round =>
      obtain ⟨i, l, T, rfl, rfl, hi, iv, ki, si, bi⟩ := hrel
      have KI := Lib.hid ki
      have SI := Lib.hid si
      have BI := Lib.hid bi
      have f := ki.fine.1
      clear ki si bi K1 K2 S1 S2 B1 B2
      by_cases hin : i < n
      · have hin2 : (i : Int) < n := by omega
        obtain ⟨b, off, rfl, hlt, c0, c1, c2⟩ := hs.out.at_ hin
        have g1 : IntKind.i64.wrap ((i : Int) + 1) = i + 1 := IntWalk.i64_in _ (by omega)
        obtain ⟨x, hux⟩ : ∃ x, U i = x := ⟨_, rfl⟩
        rw [hux] at c0 c1 c2
        clear hux
        by_cases hx : x.id = id
        · subst hx
          obtain ⟨⟨e, l1⟩, hr⟩ : ∃ r, addF l x = r := ⟨_, rfl⟩
          have AH := add_here (x := x) f
          rw [hr] at AH
          simp only at AH
          by_cases he : e = 0
          · have h1 : fl x.id l1 = fl x.id l ∧ x ∈ l1 := by
              rcases AH with h | h
              · exact h.2
              · exact absurd he h.1
            have st := step_in iv (by rw [hr]; exact he) (by rw [hr]; exact h1.2)
            rw [hr] at st
            have IV := Lib.hid st
            have FE := Lib.hid h1.1
            subst he
            obtain ⟨a1, a2, a3⟩ := x
            have R1 := Lib.hid hr
            have C0 := fun W (o : Below w.heap.size w W) => Lib.hid ((o.cell (p := ⟨b, off + i * 3, none⟩) hlt).trans c0)
            have C1 := fun W (o : Below w.heap.size w W) => Lib.hid ((o.cell (p := ⟨b, off + i * 3 + 1, none⟩) hlt).trans c1)
            have C2 := fun W (o : Below w.heap.size w W) => Lib.hid ((o.cell (p := ⟨b, off + i * 3 + 2, none⟩) hlt).trans c2)
            have hli := Nat.lt_of_lt_of_le hlt BI.out.size
            have c0 := (C0 _ BI.out).out
            have c1 := (C1 _ BI.out).out
            have c2 := (C2 _ BI.out).out
            simp only at *
            clear hr AH h1 st iv f
            go_wp2_with (first
              | (go_at_call 11; (with_reducible refine Calls.mono (two_add KI.out nf SI.out R1.out) ?_); rintro e w4 ⟨rfl, k4, o4⟩; have K4 := Lib.hid k4; have S4 := Lib.hid (Nat.le_trans SI.out o4.size); have B4 := Lib.hid (Below.onlyF BI.out o4 (fun i h => Nat.le_trans HB.out.size h.1)); have c0 := (C0 _ B4.out).out; have c1 := (C1 _ B4.out).out; have c2 := (C2 _ B4.out).out; have hl4 := Nat.lt_of_lt_of_le hlt B4.out.size; clear k4 o4))
            go_roundw
            case rel => exact ⟨i + 1, l1, true, by go_num, rfl, by omega, IV.out, by rw [FE.out]; exact K4.out, S4.out, B4.out⟩
            case measure => simp [intOf]; omega
          · have h1 : l1 = l := by
              rcases AH with h | h
              · exact absurd h.1 he
              · exact h.2
            subst h1
            have IV := Lib.hid (show Inv x.id (i + 1) l1 T from ⟨by have := iv.len; omega, iv.there, iv.track⟩)
            have f2 : (e == 0) = false := beq_eq_false_iff_ne.2 he
            obtain ⟨a1, a2, a3⟩ := x
            have R1 := Lib.hid hr
            have C0 := fun W (o : Below w.heap.size w W) => Lib.hid ((o.cell (p := ⟨b, off + i * 3, none⟩) hlt).trans c0)
            have C1 := fun W (o : Below w.heap.size w W) => Lib.hid ((o.cell (p := ⟨b, off + i * 3 + 1, none⟩) hlt).trans c1)
            have C2 := fun W (o : Below w.heap.size w W) => Lib.hid ((o.cell (p := ⟨b, off + i * 3 + 2, none⟩) hlt).trans c2)
            have hli := Nat.lt_of_lt_of_le hlt BI.out.size
            have c0 := (C0 _ BI.out).out
            have c1 := (C1 _ BI.out).out
            have c2 := (C2 _ BI.out).out
            simp only at *
            clear hr AH iv f he
            go_wp2_with (first
              | (go_at_call 11; (with_reducible refine Calls.mono (two_add KI.out nf SI.out R1.out) ?_); rintro e w4 ⟨rfl, k4, o4⟩; have K4 := Lib.hid k4; have S4 := Lib.hid (Nat.le_trans SI.out o4.size); have B4 := Lib.hid (Below.onlyF BI.out o4 (fun i h => Nat.le_trans HB.out.size h.1)); have c0 := (C0 _ B4.out).out; have c1 := (C1 _ B4.out).out; have c2 := (C2 _ B4.out).out; have hl4 := Nat.lt_of_lt_of_le hlt B4.out.size; clear k4 o4))
            go_roundw
            case rel => exact ⟨i + 1, l1, T, by go_num, rfl, by omega, IV.out, K4.out, S4.out, B4.out⟩
            case measure => simp [intOf]; omega
        · obtain ⟨⟨e, l1⟩, hr⟩ : ∃ r, addF l x = r := ⟨_, rfl⟩
          obtain ⟨b1, b2⟩ := add_both (x := x) f (by have := iv.len; omega) hx
          have st := step_other iv f hx
          rw [hr] at b1 b2 st
          simp only at b1 b2 st
          have hr2 : addF (fl id l) x = (e, fl id l1) := by rw [b1, b2]
          have IV := Lib.hid st
          have f2 : (x.id == id) = false := beq_eq_false_iff_ne.2 hx
          obtain ⟨a1, a2, a3⟩ := x
          have R1 := Lib.hid hr
          have R2 := Lib.hid hr2
          have C0 := fun W (o : Below w.heap.size w W) => Lib.hid ((o.cell (p := ⟨b, off + i * 3, none⟩) hlt).trans c0)
          have C1 := fun W (o : Below w.heap.size w W) => Lib.hid ((o.cell (p := ⟨b, off + i * 3 + 1, none⟩) hlt).trans c1)
          have C2 := fun W (o : Below w.heap.size w W) => Lib.hid ((o.cell (p := ⟨b, off + i * 3 + 2, none⟩) hlt).trans c2)
          have hli := Nat.lt_of_lt_of_le hlt BI.out.size
          have c0 := (C0 _ BI.out).out
          have c1 := (C1 _ BI.out).out
          have c2 := (C2 _ BI.out).out
          simp only at *
          clear hr hr2 b1 b2 st iv f hx
          go_wp2_with (first
            | (go_at_call 11; (with_reducible refine Calls.mono (two_add KI.out nf SI.out R1.out) ?_); rintro e w4 ⟨rfl, k4, o4⟩; have K4 := Lib.hid k4; have S4 := Lib.hid (Nat.le_trans SI.out o4.size); have B4 := Lib.hid (Below.onlyF BI.out o4 (fun i h => Nat.le_trans HB.out.size h.1)); have c0 := (C0 _ B4.out).out; have c1 := (C1 _ B4.out).out; have c2 := (C2 _ B4.out).out; have hl4 := Nat.lt_of_lt_of_le hlt B4.out.size; clear k4 o4)
            | (go_at_call 11; (with_reducible refine Calls.mono (two_add K4.out.symm nf S4.out R2.out) ?_); rintro e w5 ⟨rfl, k5, o5⟩; have K5 := Lib.hid k5.symm; have S5 := Lib.hid (Nat.le_trans S4.out o5.size); have B5 := Lib.hid (Below.onlyF B4.out o5 (fun i h => Nat.le_trans HB.out.size h.1)); clear k5 o5))
          go_roundw
          case rel => exact ⟨i + 1, l1, T, by go_num, rfl, by omega, IV.out, K5.out, S5.out, B5.out⟩
          case measure => simp [intOf]; omega
      · obtain rfl : i = n := by omega
        have hin2 : ¬ (i : Int) < i := by omega
        obtain ⟨d1, d2⟩ := drop_fl f id
        obtain ⟨⟨e, l1⟩, hr⟩ : ∃ r, dropF l id = r := ⟨_, rfl⟩
        rw [hr] at d1 d2
        simp only at d1 d2
        subst d1
        have hok : ∀ y ∈ fl id l, y.id ≠ id ∧ 0 ≤ y.track := fun y hy => ⟨(mem_fl.1 hy).2, iv.track y (mem_fl.1 hy).1⟩
        have HOK := Lib.hid hok
        have R1 := Lib.hid hr
        have ft : (e == 0) = T := by
          cases T with
          | true => exact beq_iff_eq.2 (d2.2 (iv.there.1 rfl))
          | false => exact beq_eq_false_iff_ne.2 (fun h => by have := iv.there.2 (d2.1 h); cases this)
        clear hr d2 iv hok f
        go_wp2_with (first
          | (go_at_call 12; (with_reducible refine Calls.mono (two_drop KI.out nf SI.out R1.out) ?_); rintro e w4 ⟨rfl, k4, o4⟩; have K4 := Lib.hid k4; have S4 := Lib.hid (Nat.le_trans SI.out o4.size); have B4 := Lib.hid (Below.onlyF BI.out o4 (fun i h => Nat.le_trans HB.out.size h.1)); clear k4 o4))
        go_loopw [10] (fun iv wr => Hid (Rel2 w pa pb w0.heap.size id iv wr)) (fun iv _ => (65 - intOf iv).toNat)
        case atStart => exact ⟨0, fl id l, 0, false, rfl, by omega, HOK.out, K4.out, S4.out, B4.out⟩
        case round =>
        obtain ⟨j, l, h, d, rfl, hj, hok, kj, sj, bj⟩ := hrel
        have KJ := Lib.hid kj
        have SJ := Lib.hid sj
        have BJ := Lib.hid bj
        have f := kj.fine.1
        clear kj sj bj KI SI BI K4 S4 B4 R1 HOK
        by_cases hjn : j < 65
        · have hjn2 : (j : Int) < 65 := by omega
          have g1 : IntKind.i64.wrap ((j : Int) + 1) = j + 1 := IntWalk.i64_in _ (by omega)
          obtain ⟨a, b, c, x, l2, h2, d2, r, ok2, hx⟩ := take_ok f hok h d
          have R1 := Lib.hid r
          have OK2 := Lib.hid ok2
          clear r ok2 hok f
          rcases hx with ⟨rfl, hx⟩ | rfl
          · have f1 : (a == id) = false := beq_eq_false_iff_ne.2 hx
            clear hx
            go_wp2_with (first
              | (go_at_call 13; (with_reducible refine Calls.mono (two_take KJ.out nf SJ.out R1.out) ?_); rintro e w5 ⟨rfl, k5, o5⟩; have k6 := k5.re (Far' := F1 w5.heap.size) (fun g hg h => absurd h (by show ¬ _ = _; omega)); have K5 := Lib.hid (k6.below ((Below.refl _ _).alloc (Nat.le_refl _) (.cells #[.int .i64 a, .int .u64 b, .int .i64 c] 30))).symm; have B5 := Lib.hid ((Below.onlyF BJ.out o5 (fun i h => Nat.le_trans HB.out.size h.1)).alloc (Below.onlyF BJ.out o5 (fun i h => Nat.le_trans HB.out.size h.1)).size (.cells #[.int .i64 a, .int .u64 b, .int .i64 c] 30)); have S5 := Lib.hid (show w0.heap.size ≤ (w5.alloc (.cells #[.int .i64 a, .int .u64 b, .int .i64 c] 30)).heap.size from (by have := SJ.out; have := o5.size; simp at *; omega)); have X5 := Lib.hid (Blk.new w5 30 [.int .i64 a, .int .u64 b, .int .i64 c]); have HF : Hid (∀ g, F1 w5.heap.size g → g < (w5.alloc (.cells #[.int .i64 a, .int .u64 b, .int .i64 c] 30)).heap.size) := (fun g h => (by subst h; simp)); clear k5 k6 o5)
              | (go_at_call 13; (with_reducible refine Calls.mono (two_take K5.out HF.out S5.out R1.out) ?_); rintro e w6 ⟨rfl, k6, o6⟩; have X6 := Lib.hid (X5.out.only o6 (fun h => h.2 rfl)); have x0 := X6.out.cell 0; have x1 := X6.out.cell 1; have x2 := X6.out.cell 2; have xl := X6.out.lt; have K6 := Lib.hid ((k6.symm.re (Far' := NF) (fun _ _ h => h.elim)).below ((Below.refl _ _).alloc (Nat.le_refl _) (.cells #[.int .i64 a, .int .u64 b, .int .i64 c] 30))); have B6 := Lib.hid ((Below.onlyF B5.out o6 (fun i h => Nat.le_trans HB.out.size h.1)).alloc (Below.onlyF B5.out o6 (fun i h => Nat.le_trans HB.out.size h.1)).size (.cells #[.int .i64 a, .int .u64 b, .int .i64 c] 30)); have S6 := Lib.hid (show w0.heap.size ≤ (w6.alloc (.cells #[.int .i64 a, .int .u64 b, .int .i64 c] 30)).heap.size from (by have := S5.out; have := o6.size; simp at *; omega)); clear k6 o6))
            go_roundw
            case rel => exact ⟨j + 1, l2, h2, d2, by go_num, by omega, OK2.out, K6.out, S6.out, B6.out⟩
            case measure => simp [intOf]; omega
          · go_wp2_with (first
              | (go_at_call 13; (with_reducible refine Calls.mono (two_take KJ.out nf SJ.out R1.out) ?_); rintro e w5 ⟨rfl, k5, o5⟩; have k6 := k5.re (Far' := F1 w5.heap.size) (fun g hg h => absurd h (by show ¬ _ = _; omega)); have K5 := Lib.hid (k6.below ((Below.refl _ _).alloc (Nat.le_refl _) (.cells #[.int .i64 a, .int .u64 b, .int .i64 c] 30))).symm; have B5 := Lib.hid ((Below.onlyF BJ.out o5 (fun i h => Nat.le_trans HB.out.size h.1)).alloc (Below.onlyF BJ.out o5 (fun i h => Nat.le_trans HB.out.size h.1)).size (.cells #[.int .i64 a, .int .u64 b, .int .i64 c] 30)); have S5 := Lib.hid (show w0.heap.size ≤ (w5.alloc (.cells #[.int .i64 a, .int .u64 b, .int .i64 c] 30)).heap.size from (by have := SJ.out; have := o5.size; simp at *; omega)); have X5 := Lib.hid (Blk.new w5 30 [.int .i64 a, .int .u64 b, .int .i64 c]); have HF : Hid (∀ g, F1 w5.heap.size g → g < (w5.alloc (.cells #[.int .i64 a, .int .u64 b, .int .i64 c] 30)).heap.size) := (fun g h => (by subst h; simp)); clear k5 k6 o5)
              | (go_at_call 13; (with_reducible refine Calls.mono (two_take K5.out HF.out S5.out R1.out) ?_); rintro e w6 ⟨rfl, k6, o6⟩; have X6 := Lib.hid (X5.out.only o6 (fun h => h.2 rfl)); have x0 := X6.out.cell 0; have x1 := X6.out.cell 1; have x2 := X6.out.cell 2; have xl := X6.out.lt; have K6 := Lib.hid ((k6.symm.re (Far' := NF) (fun _ _ h => h.elim)).below ((Below.refl _ _).alloc (Nat.le_refl _) (.cells #[.int .i64 a, .int .u64 b, .int .i64 c] 30))); have B6 := Lib.hid ((Below.onlyF B5.out o6 (fun i h => Nat.le_trans HB.out.size h.1)).alloc (Below.onlyF B5.out o6 (fun i h => Nat.le_trans HB.out.size h.1)).size (.cells #[.int .i64 a, .int .u64 b, .int .i64 c] 30)); have S6 := Lib.hid (show w0.heap.size ≤ (w6.alloc (.cells #[.int .i64 a, .int .u64 b, .int .i64 c] 30)).heap.size from (by have := S5.out; have := o6.size; simp at *; omega)); clear k6 o6))
            go_roundw
            case rel => exact ⟨j + 1, l2, h2, d2, by go_num, by omega, OK2.out, K6.out, S6.out, B6.out⟩
            case measure => simp [intOf]; omega
        · obtain rfl : j = 65 := by omega
          go_wp2_with fail
          go_ret
          exact ⟨rfl, BJ.out⟩
theorem walk (w : World) (A0 : Option Addr) (n0 cap0 : Nat) (D0 : Nat → List Value) (w0 : Elems w [some .i64, some .u64, some .i64] A0 n0 D0) (l0 : n0 * 24 ≤ 140737488351232) (t : Int) (wt : (Lit.int .i64 t).wf = true) :
    Calls Try.prog 3 #[.slice A0 n0 cap0, .int .i64 t] w fun e w' => e = .returned (.bool true) ∧ Below w.heap.size w w' := by
  obtain ⟨U, hU, hw⟩ := wants_of w0
  exact walk2 w A0 n0 cap0 U (Lib.hid hU) (by omega) t
end orderDrop
namespace orderDrop
theorem own : ownKnob Try.prog.godebug = none := by kernel_rfl
set_option maxRecDepth 100000 in
theorem lifted (os : Os) (started : os.Started) (H : Type) (enc : TypeId × Value → H) :
    ReturnsInHanded {} Try.checked os 3 .any (Rows.orderDropSpec.pre6 enc Try.prog Try.f3 Rows.orderDropRow.domain false) (Rows.orderDropSpec.post enc Try.prog Try.f3 false true false false) := by
  refine returnsInHanded_of_change_sized (C := Try.checked) own started (by kernel_rfl) Try.func3
    (ChangeSpec.witness6 (enc := enc) (C := Try.checked) false ⟨#[], #[.slice none 0 0, .int .i64 0], []⟩ 8 (by kernel_rfl) (by kernel_rfl) (by kernel_rfl) (by kernel_rfl)) ?_
  intro W base args ds gs before hval0 hW hcnd hsz0 _
  have hsz : (DataW.weightsEach Try.prog (Try.f3.params.toList ++ Rows.orderDropSpec.plain.varTypes Try.prog) (ds ++ gs)).all (· ≤ reachBytes) = true := hsz0
  have hval : ∀ (j : Nat) t v, Try.f3.params[j]? = some t → args[j]? = some v → Value.okWide Try.prog W .any base t v := hval0
  have hW' := hW
  obtain ⟨p, q, hA0, hV, rfl, hfz, hnd⟩ := hW
  have hA : DataW.TrodAll enc Try.prog W 0 (fun _ => true) true Try.f3.params.toList args.toList ds p := hA0
  rw [Try.params3] at hA hval hsz
  obtain ⟨v0, vs0, d0, ds0, p0, q0, hargs, rfl, rfl, h0, r0⟩ := trodAll_cons hA
  obtain ⟨v1, vs1, d1, ds1, p1, q1, rfl, rfl, rfl, h1, r1⟩ := trodAll_cons r0
  obtain ⟨rfl, rfl, rfl⟩ := trodAll_nil r1
  obtain rfl : args = #[v0, v1] := by cases args; simp_all
  obtain ⟨rfl, rfl⟩ := trodVars_none hV
  obtain ⟨A0, n0, cap0, D0, rfl, w0, m0, z0⟩ := arg_slice [some .i64, some .u64, some .i64] Try.underlying22 6 (by kernel_rfl) (by kernel_rfl) (hval 0 22 v0 rfl rfl) h0
  have l0 : n0 * Try.prog.bytesOf 30 ≤ reachBytes := by
    rcases z0 with ⟨_, e⟩ | ⟨es, sp, e, el⟩
    · subst e; simp
    · subst e; subst el; exact Nat.le_trans (Nat.mul_le_mul_right _ (Nat.le_add_right _ _)) (sized_slice hsz (j := 0) (t := 22) (e := 30) rfl rfl Try.underlying22)
  have b0 : Try.prog.bytesOf 30 = 24 := by kernel_rfl
  rw [b0] at l0
  simp only [reachBytes] at l0
  clear z0 b0
  obtain ⟨a1, rfl, w1⟩ := arg_one Try.underlying3 (hval 1 3 v1 rfl rfl) h1
  clear hA0 hval0 hsz0 hsz
  refine (walk W A0 n0 cap0 D0 w0 l0 a1 w1).mono fun e W' ⟨he, bel⟩ => ?_
  subst he
  exact ⟨_, rfl, _, _, _, [], _, [], hW', trodAll_mk1 (shut_bool Try.underlying4 _), (trodAll_cons_mk (Below.trod laidOut (by kernel_rfl) (of_decide_eq_true (by kernel_rfl)) h0 bel (fun x hx => by simpa using hW'.lt x (by simp [hx]))) (trodAll_cons_mk (Below.trod laidOut (by kernel_rfl) (of_decide_eq_true (by kernel_rfl)) h1 bel (fun x hx => by simpa using hW'.lt x (by simp [hx]))) trodAll_mk0)), rfl, bel.frame _, fun h => by cases h⟩
theorem over : Rows.orderDropRow.holds Try.pinned (OpenSpec.ofChange Rows.orderDropSpec) :=
  OpenClaim.holds_of_wide 3 Try.f3 rfl rfl rfl rfl rfl rfl rfl ⟨rfl, rfl, rfl, rfl, rfl⟩ rfl rfl rfl rfl rfl (by kernel_rfl) Try.func3 (by kernel_rfl)
    (of_decide_eq_true (by kernel_rfl)) (by unfold Func.isWrapper; first | (rw [if_pos (by decide +kernel)]; kernel_rfl) | (rw [if_neg (by decide +kernel)]; exact ⟨rfl, rfl⟩))
    (fun os started H enc _ => lifted os started H enc)
end orderDrop
theorem orderDrop_holds : Rows.OrderDropSaid := orderDrop.over
#print axioms orderDrop_holds
end Go.Proofs.Ytinpaplpgoljpaa
