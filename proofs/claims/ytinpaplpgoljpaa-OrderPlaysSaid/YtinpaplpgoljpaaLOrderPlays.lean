/- OrderPlays: whatever comes, goes and is taken: each answer, the next one, the head, and all in order, are what the document says. No condition. -/
import Derived.Test.YtinpaplpgoljpaaOrderBothB
import Derived.Deep.CutRange
import Derived.Deep.CutBlock
import Derived.Deep.DeepCutAuto
import Derived.Test.YtinpaplpgoljpaaArg
import Derived.Test.YtinpaplpgoljpaaRows
import Derived.ProofKit
import Derived.OpenShut
import Derived.ShutString
import Derived.ChangeOld
import Derived.Below
import Derived.SizedLaws
namespace Go.Proofs.Ytinpaplpgoljpaa
open Go.ChangeShapes Go.WideShapes Go.ChangeAt Go.RowKit
open Go.ChangeMaps (open_string shut_string)
set_option linter.unusedVariables false
set_option linter.unusedSimpArgs false
namespace orderPlays
def DosAt (w : World) (A : Option Addr) (n : Nat) (KU : Nat → Int) (U : Nat → Wt) : Prop :=
  ∀ i, i < n → ∃ b off, A = some ⟨b, off, none⟩ ∧ b < w.heap.size ∧ ∀ j, j < n → w.cell? ⟨b, off + j * 4, none⟩ = some (.int .i64 (KU j)) ∧ w.cell? ⟨b, off + j * 4 + 1, none⟩ = some (.int .i64 (U j).id) ∧ w.cell? ⟨b, off + j * 4 + 2, none⟩ = some (.int .u64 (U j).dead) ∧ w.cell? ⟨b, off + j * 4 + 3, none⟩ = some (.int .i64 (U j).track)
theorem four_of {a b c d : Option IntKind} {cs : List Value} (h : AllOk [a, b, c, d] cs) : ∃ x y z u, cs = [x, y, z, u] ∧ CellOk a x ∧ CellOk b y ∧ CellOk c z ∧ CellOk d u := by
  match cs, h with
  | [x, y, z, u], ⟨hx, hy, hz, hu, _⟩ => exact ⟨x, y, z, u, rfl, hx, hy, hz, hu⟩
theorem dos_of {w : World} {A : Option Addr} {n : Nat} {D : Nat → List Value} (h : Elems w [some .i64, some .i64, some .u64, some .i64] A n D) : ∃ (KU : Nat → Int) (U : Nat → Wt), DosAt w A n KU U := by
  have key : ∀ i, i < n → ∃ (k : Int) (x : Wt), D i = [.int .i64 k, .int .i64 x.id, .int .u64 x.dead, .int .i64 x.track] := by
    intro i hi
    obtain ⟨hok, _⟩ := h i hi
    obtain ⟨_, _, _, _, e, ⟨k, rfl, _⟩, ⟨a, rfl, _⟩, ⟨b, rfl, hb⟩, ⟨c, rfl, _⟩⟩ := four_of hok
    exact ⟨k, ⟨a, b, c⟩, e⟩
  obtain ⟨V, hV⟩ : ∃ V : Nat → Int × Wt, ∀ i, i < n → D i = [.int .i64 (V i).1, .int .i64 (V i).2.id, .int .u64 (V i).2.dead, .int .i64 (V i).2.track] :=
    ⟨fun i => if hi : i < n then ((key i hi).choose, (key i hi).choose_spec.choose) else (0, ⟨0, 0, 0⟩), fun i hi => by simp only [hi, dif_pos]; exact (key i hi).choose_spec.choose_spec⟩
  refine ⟨fun i => (V i).1, fun i => (V i).2, fun i hi => ?_⟩
  obtain ⟨b, off, e, hb, hc⟩ := rows_of h (by simp) i hi
  refine ⟨b, off, e, hb, fun j hj => ?_⟩
  have h0 := hc j 0 hj (by simp)
  have h1 := hc j 1 hj (by simp)
  have h2 := hc j 2 hj (by simp)
  have h3 := hc j 3 hj (by simp)
  rw [hV j hj] at h0 h1 h2 h3
  refine ⟨by simpa using h0, ?_, ?_, ?_⟩
  · rw [Nat.add_assoc]; simpa using h1
  · rw [Nat.add_assoc]; simpa using h2
  · rw [Nat.add_assoc]; simpa using h3
theorem _root_.Go.Proofs.Ytinpaplpgoljpaa.Both.rblk {w : World} {p rq base : Nat} {Far : Nat → Prop} {l lr : List Wt} {h hr : Int} {d dr : Bool} (k : Both w p rq base Far l lr h hr d dr) : ∃ A c, Blk w rq 45 [.slice A lr.length c, .int .i64 hr, .bool dr] ∧ Slc w 30 3 (.slice A lr.length c) lr.length (flatW lr) := by
  obtain ⟨R, rfl, kq, kr, f⟩ := k
  obtain ⟨A, c, ev, -⟩ := kr.row.shape
  have hs := kr.row
  have hb := kr.blk
  rw [ev] at hs hb
  exact ⟨A, c, hb, hs⟩
def Rel (w : World) (n p rq base : Nat) (iv : Value) (wr : World) : Prop :=
  ∃ (i : Nat) (l lr : List Wt) (h : Int) (d : Bool), iv = .int .i64 i ∧ i ≤ n ∧ l.Perm lr ∧ (∀ y ∈ l, 0 ≤ y.track) ∧ Both wr p rq base NF l lr h h d d ∧ base ≤ wr.heap.size ∧ Below w.heap.size w wr
def Mid (w : World) (p rq base : Nat) (wx : World) : Prop :=
  ∃ (l lr : List Wt) (h : Int) (d : Bool), l.Perm lr ∧ (∀ y ∈ l, 0 ≤ y.track) ∧ Both wx p rq base NF l lr h h d d ∧ Below w.heap.size w wx
theorem _root_.Go.Proofs.Ytinpaplpgoljpaa.Both.base_le {w : World} {p rq base : Nat} {Far : Nat → Prop} {l lr : List Wt} {h hr : Int} {d dr : Bool} (k : Both w p rq base Far l lr h hr d dr) : base ≤ w.heap.size := by
  obtain ⟨R, e, kq, kr, f⟩ := k
  exact Nat.le_trans (f _ (.inl rfl)).1 (Nat.le_of_lt kr.blk.lt)
theorem _root_.Go.Proofs.Ytinpaplpgoljpaa.SR.below {r B : Nat} {v : Value} {h : Int} {d : Bool} {a b c : Int} {w w' : World} (s : SR r B v h d a b c w) (o : Below w.heap.size w w') : SR r B v h d a b c w' := ⟨s.1.below o s.1.lt, s.2.below o s.2.lt⟩
def SR3 (r B : Nat) (v : Value) (h : Int) (d : Bool) (a b c : Int) (g o : Nat) (W : World) : Prop := SR r B v h d a b c W ∧ S3w g o ⟨a, b, c⟩ W
theorem SR3.below {r B g q : Nat} {v : Value} {h : Int} {d : Bool} {a b c : Int} {w w' : World} (s : SR3 r B v h d a b c g q w) (o : Below w.heap.size w w') : SR3 r B v h d a b c g q w' := ⟨s.1.below o, s.2.below o⟩
def S6 (B : Nat) (k a b c : Int) (W : World) : Prop := Blk W B 47 [.int .i64 k, .int .i64 a, .int .u64 b, .int .i64 c]
set_option maxRecDepth 100000 in
set_option maxHeartbeats 4000000 in
theorem walk2 (w : World) (A : Option Addr) (n c : Nat) (KU : Nat → Int) (U : Nat → Wt) (hs : Hid (DosAt w A n KU U)) (hn : n ≤ 140737488351232) :
    Calls Try.prog 6 #[.slice A n c] w fun e w' => e = .returned (.bool true) ∧ Below w.heap.size w w' := by
  have CN := fun W => Lib.hid (newq_k W)
  go_enter Try.func6, Try.ntmps6
  go_wp2_with (first
    | (go_at_call 9; (with_reducible refine Calls.mono (awake_any _) ?_); rintro e w0 ⟨rfl, bel0⟩; have HB := Lib.hid bel0; have D0 := Lib.hid (rfl : w0 = w0); clear bel0)
    | (go_at_call 10; (with_reducible refine Calls.mono (CN _).out ?_); rintro e w1 ⟨p, rfl, k1, b1⟩; have K1 := Lib.hid (show KeptQ w1 p w0.heap.size NF [] 0 false from k1); have S1 := Lib.hid b1.size; have B1 := Lib.hid (Below.next HB.out b1); have S2 := Lib.hid (Nat.le_trans b1.size (by simp : w1.heap.size ≤ (w1.alloc (.cells #[.slice none 0 0, .int .i64 0, .bool false] 45)).heap.size)); have K2 := Lib.hid (both_new K1.out S1.out); have B2 := Lib.hid (B1.out.alloc B1.out.size (.cells #[.slice none 0 0, .int .i64 0, .bool false] 45)); clear k1 b1 CN))
  go_loopw [5] (fun iv wr => Hid (Rel w n p w1.heap.size w0.heap.size iv wr)) (fun iv _ => (n - intOf iv).toNat)
  case atStart => exact ⟨0, [], [], 0, false, rfl, by omega, .refl _, by simp, K2.out, S2.out, B2.out⟩
  case round =>
    obtain ⟨i, l, lr, h, d, rfl, hi, hp, ht, ki, si, bi⟩ := hrel
    have KI := Lib.hid ki
    have SI := Lib.hid si
    have BI := Lib.hid bi
    have HT := Lib.hid ht
    have HP := Lib.hid hp
    have F := Lib.hid ki.fine
    clear ki si bi K1 K2 S1 S2 B1 B2 ht hp
    by_cases hin : i < n
    · have hin2 : (i : Int) < n := by omega
      have hin3 : decide ((i : Int) < n) = true := decide_eq_true hin2
      by_cases h150 : i < 150
      · have h1 : (i : Int) < 150 := by omega
        have h2 : decide ((i : Int) < 150) = true := decide_eq_true h1
        obtain ⟨b, off, rfl, hlt, hc⟩ := hs.out i hin
        obtain ⟨c0, c1, c2, c3⟩ := hc i hin
        obtain ⟨k, hk⟩ : ∃ k, KU i = k := ⟨_, rfl⟩
        obtain ⟨x, hx⟩ : ∃ x, U i = x := ⟨_, rfl⟩
        rw [hk] at c0
        rw [hx] at c1 c2 c3
        have g1 : IntKind.i64.wrap ((i : Int) + 1) = i + 1 := IntWalk.i64_in _ (by omega)
        obtain ⟨x1, x2, x3⟩ := x
        simp only at c1 c2 c3
        have c0 := (BI.out.cell (p := ⟨b, off + i * 4, none⟩) hlt).trans c0
        have c1 := (BI.out.cell (p := ⟨b, off + i * 4 + 1, none⟩) hlt).trans c1
        have c2 := (BI.out.cell (p := ⟨b, off + i * 4 + 2, none⟩) hlt).trans c2
        have c3 := (BI.out.cell (p := ⟨b, off + i * 4 + 3, none⟩) hlt).trans c3
        have hli := Nat.lt_of_lt_of_le hlt BI.out.size
        have B6 := Lib.hid (BI.out.alloc BI.out.size (.cells #[.int .i64 k, .int .i64 x1, .int .u64 x2, .int .i64 x3] 47))
        have X6 := Lib.hid (Blk.new wr 47 [.int .i64 k, .int .i64 x1, .int .u64 x2, .int .i64 x3])
        have K6 := Lib.hid ((KI.out.re (Far' := F1 wr.heap.size) (fun g hg h => absurd h (by show ¬ _ = _; omega))).below ((Below.refl _ _).alloc (Nat.le_refl _) (.cells #[.int .i64 k, .int .i64 x1, .int .u64 x2, .int .i64 x3] 47)))
        have S6' := Lib.hid (show w0.heap.size ≤ (wr.alloc (.cells #[.int .i64 k, .int .i64 x1, .int .u64 x2, .int .i64 x3] 47)).heap.size from (by have := SI.out; simp; omega))
        have HF6 : Hid (∀ g, F1 wr.heap.size g → g < (wr.alloc (.cells #[.int .i64 k, .int .i64 x1, .int .u64 x2, .int .i64 x3] 47)).heap.size) := (fun g h => (by subst h; simp))
        clear hk hx
        go_upto_block 2 with (fail)
        go_cut [7, 8, 9, 10] from 22 to 160 (fun _ _ _ _ wx => Hid (Mid w p w1.heap.size w0.heap.size wx))
        case first =>
          by_cases hk0 : k = 0
          · subst hk0
            go_wp2_with fail
            have HSD : Hid (S6 wr.heap.size 0 x1 x2 x3 (wr.alloc (.cells #[.int .i64 0, .int .i64 x1, .int .u64 x2, .int .i64 x3] 47)).drew) := X6.out.drew
            obtain ⟨q1, q2⟩ := add_alike HP.out ⟨x1, x2, x3⟩
            have T2 := add_track (x := ⟨x1, x2, x3⟩) HT.out
            obtain ⟨⟨e1, l1⟩, hr1⟩ : ∃ r, addF l ⟨x1, x2, x3⟩ = r := ⟨_, rfl⟩
            obtain ⟨⟨e2, lr1⟩, hr2⟩ : ∃ r, addR lr ⟨x1, x2, x3⟩ = r := ⟨_, rfl⟩
            rw [hr1] at T2 q1 q2
            rw [hr2] at q1 q2
            simp only at T2 q1 q2
            obtain rfl := q1
            have PT := Lib.hid q2
            have TT := Lib.hid T2
            have R1 := Lib.hid hr1
            have R2 := Lib.hid hr2
            have M1 := fun W => Lib.hid (mayw_any ⟨x1, x2, x3⟩ W)
            have M2 := fun W => Lib.hid (rmayw_any ⟨x1, x2, x3⟩ W)
            obtain ⟨mw, hmw⟩ : ∃ mw, mayW ⟨x1, x2, x3⟩ = mw := ⟨_, rfl⟩
            rw [hmw] at M1 M2
            unfold wv at M1 M2
            simp only at M1 M2
            have KD := Lib.hid (K6.out.below (Below.refl _ _).drew)
            have SD := Lib.hid (show w0.heap.size ≤ ((wr.alloc (.cells #[.int .i64 0, .int .i64 x1, .int .u64 x2, .int .i64 x3] 47)).drew).heap.size from S6'.out)
            have HFD : Hid (∀ g, F1 wr.heap.size g → g < (wr.alloc (.cells #[.int .i64 0, .int .i64 x1, .int .u64 x2, .int .i64 x3] 47)).drew.heap.size) := HF6.out
            clear hmw q2 T2 hr1 hr2
            refine wp_region_zone (S6 wr.heap.size 0 x1 x2 x3) (fun j => true) (by kernel_rfl) ?_
            refine wpAnyZ_move (i := 0) (v := ?_) rfl (by kernel_rfl) (by kernel_rfl) (by kernel_rfl) (fun _ _ _ h => h) (Or.inl ⟨by rfl, ?_⟩) ?_
            (rotate_left 1; (focus (intro W; go_simp; try with_reducible rfl)))
            try simp only [Act.put, List.setIfInBounds_toArray, List.set_cons_zero, List.set_cons_succ, List.getElem_toArray, List.getElem_cons_succ, List.getElem_cons_zero]
            refine wpAnyZ_move (i := 1) (v := ?_) rfl (by kernel_rfl) (by kernel_rfl) (by kernel_rfl) (fun _ _ _ h => h) (Or.inl ⟨by rfl, ?_⟩) ?_
            (rotate_left 1; (focus (intro W; go_simp; try with_reducible rfl)))
            try simp only [Act.put, List.setIfInBounds_toArray, List.set_cons_zero, List.set_cons_succ, List.getElem_toArray, List.getElem_cons_succ, List.getElem_cons_zero]
            refine wpAnyZ_take (i := 2) (v := ?_) rfl (by kernel_rfl) (by kernel_rfl) (by kernel_rfl) (by kernel_rfl) (fun _ _ _ h => h) (Or.inl ⟨by rfl, ?_⟩) HSD.out ?_
            (rotate_left 1; (focus (intro W hS; have y0 := Blk.cell hS 0; have y1 := Blk.cell hS 1; have y2 := Blk.cell hS 2; have y3 := Blk.cell hS 3; have yl := Blk.lt hS; go_simp; try with_reducible rfl)))
            try simp only [Act.put, List.setIfInBounds_toArray, List.set_cons_zero, List.set_cons_succ, List.getElem_toArray, List.getElem_cons_succ, List.getElem_cons_zero]
            refine wpAnyZ_move (i := 4) (v := ?_) rfl (by kernel_rfl) (by kernel_rfl) (by kernel_rfl) (fun _ _ _ h => h) (Or.inl ⟨by rfl, ?_⟩) ?_
            (rotate_left 1; (focus (intro W; go_simp; try with_reducible rfl)))
            try simp only [Act.put, List.setIfInBounds_toArray, List.set_cons_zero, List.set_cons_succ, List.getElem_toArray, List.getElem_cons_succ, List.getElem_cons_zero]
            refine wpAnyZ_move (i := 5) (v := ?_) rfl (by kernel_rfl) (by kernel_rfl) (by kernel_rfl) (fun _ _ _ h => h) (Or.inl ⟨by rfl, ?_⟩) ?_
            (rotate_left 1; (focus (intro W; go_simp; try with_reducible rfl)))
            try simp only [Act.put, List.setIfInBounds_toArray, List.set_cons_zero, List.set_cons_succ, List.getElem_toArray, List.getElem_cons_succ, List.getElem_cons_zero]
            refine wpAnyZ_take (i := 6) (v := ?_) rfl (by kernel_rfl) (by kernel_rfl) (by kernel_rfl) (by kernel_rfl) (fun _ _ _ h => h) (Or.inl ⟨by rfl, ?_⟩) HSD.out ?_
            (rotate_left 1; (focus (intro W hS; have y0 := Blk.cell hS 0; have y1 := Blk.cell hS 1; have y2 := Blk.cell hS 2; have y3 := Blk.cell hS 3; have yl := Blk.lt hS; go_simp; try with_reducible rfl)))
            try simp only [Act.put, List.setIfInBounds_toArray, List.set_cons_zero, List.set_cons_succ, List.getElem_toArray, List.getElem_cons_succ, List.getElem_cons_zero]
            refine wpAnyZ_one (i := 3) (by kernel_rfl) rfl (fun K hK => ?_)
            go_simp
            go_wp2_with (go_at_call 11; (with_reducible refine Calls.mono (both_add KD.out HFD.out SD.out R1.out) ?_); rintro e w4 ⟨rfl, k4, o4⟩; have K4 := Lib.hid k4; have S4 := Lib.hid (Nat.le_trans SD.out o4.size); have X4 := Lib.hid (X6.out.drew.only o4 (fun h => h.2 rfl)); have HF4 : Hid (∀ g, F1 wr.heap.size g → g < w4.heap.size) := (fun g h => h ▸ X4.out.lt); have B4 := Lib.hid (Below.onlyF B6.out.drew o4 (fun i h => Nat.le_trans HB.out.size h.1)); clear k4 o4)
            refine hK.out _ _ (fun _ _ => X4.out) ?_
            clear hK K
            refine wpAnyZ_one (i := 7) (by kernel_rfl) rfl (fun K hK => ?_)
            go_simp
            go_wp2_with (go_at_call 17; (with_reducible refine Calls.mono (both_radd K4.out HF4.out S4.out R2.out) ?_); rintro e w5 ⟨rfl, k5, o5⟩; have K5 := Lib.hid k5; have S5 := Lib.hid (Nat.le_trans S4.out o5.size); have X5 := Lib.hid (X4.out.only o5 (fun h => h.2 rfl)); have B5 := Lib.hid (Below.onlyF B4.out o5 (fun i h => Nat.le_trans HB.out.size h.1)); clear k5 o5)
            refine hK.out _ _ (fun _ _ => X5.out) ?_
            clear hK K
            refine wpAnyZ_move (i := 8) (v := ?_) rfl (by kernel_rfl) (by kernel_rfl) (by kernel_rfl) (fun _ _ _ h => h) (Or.inl ⟨by rfl, ?_⟩) ?_
            (rotate_left 1; (focus (intro W; go_simp; try with_reducible rfl)))
            try simp only [Act.put, List.setIfInBounds_toArray, List.set_cons_zero, List.set_cons_succ, List.getElem_toArray, List.getElem_cons_succ, List.getElem_cons_zero]
            refine wpAnyZ_move (i := 9) (v := ?_) rfl (by kernel_rfl) (by kernel_rfl) (by kernel_rfl) (fun _ _ _ h => h) (Or.inl ⟨by rfl, ?_⟩) ?_
            (rotate_left 1; (focus (intro W; go_simp; try with_reducible rfl)))
            try simp only [Act.put, List.setIfInBounds_toArray, List.set_cons_zero, List.set_cons_succ, List.getElem_toArray, List.getElem_cons_succ, List.getElem_cons_zero]
            refine wpAnyZ_move (i := 10) (v := ?_) rfl (by kernel_rfl) (by kernel_rfl) (by kernel_rfl) (fun _ _ _ h => h) (Or.inl ⟨by rfl, ?_⟩) ?_
            (rotate_left 1; (focus (intro W; go_simp; try with_reducible rfl)))
            try simp only [Act.put, List.setIfInBounds_toArray, List.set_cons_zero, List.set_cons_succ, List.getElem_toArray, List.getElem_cons_succ, List.getElem_cons_zero]
            refine wpAnyZ_take (i := 11) (v := ?_) rfl (by kernel_rfl) (by kernel_rfl) (by kernel_rfl) (by kernel_rfl) (fun _ _ _ h => h) (Or.inl ⟨by rfl, ?_⟩) X5.out ?_
            (rotate_left 1; (focus (intro W hS; have y0 := Blk.cell hS 0; have y1 := Blk.cell hS 1; have y2 := Blk.cell hS 2; have y3 := Blk.cell hS 3; have yl := Blk.lt hS; go_simp; try with_reducible rfl)))
            try simp only [Act.put, List.setIfInBounds_toArray, List.set_cons_zero, List.set_cons_succ, List.getElem_toArray, List.getElem_cons_succ, List.getElem_cons_zero]
            refine wpAnyZ_move (i := 13) (v := ?_) rfl (by kernel_rfl) (by kernel_rfl) (by kernel_rfl) (fun _ _ _ h => h) (Or.inl ⟨by rfl, ?_⟩) ?_
            (rotate_left 1; (focus (intro W; go_simp; try with_reducible rfl)))
            try simp only [Act.put, List.setIfInBounds_toArray, List.set_cons_zero, List.set_cons_succ, List.getElem_toArray, List.getElem_cons_succ, List.getElem_cons_zero]
            refine wpAnyZ_take (i := 14) (v := ?_) rfl (by kernel_rfl) (by kernel_rfl) (by kernel_rfl) (by kernel_rfl) (fun _ _ _ h => h) (Or.inl ⟨by rfl, ?_⟩) X5.out ?_
            (rotate_left 1; (focus (intro W hS; have y0 := Blk.cell hS 0; have y1 := Blk.cell hS 1; have y2 := Blk.cell hS 2; have y3 := Blk.cell hS 3; have yl := Blk.lt hS; go_simp; try with_reducible rfl)))
            try simp only [Act.put, List.setIfInBounds_toArray, List.set_cons_zero, List.set_cons_succ, List.getElem_toArray, List.getElem_cons_succ, List.getElem_cons_zero]
            refine wpAnyZ_one (i := 12) (by kernel_rfl) rfl (fun K hK => ?_)
            go_simp
            go_wp2_with (go_at_call 14; (with_reducible refine Calls.mono (M1 _).out ?_); rintro e wm ⟨rfl, bm⟩; have KM := Lib.hid (K5.out.below bm); have XM := Lib.hid (X5.out.below bm X5.out.lt); have BM := Lib.hid (Below.next B5.out bm); clear bm)
            refine hK.out _ _ (fun _ _ => XM.out) ?_
            clear hK K
            refine wpAnyZ_one (i := 15) (by kernel_rfl) rfl (fun K hK => ?_)
            go_simp
            go_wp2_with (go_at_call 18; (with_reducible refine Calls.mono (M2 _).out ?_); rintro e wn ⟨rfl, bm⟩; have KN := Lib.hid (KM.out.below bm); have XN := Lib.hid (XM.out.below bm XM.out.lt); have BT := Lib.hid (Below.next BM.out bm); clear bm)
            refine hK.out _ _ (fun _ _ => XN.out) ?_
            clear hK K
            refine wpAnyZ_move (i := 16) (v := ?_) rfl (by kernel_rfl) (by kernel_rfl) (by kernel_rfl) (fun _ _ _ h => h) (Or.inl ⟨by rfl, ?_⟩) ?_
            (rotate_left 1; (focus (intro W; go_simp; try with_reducible rfl)))
            try simp only [Act.put, List.setIfInBounds_toArray, List.set_cons_zero, List.set_cons_succ, List.getElem_toArray, List.getElem_cons_succ, List.getElem_cons_zero]
            refine wpAnyZ_move (i := 17) (v := ?_) rfl (by kernel_rfl) (by kernel_rfl) (by kernel_rfl) (fun _ _ _ h => h) (Or.inl ⟨by rfl, ?_⟩) ?_
            (rotate_left 1; (focus (intro W; go_simp; try with_reducible rfl)))
            try simp only [Act.put, List.setIfInBounds_toArray, List.set_cons_zero, List.set_cons_succ, List.getElem_toArray, List.getElem_cons_succ, List.getElem_cons_zero]
            refine wpAnyZ_done (by kernel_rfl) ?_ _
            have KT := Lib.hid (KN.out.re (Far' := NF) (fun _ _ h => h.elim))
            obtain ⟨hh, ehh⟩ : ∃ y, h = y := ⟨_, rfl⟩
            obtain ⟨dd, edd⟩ : ∃ y, d = y := ⟨_, rfl⟩
            rw [ehh, edd] at KT
            clear ehh edd
            go_wp2_with fail
            go_meet
            exact ⟨_, _, hh, dd, PT.out, TT.out, KT.out, BT.out⟩
          · by_cases hk1 : k = 1
            · subst hk1
              go_wp2_with fail
              have HSD : Hid (S6 wr.heap.size 1 x1 x2 x3 (wr.alloc (.cells #[.int .i64 1, .int .i64 x1, .int .u64 x2, .int .i64 x3] 47)).drew) := X6.out.drew
              obtain ⟨q1, q2⟩ := drop_alike F.out HP.out x1
              have T2 : ∀ y ∈ (dropF l x1).2, 0 ≤ y.track := fun y hy => HT.out y ((mem_fl.1 (by rw [← (drop_fl F.out x1).1]; exact hy)).1)
              obtain ⟨⟨e1, l1⟩, hr1⟩ : ∃ r, dropF l x1 = r := ⟨_, rfl⟩
              obtain ⟨⟨e2, lr1⟩, hr2⟩ : ∃ r, dropF lr x1 = r := ⟨_, rfl⟩
              rw [hr1] at T2 q1 q2
              rw [hr2] at q1 q2
              simp only at T2 q1 q2
              obtain rfl := q1
              have PT := Lib.hid q2
              have TT := Lib.hid T2
              have R1 := Lib.hid hr1
              have R2 := Lib.hid hr2
              have KD := Lib.hid (K6.out.below (Below.refl _ _).drew)
              have SD := Lib.hid (show w0.heap.size ≤ ((wr.alloc (.cells #[.int .i64 1, .int .i64 x1, .int .u64 x2, .int .i64 x3] 47)).drew).heap.size from S6'.out)
              have HFD : Hid (∀ g, F1 wr.heap.size g → g < (wr.alloc (.cells #[.int .i64 1, .int .i64 x1, .int .u64 x2, .int .i64 x3] 47)).drew.heap.size) := HF6.out
              clear q2 T2 hr1 hr2
              refine wp_region_zone (S6 wr.heap.size 1 x1 x2 x3) (fun j => true) (by kernel_rfl) ?_
              refine wpAnyZ_move (i := 0) (v := ?_) rfl (by kernel_rfl) (by kernel_rfl) (by kernel_rfl) (fun _ _ _ h => h) (Or.inl ⟨by rfl, ?_⟩) ?_
              (rotate_left 1; (focus (intro W; go_simp; try with_reducible rfl)))
              try simp only [Act.put, List.setIfInBounds_toArray, List.set_cons_zero, List.set_cons_succ, List.getElem_toArray, List.getElem_cons_succ, List.getElem_cons_zero]
              refine wpAnyZ_move (i := 1) (v := ?_) rfl (by kernel_rfl) (by kernel_rfl) (by kernel_rfl) (fun _ _ _ h => h) (Or.inl ⟨by rfl, ?_⟩) ?_
              (rotate_left 1; (focus (intro W; go_simp; try with_reducible rfl)))
              try simp only [Act.put, List.setIfInBounds_toArray, List.set_cons_zero, List.set_cons_succ, List.getElem_toArray, List.getElem_cons_succ, List.getElem_cons_zero]
              refine wpAnyZ_move (i := 2) (v := ?_) rfl (by kernel_rfl) (by kernel_rfl) (by kernel_rfl) (fun _ _ _ h => h) (Or.inl ⟨by rfl, ?_⟩) ?_
              (rotate_left 1; (focus (intro W; go_simp; try with_reducible rfl)))
              try simp only [Act.put, List.setIfInBounds_toArray, List.set_cons_zero, List.set_cons_succ, List.getElem_toArray, List.getElem_cons_succ, List.getElem_cons_zero]
              refine wpAnyZ_take (i := 3) (v := ?_) rfl (by kernel_rfl) (by kernel_rfl) (by kernel_rfl) (by kernel_rfl) (fun _ _ _ h => h) (Or.inl ⟨by rfl, ?_⟩) HSD.out ?_
              (rotate_left 1; (focus (intro W hS; have y0 := Blk.cell hS 0; have y1 := Blk.cell hS 1; have y2 := Blk.cell hS 2; have y3 := Blk.cell hS 3; have yl := Blk.lt hS; go_simp; try with_reducible rfl)))
              try simp only [Act.put, List.setIfInBounds_toArray, List.set_cons_zero, List.set_cons_succ, List.getElem_toArray, List.getElem_cons_succ, List.getElem_cons_zero]
              refine wpAnyZ_move (i := 5) (v := ?_) rfl (by kernel_rfl) (by kernel_rfl) (by kernel_rfl) (fun _ _ _ h => h) (Or.inl ⟨by rfl, ?_⟩) ?_
              (rotate_left 1; (focus (intro W; go_simp; try with_reducible rfl)))
              try simp only [Act.put, List.setIfInBounds_toArray, List.set_cons_zero, List.set_cons_succ, List.getElem_toArray, List.getElem_cons_succ, List.getElem_cons_zero]
              refine wpAnyZ_move (i := 6) (v := ?_) rfl (by kernel_rfl) (by kernel_rfl) (by kernel_rfl) (fun _ _ _ h => h) (Or.inl ⟨by rfl, ?_⟩) ?_
              (rotate_left 1; (focus (intro W; go_simp; try with_reducible rfl)))
              try simp only [Act.put, List.setIfInBounds_toArray, List.set_cons_zero, List.set_cons_succ, List.getElem_toArray, List.getElem_cons_succ, List.getElem_cons_zero]
              refine wpAnyZ_move (i := 7) (v := ?_) rfl (by kernel_rfl) (by kernel_rfl) (by kernel_rfl) (fun _ _ _ h => h) (Or.inl ⟨by rfl, ?_⟩) ?_
              (rotate_left 1; (focus (intro W; go_simp; try with_reducible rfl)))
              try simp only [Act.put, List.setIfInBounds_toArray, List.set_cons_zero, List.set_cons_succ, List.getElem_toArray, List.getElem_cons_succ, List.getElem_cons_zero]
              refine wpAnyZ_take (i := 8) (v := ?_) rfl (by kernel_rfl) (by kernel_rfl) (by kernel_rfl) (by kernel_rfl) (fun _ _ _ h => h) (Or.inl ⟨by rfl, ?_⟩) HSD.out ?_
              (rotate_left 1; (focus (intro W hS; have y0 := Blk.cell hS 0; have y1 := Blk.cell hS 1; have y2 := Blk.cell hS 2; have y3 := Blk.cell hS 3; have yl := Blk.lt hS; go_simp; try with_reducible rfl)))
              try simp only [Act.put, List.setIfInBounds_toArray, List.set_cons_zero, List.set_cons_succ, List.getElem_toArray, List.getElem_cons_succ, List.getElem_cons_zero]
              refine wpAnyZ_one (i := 4) (by kernel_rfl) rfl (fun K hK => ?_)
              go_simp
              go_wp2_with (go_at_call 12; (with_reducible refine Calls.mono (both_drop KD.out HFD.out SD.out R1.out) ?_); rintro e w4 ⟨rfl, k4, o4⟩; have K4 := Lib.hid k4; have S4 := Lib.hid (Nat.le_trans SD.out o4.size); have X4 := Lib.hid (X6.out.drew.only o4 (fun h => h.2 rfl)); have HF4 : Hid (∀ g, F1 wr.heap.size g → g < w4.heap.size) := (fun g h => h ▸ X4.out.lt); have B4 := Lib.hid (Below.onlyF B6.out.drew o4 (fun i h => Nat.le_trans HB.out.size h.1)); clear k4 o4)
              refine hK.out _ _ (fun _ _ => X4.out) ?_
              clear hK K
              refine wpAnyZ_one (i := 9) (by kernel_rfl) rfl (fun K hK => ?_)
              go_simp
              go_wp2_with (go_at_call 19; (with_reducible refine Calls.mono (both_rdrop K4.out HF4.out S4.out R2.out) ?_); rintro e w5 ⟨rfl, k5, o5⟩; have K5 := Lib.hid k5; have S5 := Lib.hid (Nat.le_trans S4.out o5.size); have X5 := Lib.hid (X4.out.only o5 (fun h => h.2 rfl)); have B5 := Lib.hid (Below.onlyF B4.out o5 (fun i h => Nat.le_trans HB.out.size h.1)); clear k5 o5)
              refine hK.out _ _ (fun _ _ => X5.out) ?_
              clear hK K
              refine wpAnyZ_move (i := 10) (v := ?_) rfl (by kernel_rfl) (by kernel_rfl) (by kernel_rfl) (fun _ _ _ h => h) (Or.inl ⟨by rfl, ?_⟩) ?_
              (rotate_left 1; (focus (intro W; go_simp; try with_reducible rfl)))
              try simp only [Act.put, List.setIfInBounds_toArray, List.set_cons_zero, List.set_cons_succ, List.getElem_toArray, List.getElem_cons_succ, List.getElem_cons_zero]
              refine wpAnyZ_done (by kernel_rfl) ?_ _
              have KT := Lib.hid (K5.out.re (Far' := NF) (fun _ _ h => h.elim))
              have BT := B5
              obtain ⟨hh, ehh⟩ : ∃ y, h = y := ⟨_, rfl⟩
              obtain ⟨dd, edd⟩ : ∃ y, d = y := ⟨_, rfl⟩
              rw [ehh, edd] at KT
              clear ehh edd
              go_wp2_with fail
              go_meet
              exact ⟨_, _, hh, dd, PT.out, TT.out, KT.out, BT.out⟩
            · have e0 : (k == 0) = false := beq_eq_false_iff_ne.2 hk0
              have e1 : (k == 1) = false := beq_eq_false_iff_ne.2 hk1
              by_cases hl : l = []
              · subst hl
                obtain rfl : lr = [] := by simpa using HP.out
                have TN := Lib.hid (take_none h d)
                go_wp2_with (first
                  | (go_at_call 13; (with_reducible refine Calls.mono (both_take (K6.out.re (Far' := NF) (fun _ _ h => h.elim)) nf S6'.out TN.out) ?_); rintro e w4 ⟨rfl, k4, o4⟩; have X7 := Lib.hid (Blk.new w4 30 [.int .i64 0, .int .u64 0, .int .i64 0]); have k5 := k4.re (Far' := F1 w4.heap.size) (fun g hg h => absurd h (by show ¬ _ = _; omega)); have K4 := Lib.hid (k5.below ((Below.refl _ _).alloc (Nat.le_refl _) (.cells #[.int .i64 0, .int .u64 0, .int .i64 0] 30))); have S4 := Lib.hid (show w0.heap.size ≤ (w4.alloc (.cells #[.int .i64 0, .int .u64 0, .int .i64 0] 30)).heap.size from (by have h1 := S6'.out; have h2 := o4.size; simp only [World.size_alloc] at h1 h2 ⊢; omega)); have B4 := Lib.hid ((Below.onlyF B6.out o4 (fun i h => Nat.le_trans HB.out.size h.1)).alloc (Below.onlyF B6.out o4 (fun i h => Nat.le_trans HB.out.size h.1)).size (.cells #[.int .i64 0, .int .u64 0, .int .i64 0] 30)); have HF4 : Hid (∀ g, F1 w4.heap.size g → g < (w4.alloc (.cells #[.int .i64 0, .int .u64 0, .int .i64 0] 30)).heap.size) := (fun g h => (by subst h; simp)); clear k4 k5 o4)
                  | (go_at_call 20; (with_reducible refine Calls.mono (both_rtake0 K4.out HF4.out S4.out) ?_); rintro e w5 ⟨rfl, k5, o5⟩; have x7 := X7.out.only o5 (fun h => h.2 rfl); have z0 := x7.cell 0; have z1 := x7.cell 1; have z2 := x7.cell 2; have zl := x7.lt; have KT := Lib.hid ((k5.re (Far' := NF) (fun _ _ h => h.elim)).below ((Below.refl _ _).alloc (Nat.le_refl _) (.cells #[.int .i64 0, .int .u64 0, .int .i64 0] 30))); have BT := Lib.hid ((Below.onlyF B4.out o5 (fun i h => Nat.le_trans HB.out.size h.1)).alloc (Below.onlyF B4.out o5 (fun i h => Nat.le_trans HB.out.size h.1)).size (.cells #[.int .i64 0, .int .u64 0, .int .i64 0] 30)); clear k5 o5 x7)
                  | fail)
                obtain ⟨hh, ehh⟩ : ∃ y, h = y := ⟨_, rfl⟩
                obtain ⟨dd, edd⟩ : ∃ y, d = y := ⟨_, rfl⟩
                rw [ehh, edd] at KT
                clear ehh edd
                go_wp2_with fail
                go_meet
                exact ⟨_, _, hh, dd, HP.out, HT.out, KT.out, BT.out⟩
              · obtain ⟨y, dn, nx⟩ := next_spec F.out hl HT.out h d
                obtain ⟨tk, -⟩ := take_spec F.out nx
                have NA := Lib.hid (next_alike F.out HP.out nx)
                have LR0 := Lib.hid (show 0 < lr.length by rw [← HP.out.length_eq]; exact List.length_pos_iff.2 hl)
                have q2 := (drop_alike F.out HP.out y.id).2
                rw [(drop_mem F.out nx.mem).1] at q2
                have T2 : ∀ z ∈ l.filter (fun z => !(z.id == y.id)), 0 ≤ z.track := fun z hz => HT.out z (List.mem_filter.1 hz).1
                obtain ⟨l1, hl1⟩ : ∃ r, l.filter (fun z => !(z.id == y.id)) = r := ⟨_, rfl⟩
                obtain ⟨lr1, hlr1⟩ : ∃ r, (dropF lr y.id).2 = r := ⟨_, rfl⟩
                simp only at q2
                rw [hl1] at tk q2 T2
                rw [hlr1] at q2
                obtain ⟨y1, y2, y3⟩ := y
                have PT := Lib.hid q2
                have TT := Lib.hid T2
                have TN := Lib.hid tk
                have HR := Lib.hid hlr1
                clear hl nx tk q2 T2 hl1 hlr1
                go_wp2_with (first
                  | (go_at_call 13; (with_reducible refine Calls.mono (both_take (K6.out.re (Far' := NF) (fun _ _ h => h.elim)) nf S6'.out TN.out) ?_); rintro e w4 ⟨rfl, k4, o4⟩; have X7 := Lib.hid (Blk.new w4 30 [.int .i64 y1, .int .u64 y2, .int .i64 y3]); have k5 := k4.re (Far' := F1 w4.heap.size) (fun g hg h => absurd h (by show ¬ _ = _; omega)); have K4 := Lib.hid (k5.below ((Below.refl _ _).alloc (Nat.le_refl _) (.cells #[.int .i64 y1, .int .u64 y2, .int .i64 y3] 30))); have S4 := Lib.hid (show w0.heap.size ≤ (w4.alloc (.cells #[.int .i64 y1, .int .u64 y2, .int .i64 y3] 30)).heap.size from (by have h1 := S6'.out; have h2 := o4.size; simp only [World.size_alloc] at h1 h2 ⊢; omega)); have B4 := Lib.hid ((Below.onlyF B6.out o4 (fun i h => Nat.le_trans HB.out.size h.1)).alloc (Below.onlyF B6.out o4 (fun i h => Nat.le_trans HB.out.size h.1)).size (.cells #[.int .i64 y1, .int .u64 y2, .int .i64 y3] 30)); have HF4 : Hid (∀ g, F1 w4.heap.size g → g < (w4.alloc (.cells #[.int .i64 y1, .int .u64 y2, .int .i64 y3] 30)).heap.size) := (fun g h => (by subst h; simp)); clear k4 k5 o4)
                  | (go_at_call 20; (with_reducible refine Calls.mono (both_rtake K4.out HF4.out S4.out LR0.out NA.out HR.out) ?_); rintro e w5 ⟨rfl, k5, o5⟩; have x7 := X7.out.only o5 (fun h => h.2 rfl); have z0 := x7.cell 0; have z1 := x7.cell 1; have z2 := x7.cell 2; have zl := x7.lt; have KT := Lib.hid ((k5.re (Far' := NF) (fun _ _ h => h.elim)).below ((Below.refl _ _).alloc (Nat.le_refl _) (.cells #[.int .i64 y1, .int .u64 y2, .int .i64 y3] 30))); have BT := Lib.hid ((Below.onlyF B4.out o5 (fun i h => Nat.le_trans HB.out.size h.1)).alloc (Below.onlyF B4.out o5 (fun i h => Nat.le_trans HB.out.size h.1)).size (.cells #[.int .i64 y1, .int .u64 y2, .int .i64 y3] 30)); clear k5 o5 x7)
                  | fail)
                obtain ⟨hh, ehh⟩ : ∃ y, y3 = y := ⟨_, rfl⟩
                obtain ⟨dd, edd⟩ : ∃ y, dn = y := ⟨_, rfl⟩
                have KT := Lib.hid (show Both _ _ _ _ _ l1 lr1 hh hh dd dd by rw [← ehh, ← edd]; exact KT.out)
                clear ehh edd
                go_wp2_with fail
                go_meet
                exact ⟨_, _, hh, dd, PT.out, TT.out, KT.out, BT.out⟩
        case rest =>
          obtain ⟨l1, lr1, hh, dd, pt, tt, kt, bt⟩ := hcut.out
          have PT := Lib.hid pt
          have TT := Lib.hid tt
          have KT := Lib.hid kt
          have BT := Lib.hid bt
          clear pt tt kt bt hcut KI SI BI HT HP F B6 X6 K6 S6' HF6 c0 c1 c2 c3
          have AL := Lib.hid (all_alike KT.out.fine PT.out)
          by_cases hl1 : l1 = []
          · subst hl1
            obtain rfl : lr1 = [] := by simpa using PT.out
            have N0 := Lib.hid (show nextF [] hh dd = (⟨0, 0, 0⟩, false, 5) from rfl)
            have L64 := Lib.hid (show 0 ≤ 64 by omega)
            go_wp2_with (first
              | (go_at_call 15; (with_reducible refine Calls.mono (both_next KT.out N0.out) ?_); rintro e w7 ⟨rfl, k7, b7⟩; have X11 := Lib.hid (Blk.new w7 30 [.int .i64 0, .int .u64 0, .int .i64 0]); have K7 := Lib.hid (k7.below ((Below.refl _ _).alloc (Nat.le_refl _) (.cells #[.int .i64 0, .int .u64 0, .int .i64 0] 30))); have B7 := Lib.hid ((Below.next BT.out b7).alloc (Below.next BT.out b7).size (.cells #[.int .i64 0, .int .u64 0, .int .i64 0] 30)); clear k7 b7)
              | (go_at_call 21; (with_reducible refine Calls.mono (both_rnext0 K7.out) ?_); rintro e w8 ⟨rfl, k8, b8⟩; have K8 := Lib.hid k8; have B8 := Lib.hid (Below.next B7.out b8); have X11 := Lib.hid (X11.out.below b8 X11.out.lt); clear k8 b8)
              | (go_at_call 16; (with_reducible refine Calls.mono (both_head K8.out) ?_); rintro e w9 ⟨rfl, k9, b9⟩; have K9 := Lib.hid k9; have B9 := Lib.hid (Below.next B8.out b9); have X11 := Lib.hid (X11.out.below b9 X11.out.lt); clear k9 b9))
            obtain ⟨Ar, cr, hrb, hrs⟩ := K9.out.rblk
            have HSD : Hid (SR w1.heap.size w7.heap.size (.slice Ar ([] : List Wt).length cr) hh dd 0 0 0 w9.drew) := ⟨hrb.drew, X11.out.drew⟩
            clear hrb hrs
            refine wp_region_zone (SR w1.heap.size w7.heap.size (.slice Ar ([] : List Wt).length cr) hh dd 0 0 0) (fun j => true) (by kernel_rfl) ?_
            refine wpAnyZ_move (i := 0) (v := ?_) rfl (by kernel_rfl) (by kernel_rfl) (by kernel_rfl) (fun _ _ _ h => h) (Or.inl ⟨by rfl, ?_⟩) ?_
            (rotate_left 1; (focus (intro W; go_simp; try with_reducible rfl)))
            try simp only [Act.put, List.setIfInBounds_toArray, List.set_cons_zero, List.set_cons_succ, List.getElem_toArray, List.getElem_cons_succ, List.getElem_cons_zero]
            refine wpAnyZ_move (i := 1) (v := ?_) rfl (by kernel_rfl) (by kernel_rfl) (by kernel_rfl) (fun _ _ _ h => h) (Or.inl ⟨by rfl, ?_⟩) ?_
            (rotate_left 1; (focus (intro W; go_simp; try with_reducible rfl)))
            try simp only [Act.put, List.setIfInBounds_toArray, List.set_cons_zero, List.set_cons_succ, List.getElem_toArray, List.getElem_cons_succ, List.getElem_cons_zero]
            refine wpAnyZ_move (i := 2) (v := ?_) rfl (by kernel_rfl) (by kernel_rfl) (by kernel_rfl) (fun _ _ _ h => h) (Or.inl ⟨by rfl, ?_⟩) ?_
            (rotate_left 1; (focus (intro W; go_simp; try with_reducible rfl)))
            try simp only [Act.put, List.setIfInBounds_toArray, List.set_cons_zero, List.set_cons_succ, List.getElem_toArray, List.getElem_cons_succ, List.getElem_cons_zero]
            refine wpAnyZ_move (i := 3) (v := ?_) rfl (by kernel_rfl) (by kernel_rfl) (by kernel_rfl) (fun _ _ _ h => h) (Or.inl ⟨by rfl, ?_⟩) ?_
            (rotate_left 1; (focus (intro W; go_simp; try with_reducible rfl)))
            try simp only [Act.put, List.setIfInBounds_toArray, List.set_cons_zero, List.set_cons_succ, List.getElem_toArray, List.getElem_cons_succ, List.getElem_cons_zero]
            refine wpAnyZ_move (i := 4) (v := ?_) rfl (by kernel_rfl) (by kernel_rfl) (by kernel_rfl) (fun _ _ _ h => h) (Or.inl ⟨by rfl, ?_⟩) ?_
            (rotate_left 1; (focus (intro W; go_simp; try with_reducible rfl)))
            try simp only [Act.put, List.setIfInBounds_toArray, List.set_cons_zero, List.set_cons_succ, List.getElem_toArray, List.getElem_cons_succ, List.getElem_cons_zero]
            refine wpAnyZ_move (i := 5) (v := ?_) rfl (by kernel_rfl) (by kernel_rfl) (by kernel_rfl) (fun _ _ _ h => h) (Or.inl ⟨by rfl, ?_⟩) ?_
            (rotate_left 1; (focus (intro W; go_simp; try with_reducible rfl)))
            try simp only [Act.put, List.setIfInBounds_toArray, List.set_cons_zero, List.set_cons_succ, List.getElem_toArray, List.getElem_cons_succ, List.getElem_cons_zero]
            refine wpAnyZ_move (i := 6) (v := ?_) rfl (by kernel_rfl) (by kernel_rfl) (by kernel_rfl) (fun _ _ _ h => h) (Or.inl ⟨by rfl, ?_⟩) ?_
            (rotate_left 1; (focus (intro W; go_simp; try with_reducible rfl)))
            try simp only [Act.put, List.setIfInBounds_toArray, List.set_cons_zero, List.set_cons_succ, List.getElem_toArray, List.getElem_cons_succ, List.getElem_cons_zero]
            refine wpAnyZ_move (i := 7) (v := ?_) rfl (by kernel_rfl) (by kernel_rfl) (by kernel_rfl) (fun _ _ _ h => h) (Or.inl ⟨by rfl, ?_⟩) ?_
            (rotate_left 1; (focus (intro W; go_simp; try with_reducible rfl)))
            try simp only [Act.put, List.setIfInBounds_toArray, List.set_cons_zero, List.set_cons_succ, List.getElem_toArray, List.getElem_cons_succ, List.getElem_cons_zero]
            refine wpAnyZ_move (i := 8) (v := ?_) rfl (by kernel_rfl) (by kernel_rfl) (by kernel_rfl) (fun _ _ _ h => h) (Or.inl ⟨by rfl, ?_⟩) ?_
            (rotate_left 1; (focus (intro W; go_simp; try with_reducible rfl)))
            try simp only [Act.put, List.setIfInBounds_toArray, List.set_cons_zero, List.set_cons_succ, List.getElem_toArray, List.getElem_cons_succ, List.getElem_cons_zero]
            refine wpAnyZ_move (i := 9) (v := undef) rfl (by kernel_rfl) (by kernel_rfl) (by kernel_rfl) (fun _ _ _ h => h) (Or.inr ⟨by rfl, rfl⟩) ?_
            try simp only [Act.put, List.setIfInBounds_toArray, List.set_cons_zero, List.set_cons_succ, List.getElem_toArray, List.getElem_cons_succ, List.getElem_cons_zero]
            refine wpAnyZ_move (i := 10) (v := undef) rfl (by kernel_rfl) (by kernel_rfl) (by kernel_rfl) (fun _ _ _ h => h) (Or.inr ⟨by rfl, rfl⟩) ?_
            try simp only [Act.put, List.setIfInBounds_toArray, List.set_cons_zero, List.set_cons_succ, List.getElem_toArray, List.getElem_cons_succ, List.getElem_cons_zero]
            refine wpAnyZ_move (i := 11) (v := undef) rfl (by kernel_rfl) (by kernel_rfl) (by kernel_rfl) (fun _ _ _ h => h) (Or.inr ⟨by rfl, rfl⟩) ?_
            try simp only [Act.put, List.setIfInBounds_toArray, List.set_cons_zero, List.set_cons_succ, List.getElem_toArray, List.getElem_cons_succ, List.getElem_cons_zero]
            refine wpAnyZ_move (i := 12) (v := undef) rfl (by kernel_rfl) (by kernel_rfl) (by kernel_rfl) (fun _ _ _ h => h) (Or.inr ⟨by rfl, rfl⟩) ?_
            try simp only [Act.put, List.setIfInBounds_toArray, List.set_cons_zero, List.set_cons_succ, List.getElem_toArray, List.getElem_cons_succ, List.getElem_cons_zero]
            refine wpAnyZ_move (i := 13) (v := undef) rfl (by kernel_rfl) (by kernel_rfl) (by kernel_rfl) (fun _ _ _ h => h) (Or.inr ⟨by rfl, rfl⟩) ?_
            try simp only [Act.put, List.setIfInBounds_toArray, List.set_cons_zero, List.set_cons_succ, List.getElem_toArray, List.getElem_cons_succ, List.getElem_cons_zero]
            refine wpAnyZ_move (i := 14) (v := undef) rfl (by kernel_rfl) (by kernel_rfl) (by kernel_rfl) (fun _ _ _ h => h) (Or.inr ⟨by rfl, rfl⟩) ?_
            try simp only [Act.put, List.setIfInBounds_toArray, List.set_cons_zero, List.set_cons_succ, List.getElem_toArray, List.getElem_cons_succ, List.getElem_cons_zero]
            refine wpAnyZ_move (i := 15) (v := undef) rfl (by kernel_rfl) (by kernel_rfl) (by kernel_rfl) (fun _ _ _ h => h) (Or.inr ⟨by rfl, rfl⟩) ?_
            try simp only [Act.put, List.setIfInBounds_toArray, List.set_cons_zero, List.set_cons_succ, List.getElem_toArray, List.getElem_cons_succ, List.getElem_cons_zero]
            refine wpAnyZ_move (i := 16) (v := undef) rfl (by kernel_rfl) (by kernel_rfl) (by kernel_rfl) (fun _ _ _ h => h) (Or.inr ⟨by rfl, rfl⟩) ?_
            try simp only [Act.put, List.setIfInBounds_toArray, List.set_cons_zero, List.set_cons_succ, List.getElem_toArray, List.getElem_cons_succ, List.getElem_cons_zero]
            refine wpAnyZ_move (i := 17) (v := undef) rfl (by kernel_rfl) (by kernel_rfl) (by kernel_rfl) (fun _ _ _ h => h) (Or.inr ⟨by rfl, rfl⟩) ?_
            try simp only [Act.put, List.setIfInBounds_toArray, List.set_cons_zero, List.set_cons_succ, List.getElem_toArray, List.getElem_cons_succ, List.getElem_cons_zero]
            refine wpAnyZ_move (i := 18) (v := ?_) rfl (by kernel_rfl) (by kernel_rfl) (by kernel_rfl) (fun _ _ _ h => h) (Or.inl ⟨by rfl, ?_⟩) ?_
            (rotate_left 1; (focus (intro W; go_simp; try with_reducible rfl)))
            try simp only [Act.put, List.setIfInBounds_toArray, List.set_cons_zero, List.set_cons_succ, List.getElem_toArray, List.getElem_cons_succ, List.getElem_cons_zero]
            refine wpAnyZ_move (i := 19) (v := ?_) rfl (by kernel_rfl) (by kernel_rfl) (by kernel_rfl) (fun _ _ _ h => h) (Or.inl ⟨by rfl, ?_⟩) ?_
            (rotate_left 1; (focus (intro W; go_simp; try with_reducible rfl)))
            try simp only [Act.put, List.setIfInBounds_toArray, List.set_cons_zero, List.set_cons_succ, List.getElem_toArray, List.getElem_cons_succ, List.getElem_cons_zero]
            refine wpAnyZ_move (i := 20) (v := ?_) rfl (by kernel_rfl) (by kernel_rfl) (by kernel_rfl) (fun _ _ _ h => h) (Or.inl ⟨by rfl, ?_⟩) ?_
            (rotate_left 1; (focus (intro W; go_simp; try with_reducible rfl)))
            try simp only [Act.put, List.setIfInBounds_toArray, List.set_cons_zero, List.set_cons_succ, List.getElem_toArray, List.getElem_cons_succ, List.getElem_cons_zero]
            refine wpAnyZ_move (i := 21) (v := ?_) rfl (by kernel_rfl) (by kernel_rfl) (by kernel_rfl) (fun _ _ _ h => h) (Or.inl ⟨by rfl, ?_⟩) ?_
            (rotate_left 1; (focus (intro W; go_simp; try with_reducible rfl)))
            try simp only [Act.put, List.setIfInBounds_toArray, List.set_cons_zero, List.set_cons_succ, List.getElem_toArray, List.getElem_cons_succ, List.getElem_cons_zero]
            refine wpAnyZ_move (i := 22) (v := ?_) rfl (by kernel_rfl) (by kernel_rfl) (by kernel_rfl) (fun _ _ _ h => h) (Or.inl ⟨by rfl, ?_⟩) ?_
            (rotate_left 1; (focus (intro W; go_simp; try with_reducible rfl)))
            try simp only [Act.put, List.setIfInBounds_toArray, List.set_cons_zero, List.set_cons_succ, List.getElem_toArray, List.getElem_cons_succ, List.getElem_cons_zero]
            refine wpAnyZ_move (i := 23) (v := ?_) rfl (by kernel_rfl) (by kernel_rfl) (by kernel_rfl) (fun _ _ _ h => h) (Or.inl ⟨by rfl, ?_⟩) ?_
            (rotate_left 1; (focus (intro W; go_simp; try with_reducible rfl)))
            try simp only [Act.put, List.setIfInBounds_toArray, List.set_cons_zero, List.set_cons_succ, List.getElem_toArray, List.getElem_cons_succ, List.getElem_cons_zero]
            refine wpAnyZ_move (i := 24) (v := ?_) rfl (by kernel_rfl) (by kernel_rfl) (by kernel_rfl) (fun _ _ _ h => h) (Or.inl ⟨by rfl, ?_⟩) ?_
            (rotate_left 1; (focus (intro W; go_simp; try with_reducible rfl)))
            try simp only [Act.put, List.setIfInBounds_toArray, List.set_cons_zero, List.set_cons_succ, List.getElem_toArray, List.getElem_cons_succ, List.getElem_cons_zero]
            refine wpAnyZ_move (i := 25) (v := ?_) rfl (by kernel_rfl) (by kernel_rfl) (by kernel_rfl) (fun _ _ _ h => h) (Or.inl ⟨by rfl, ?_⟩) ?_
            (rotate_left 1; (focus (intro W; go_simp; try with_reducible rfl)))
            try simp only [Act.put, List.setIfInBounds_toArray, List.set_cons_zero, List.set_cons_succ, List.getElem_toArray, List.getElem_cons_succ, List.getElem_cons_zero]
            refine wpAnyZ_move (i := 26) (v := ?_) rfl (by kernel_rfl) (by kernel_rfl) (by kernel_rfl) (fun _ _ _ h => h) (Or.inl ⟨by rfl, ?_⟩) ?_
            (rotate_left 1; (focus (intro W; go_simp; try with_reducible rfl)))
            try simp only [Act.put, List.setIfInBounds_toArray, List.set_cons_zero, List.set_cons_succ, List.getElem_toArray, List.getElem_cons_succ, List.getElem_cons_zero]
            refine wpAnyZ_take (i := 27) (v := ?_) rfl (by kernel_rfl) (by kernel_rfl) (by kernel_rfl) (by kernel_rfl) (fun _ _ _ h => h) (Or.inl ⟨by rfl, ?_⟩) HSD.out ?_
            (rotate_left 1; (focus (intro W hS; have p0 := hS.1.cell 0; have p1 := hS.1.cell 1; have p2 := hS.1.cell 2; have pl := hS.1.lt; have q0 := hS.2.cell 0; have q1 := hS.2.cell 1; have q2 := hS.2.cell 2; have ql := hS.2.lt; go_simp; try with_reducible rfl)))
            try simp only [Act.put, List.setIfInBounds_toArray, List.set_cons_zero, List.set_cons_succ, List.getElem_toArray, List.getElem_cons_succ, List.getElem_cons_zero]
            refine wpAnyZ_move (i := 28) (v := ?_) rfl (by kernel_rfl) (by kernel_rfl) (by kernel_rfl) (fun _ _ _ h => h) (Or.inl ⟨by rfl, ?_⟩) ?_
            (rotate_left 1; (focus (intro W; go_simp; try with_reducible rfl)))
            try simp only [Act.put, List.setIfInBounds_toArray, List.set_cons_zero, List.set_cons_succ, List.getElem_toArray, List.getElem_cons_succ, List.getElem_cons_zero]
            refine wpAnyZ_move (i := 29) (v := ?_) rfl (by kernel_rfl) (by kernel_rfl) (by kernel_rfl) (fun _ _ _ h => h) (Or.inl ⟨by rfl, ?_⟩) ?_
            (rotate_left 1; (focus (intro W; go_simp; try with_reducible rfl)))
            try simp only [Act.put, List.setIfInBounds_toArray, List.set_cons_zero, List.set_cons_succ, List.getElem_toArray, List.getElem_cons_succ, List.getElem_cons_zero]
            refine wpAnyZ_move (i := 30) (v := ?_) rfl (by kernel_rfl) (by kernel_rfl) (by kernel_rfl) (fun _ _ _ h => h) (Or.inl ⟨by rfl, ?_⟩) ?_
            (rotate_left 1; (focus (intro W; go_simp; try with_reducible rfl)))
            try simp only [Act.put, List.setIfInBounds_toArray, List.set_cons_zero, List.set_cons_succ, List.getElem_toArray, List.getElem_cons_succ, List.getElem_cons_zero]
            refine wpAnyZ_move (i := 31) (v := ?_) rfl (by kernel_rfl) (by kernel_rfl) (by kernel_rfl) (fun _ _ _ h => h) (Or.inl ⟨by rfl, ?_⟩) ?_
            (rotate_left 1; (focus (intro W; go_simp; try with_reducible rfl)))
            try simp only [Act.put, List.setIfInBounds_toArray, List.set_cons_zero, List.set_cons_succ, List.getElem_toArray, List.getElem_cons_succ, List.getElem_cons_zero]
            refine wpAnyZ_move (i := 32) (v := ?_) rfl (by kernel_rfl) (by kernel_rfl) (by kernel_rfl) (fun _ _ _ h => h) (Or.inl ⟨by rfl, ?_⟩) ?_
            (rotate_left 1; (focus (intro W; go_simp; try with_reducible rfl)))
            try simp only [Act.put, List.setIfInBounds_toArray, List.set_cons_zero, List.set_cons_succ, List.getElem_toArray, List.getElem_cons_succ, List.getElem_cons_zero]
            refine wpAnyZ_move (i := 33) (v := ?_) rfl (by kernel_rfl) (by kernel_rfl) (by kernel_rfl) (fun _ _ _ h => h) (Or.inl ⟨by rfl, ?_⟩) ?_
            (rotate_left 1; (focus (intro W; go_simp; try with_reducible rfl)))
            try simp only [Act.put, List.setIfInBounds_toArray, List.set_cons_zero, List.set_cons_succ, List.getElem_toArray, List.getElem_cons_succ, List.getElem_cons_zero]
            refine wpAnyZ_move (i := 34) (v := ?_) rfl (by kernel_rfl) (by kernel_rfl) (by kernel_rfl) (fun _ _ _ h => h) (Or.inl ⟨by rfl, ?_⟩) ?_
            (rotate_left 1; (focus (intro W; go_simp; try with_reducible rfl)))
            try simp only [Act.put, List.setIfInBounds_toArray, List.set_cons_zero, List.set_cons_succ, List.getElem_toArray, List.getElem_cons_succ, List.getElem_cons_zero]
            refine wpAnyZ_move (i := 35) (v := ?_) rfl (by kernel_rfl) (by kernel_rfl) (by kernel_rfl) (fun _ _ _ h => h) (Or.inl ⟨by rfl, ?_⟩) ?_
            (rotate_left 1; (focus (intro W; go_simp; try with_reducible rfl)))
            try simp only [Act.put, List.setIfInBounds_toArray, List.set_cons_zero, List.set_cons_succ, List.getElem_toArray, List.getElem_cons_succ, List.getElem_cons_zero]
            refine wpAnyZ_move (i := 36) (v := ?_) rfl (by kernel_rfl) (by kernel_rfl) (by kernel_rfl) (fun _ _ _ h => h) (Or.inl ⟨by rfl, ?_⟩) ?_
            (rotate_left 1; (focus (intro W; go_simp; try with_reducible rfl)))
            try simp only [Act.put, List.setIfInBounds_toArray, List.set_cons_zero, List.set_cons_succ, List.getElem_toArray, List.getElem_cons_succ, List.getElem_cons_zero]
            refine wpAnyZ_move (i := 37) (v := ?_) rfl (by kernel_rfl) (by kernel_rfl) (by kernel_rfl) (fun _ _ _ h => h) (Or.inl ⟨by rfl, ?_⟩) ?_
            (rotate_left 1; (focus (intro W; go_simp; try with_reducible rfl)))
            try simp only [Act.put, List.setIfInBounds_toArray, List.set_cons_zero, List.set_cons_succ, List.getElem_toArray, List.getElem_cons_succ, List.getElem_cons_zero]
            refine wpAnyZ_take (i := 38) (v := ?_) rfl (by kernel_rfl) (by kernel_rfl) (by kernel_rfl) (by kernel_rfl) (fun _ _ _ h => h) (Or.inl ⟨by rfl, ?_⟩) HSD.out ?_
            (rotate_left 1; (focus (intro W hS; have p0 := hS.1.cell 0; have p1 := hS.1.cell 1; have p2 := hS.1.cell 2; have pl := hS.1.lt; have q0 := hS.2.cell 0; have q1 := hS.2.cell 1; have q2 := hS.2.cell 2; have ql := hS.2.lt; go_simp; try with_reducible rfl)))
            try simp only [Act.put, List.setIfInBounds_toArray, List.set_cons_zero, List.set_cons_succ, List.getElem_toArray, List.getElem_cons_succ, List.getElem_cons_zero]
            refine wpAnyZ_move (i := 39) (v := ?_) rfl (by kernel_rfl) (by kernel_rfl) (by kernel_rfl) (fun _ _ _ h => h) (Or.inl ⟨by rfl, ?_⟩) ?_
            (rotate_left 1; (focus (intro W; go_simp; try with_reducible rfl)))
            try simp only [Act.put, List.setIfInBounds_toArray, List.set_cons_zero, List.set_cons_succ, List.getElem_toArray, List.getElem_cons_succ, List.getElem_cons_zero]
            refine wpAnyZ_move (i := 40) (v := ?_) rfl (by kernel_rfl) (by kernel_rfl) (by kernel_rfl) (fun _ _ _ h => h) (Or.inl ⟨by rfl, ?_⟩) ?_
            (rotate_left 1; (focus (intro W; go_simp; try with_reducible rfl)))
            try simp only [Act.put, List.setIfInBounds_toArray, List.set_cons_zero, List.set_cons_succ, List.getElem_toArray, List.getElem_cons_succ, List.getElem_cons_zero]
            refine wpAnyZ_move (i := 41) (v := ?_) rfl (by kernel_rfl) (by kernel_rfl) (by kernel_rfl) (fun _ _ _ h => h) (Or.inl ⟨by rfl, ?_⟩) ?_
            (rotate_left 1; (focus (intro W; go_simp; try with_reducible rfl)))
            try simp only [Act.put, List.setIfInBounds_toArray, List.set_cons_zero, List.set_cons_succ, List.getElem_toArray, List.getElem_cons_succ, List.getElem_cons_zero]
            refine wpAnyZ_move (i := 42) (v := ?_) rfl (by kernel_rfl) (by kernel_rfl) (by kernel_rfl) (fun _ _ _ h => h) (Or.inl ⟨by rfl, ?_⟩) ?_
            (rotate_left 1; (focus (intro W; go_simp; try with_reducible rfl)))
            try simp only [Act.put, List.setIfInBounds_toArray, List.set_cons_zero, List.set_cons_succ, List.getElem_toArray, List.getElem_cons_succ, List.getElem_cons_zero]
            refine wpAnyZ_move (i := 43) (v := ?_) rfl (by kernel_rfl) (by kernel_rfl) (by kernel_rfl) (fun _ _ _ h => h) (Or.inl ⟨by rfl, ?_⟩) ?_
            (rotate_left 1; (focus (intro W; go_simp; try with_reducible rfl)))
            try simp only [Act.put, List.setIfInBounds_toArray, List.set_cons_zero, List.set_cons_succ, List.getElem_toArray, List.getElem_cons_succ, List.getElem_cons_zero]
            refine wpAnyZ_move (i := 44) (v := ?_) rfl (by kernel_rfl) (by kernel_rfl) (by kernel_rfl) (fun _ _ _ h => h) (Or.inl ⟨by rfl, ?_⟩) ?_
            (rotate_left 1; (focus (intro W; go_simp; try with_reducible rfl)))
            try simp only [Act.put, List.setIfInBounds_toArray, List.set_cons_zero, List.set_cons_succ, List.getElem_toArray, List.getElem_cons_succ, List.getElem_cons_zero]
            refine wpAnyZ_move (i := 45) (v := ?_) rfl (by kernel_rfl) (by kernel_rfl) (by kernel_rfl) (fun _ _ _ h => h) (Or.inl ⟨by rfl, ?_⟩) ?_
            (rotate_left 1; (focus (intro W; go_simp; try with_reducible rfl)))
            try simp only [Act.put, List.setIfInBounds_toArray, List.set_cons_zero, List.set_cons_succ, List.getElem_toArray, List.getElem_cons_succ, List.getElem_cons_zero]
            refine wpAnyZ_take (i := 46) (v := ?_) rfl (by kernel_rfl) (by kernel_rfl) (by kernel_rfl) (by kernel_rfl) (fun _ _ _ h => h) (Or.inl ⟨by rfl, ?_⟩) HSD.out ?_
            (rotate_left 1; (focus (intro W hS; have p0 := hS.1.cell 0; have p1 := hS.1.cell 1; have p2 := hS.1.cell 2; have pl := hS.1.lt; have q0 := hS.2.cell 0; have q1 := hS.2.cell 1; have q2 := hS.2.cell 2; have ql := hS.2.lt; go_simp; try with_reducible rfl)))
            try simp only [Act.put, List.setIfInBounds_toArray, List.set_cons_zero, List.set_cons_succ, List.getElem_toArray, List.getElem_cons_succ, List.getElem_cons_zero]
            refine wpAnyZ_move (i := 47) (v := ?_) rfl (by kernel_rfl) (by kernel_rfl) (by kernel_rfl) (fun _ _ _ h => h) (Or.inl ⟨by rfl, ?_⟩) ?_
            (rotate_left 1; (focus (intro W; go_simp; try with_reducible rfl)))
            try simp only [Act.put, List.setIfInBounds_toArray, List.set_cons_zero, List.set_cons_succ, List.getElem_toArray, List.getElem_cons_succ, List.getElem_cons_zero]
            refine wpAnyZ_move (i := 48) (v := ?_) rfl (by kernel_rfl) (by kernel_rfl) (by kernel_rfl) (fun _ _ _ h => h) (Or.inl ⟨by rfl, ?_⟩) ?_
            (rotate_left 1; (focus (intro W; go_simp; try with_reducible rfl)))
            try simp only [Act.put, List.setIfInBounds_toArray, List.set_cons_zero, List.set_cons_succ, List.getElem_toArray, List.getElem_cons_succ, List.getElem_cons_zero]
            refine wpAnyZ_move (i := 49) (v := ?_) rfl (by kernel_rfl) (by kernel_rfl) (by kernel_rfl) (fun _ _ _ h => h) (Or.inl ⟨by rfl, ?_⟩) ?_
            (rotate_left 1; (focus (intro W; go_simp; try with_reducible rfl)))
            try simp only [Act.put, List.setIfInBounds_toArray, List.set_cons_zero, List.set_cons_succ, List.getElem_toArray, List.getElem_cons_succ, List.getElem_cons_zero]
            refine wpAnyZ_move (i := 50) (v := ?_) rfl (by kernel_rfl) (by kernel_rfl) (by kernel_rfl) (fun _ _ _ h => h) (Or.inl ⟨by rfl, ?_⟩) ?_
            (rotate_left 1; (focus (intro W; go_simp; try with_reducible rfl)))
            try simp only [Act.put, List.setIfInBounds_toArray, List.set_cons_zero, List.set_cons_succ, List.getElem_toArray, List.getElem_cons_succ, List.getElem_cons_zero]
            refine wpAnyZ_move (i := 52) (v := ?_) rfl (by kernel_rfl) (by kernel_rfl) (by kernel_rfl) (fun _ _ _ h => h) (Or.inl ⟨by rfl, ?_⟩) ?_
            (rotate_left 1; (focus (intro W; go_simp; try with_reducible rfl)))
            try simp only [Act.put, List.setIfInBounds_toArray, List.set_cons_zero, List.set_cons_succ, List.getElem_toArray, List.getElem_cons_succ, List.getElem_cons_zero]
            refine wpAnyZ_one (i := 51) (by kernel_rfl) rfl (fun K hK => ?_)
            go_simp
            have K9d := Lib.hid (K9.out.below (Below.refl _ _).drew)
            go_wp2_with (go_at_call 23; (with_reducible refine Calls.mono (both_all K9d.out) ?_); rintro e wa ⟨⟨Aa, ca, rfl, hsa, ba⟩, ka⟩; have KA := Lib.hid ka; have HA := Lib.hid (show Slc wa 30 3 (.slice Aa 0 ca) 0 (flatW []) from hsa); have BA := Lib.hid (Below.next B9.out.drew ba); have SRA := Lib.hid (HSD.out.below ba); clear hsa ba ka)
            refine hK.out _ _ (fun _ _ => SRA.out) ?_
            clear hK K
            refine wpAnyZ_one (i := 53) (by kernel_rfl) rfl (fun K hK => ?_)
            go_simp
            go_wp2_with (go_at_call 24; (with_reducible refine Calls.mono (both_rall KA.out AL.out) ?_); rintro e wb ⟨⟨Ab, cb, rfl, hsb, bb⟩, kb⟩; have KB := Lib.hid kb; have HBS := Lib.hid (show Slc wb 30 3 (.slice Ab 0 cb) 0 (flatW []) from hsb); have HA := Lib.hid (HA.out.below bb (fun g hg => HA.out.lt hg)); have BB := Lib.hid (Below.next BA.out bb); have SB2 := Lib.hid bb.size; have SRB := Lib.hid (SRA.out.below bb); clear hsb bb kb)
            refine hK.out _ _ (fun _ _ => SRB.out) ?_
            clear hK K
            refine wpAnyZ_one (i := 54) (by kernel_rfl) rfl (fun K hK => ?_)
            go_simp
            go_wp2_with (go_at_call 22; (with_reducible refine Calls.mono (same_any _ _ _ _ _ _ _ HA.out HBS.out L64.out) ?_); rintro e wc ⟨rfl, bc⟩; have KC := Lib.hid (KB.out.below bc); have BC := Lib.hid (Below.next BB.out bc); have SCC := Lib.hid (Both.base_le KC.out); have SRC := Lib.hid (SRB.out.below bc); clear bc)
            refine hK.out _ _ (fun _ _ => SRC.out) ?_
            clear hK K
            refine wpAnyZ_move (i := 55) (v := ?_) rfl (by kernel_rfl) (by kernel_rfl) (by kernel_rfl) (fun _ _ _ h => h) (Or.inl ⟨by rfl, ?_⟩) ?_
            (rotate_left 1; (focus (intro W; go_simp; try with_reducible rfl)))
            try simp only [Act.put, List.setIfInBounds_toArray, List.set_cons_zero, List.set_cons_succ, List.getElem_toArray, List.getElem_cons_succ, List.getElem_cons_zero]
            refine wpAnyZ_move (i := 56) (v := ?_) rfl (by kernel_rfl) (by kernel_rfl) (by kernel_rfl) (fun _ _ _ h => h) (Or.inl ⟨by rfl, ?_⟩) ?_
            (rotate_left 1; (focus (intro W; go_simp; try with_reducible rfl)))
            try simp only [Act.put, List.setIfInBounds_toArray, List.set_cons_zero, List.set_cons_succ, List.getElem_toArray, List.getElem_cons_succ, List.getElem_cons_zero]
            refine wpAnyZ_done (by kernel_rfl) ?_ _
            go_wp2_with fail
            go_roundw
            case rel => exact ⟨i + 1, _, _, hh, dd, by go_num, by omega, PT.out, TT.out, KC.out, SCC.out, BC.out⟩
            case measure => simp [intOf]; omega
          · obtain ⟨y, dn, nx⟩ := next_spec KT.out.fine hl1 TT.out hh dd
            have NA := Lib.hid (next_alike KT.out.fine PT.out nx)
            have NX := Lib.hid nx.eq
            have L64 := Lib.hid (show l1.length ≤ 64 by rw [PT.out.length_eq]; exact KT.out.len)
            have LR0 := Lib.hid (show 0 < lr1.length by rw [← PT.out.length_eq]; exact List.length_pos_iff.2 hl1)
            obtain ⟨y1, y2, y3⟩ := y
            clear hl1 nx
            go_wp2_with (first
              | (go_at_call 15; (with_reducible refine Calls.mono (both_next KT.out NX.out) ?_); rintro e w7 ⟨rfl, k7, b7⟩; have X11 := Lib.hid (Blk.new w7 30 [.int .i64 y1, .int .u64 y2, .int .i64 y3]); have K7 := Lib.hid (k7.below ((Below.refl _ _).alloc (Nat.le_refl _) (.cells #[.int .i64 y1, .int .u64 y2, .int .i64 y3] 30))); have B7 := Lib.hid ((Below.next BT.out b7).alloc (Below.next BT.out b7).size (.cells #[.int .i64 y1, .int .u64 y2, .int .i64 y3] 30)); clear k7 b7)
              | (go_at_call 21; (with_reducible refine Calls.mono (both_rnext K7.out LR0.out NA.out) ?_); rintro e w8 ⟨⟨j, rfl, hj⟩, k8, b8⟩; have HJ := Lib.hid hj; have K8 := Lib.hid k8; have B8 := Lib.hid (Below.next B7.out b8); have X11 := Lib.hid (X11.out.below b8 X11.out.lt); clear k8 b8)
              | (go_at_call 16; (with_reducible refine Calls.mono (both_head K8.out) ?_); rintro e w9 ⟨rfl, k9, b9⟩; have K9 := Lib.hid k9; have B9 := Lib.hid (Below.next B8.out b9); have X11 := Lib.hid (X11.out.below b9 X11.out.lt); clear k9 b9))
            obtain ⟨Ar, cr, hrb, hrs⟩ := K9.out.rblk
            obtain ⟨g3, off3, c3', ev3, -, hlt3, v0, v1, v2⟩ := hrs.wat HJ.out
            simp only [Value.slice.injEq] at ev3
            obtain ⟨rfl, -, -⟩ := ev3
            have jl : (j : Int) < (lr1.length : Int) := by have := (List.getElem?_eq_some_iff.1 HJ.out).1; omega
            have j0 : decide ((j : Int) < 0) = false := decide_eq_false (by omega)
            have j1 : ¬ (j : Int) < 0 := by omega
            have j2 : decide (0 ≤ (j : Int)) = true := decide_eq_true (by omega)
            have HSD : Hid (SR3 w1.heap.size w7.heap.size (.slice (some ⟨g3, off3, none⟩) lr1.length cr) hh dd y1 y2 y3 g3 (off3 + j * 3) w9.drew) := ⟨⟨hrb.drew, X11.out.drew⟩, v0, v1, v2, hlt3⟩
            clear hrb hrs v0 v1 v2
            refine wp_region_zone (SR3 w1.heap.size w7.heap.size (.slice (some ⟨g3, off3, none⟩) lr1.length cr) hh dd y1 y2 y3 g3 (off3 + j * 3)) (fun j => true) (by kernel_rfl) ?_
            refine wpAnyZ_move (i := 0) (v := ?_) rfl (by kernel_rfl) (by kernel_rfl) (by kernel_rfl) (fun _ _ _ h => h) (Or.inl ⟨by rfl, ?_⟩) ?_
            (rotate_left 1; (focus (intro W; go_simp; try with_reducible rfl)))
            try simp only [Act.put, List.setIfInBounds_toArray, List.set_cons_zero, List.set_cons_succ, List.getElem_toArray, List.getElem_cons_succ, List.getElem_cons_zero]
            refine wpAnyZ_move (i := 1) (v := ?_) rfl (by kernel_rfl) (by kernel_rfl) (by kernel_rfl) (fun _ _ _ h => h) (Or.inl ⟨by rfl, ?_⟩) ?_
            (rotate_left 1; (focus (intro W; go_simp; try with_reducible rfl)))
            try simp only [Act.put, List.setIfInBounds_toArray, List.set_cons_zero, List.set_cons_succ, List.getElem_toArray, List.getElem_cons_succ, List.getElem_cons_zero]
            refine wpAnyZ_move (i := 2) (v := ?_) rfl (by kernel_rfl) (by kernel_rfl) (by kernel_rfl) (fun _ _ _ h => h) (Or.inl ⟨by rfl, ?_⟩) ?_
            (rotate_left 1; (focus (intro W; go_simp; try with_reducible rfl)))
            try simp only [Act.put, List.setIfInBounds_toArray, List.set_cons_zero, List.set_cons_succ, List.getElem_toArray, List.getElem_cons_succ, List.getElem_cons_zero]
            refine wpAnyZ_move (i := 3) (v := ?_) rfl (by kernel_rfl) (by kernel_rfl) (by kernel_rfl) (fun _ _ _ h => h) (Or.inl ⟨by rfl, ?_⟩) ?_
            (rotate_left 1; (focus (intro W; go_simp; try with_reducible rfl)))
            try simp only [Act.put, List.setIfInBounds_toArray, List.set_cons_zero, List.set_cons_succ, List.getElem_toArray, List.getElem_cons_succ, List.getElem_cons_zero]
            refine wpAnyZ_move (i := 4) (v := ?_) rfl (by kernel_rfl) (by kernel_rfl) (by kernel_rfl) (fun _ _ _ h => h) (Or.inl ⟨by rfl, ?_⟩) ?_
            (rotate_left 1; (focus (intro W; go_simp; try with_reducible rfl)))
            try simp only [Act.put, List.setIfInBounds_toArray, List.set_cons_zero, List.set_cons_succ, List.getElem_toArray, List.getElem_cons_succ, List.getElem_cons_zero]
            refine wpAnyZ_move (i := 5) (v := ?_) rfl (by kernel_rfl) (by kernel_rfl) (by kernel_rfl) (fun _ _ _ h => h) (Or.inl ⟨by rfl, ?_⟩) ?_
            (rotate_left 1; (focus (intro W; go_simp; try with_reducible rfl)))
            try simp only [Act.put, List.setIfInBounds_toArray, List.set_cons_zero, List.set_cons_succ, List.getElem_toArray, List.getElem_cons_succ, List.getElem_cons_zero]
            refine wpAnyZ_move (i := 6) (v := ?_) rfl (by kernel_rfl) (by kernel_rfl) (by kernel_rfl) (fun _ _ _ h => h) (Or.inl ⟨by rfl, ?_⟩) ?_
            (rotate_left 1; (focus (intro W; go_simp; try with_reducible rfl)))
            try simp only [Act.put, List.setIfInBounds_toArray, List.set_cons_zero, List.set_cons_succ, List.getElem_toArray, List.getElem_cons_succ, List.getElem_cons_zero]
            refine wpAnyZ_move (i := 7) (v := ?_) rfl (by kernel_rfl) (by kernel_rfl) (by kernel_rfl) (fun _ _ _ h => h) (Or.inl ⟨by rfl, ?_⟩) ?_
            (rotate_left 1; (focus (intro W; go_simp; try with_reducible rfl)))
            try simp only [Act.put, List.setIfInBounds_toArray, List.set_cons_zero, List.set_cons_succ, List.getElem_toArray, List.getElem_cons_succ, List.getElem_cons_zero]
            refine wpAnyZ_move (i := 8) (v := ?_) rfl (by kernel_rfl) (by kernel_rfl) (by kernel_rfl) (fun _ _ _ h => h) (Or.inl ⟨by rfl, ?_⟩) ?_
            (rotate_left 1; (focus (intro W; go_simp; try with_reducible rfl)))
            try simp only [Act.put, List.setIfInBounds_toArray, List.set_cons_zero, List.set_cons_succ, List.getElem_toArray, List.getElem_cons_succ, List.getElem_cons_zero]
            refine wpAnyZ_take (i := 9) (v := ?_) rfl (by kernel_rfl) (by kernel_rfl) (by kernel_rfl) (by kernel_rfl) (fun _ _ _ h => h) (Or.inl ⟨by rfl, ?_⟩) HSD.out ?_
            (rotate_left 1; (focus (intro W hS; obtain ⟨hS, y0, y1, y2, yl⟩ := hS; have p0 := hS.1.cell 0; have p1 := hS.1.cell 1; have p2 := hS.1.cell 2; have pl := hS.1.lt; have q0 := hS.2.cell 0; have q1 := hS.2.cell 1; have q2 := hS.2.cell 2; have ql := hS.2.lt; go_simp; try with_reducible rfl)))
            try simp only [Act.put, List.setIfInBounds_toArray, List.set_cons_zero, List.set_cons_succ, List.getElem_toArray, List.getElem_cons_succ, List.getElem_cons_zero]
            refine wpAnyZ_move (i := 10) (v := ?_) rfl (by kernel_rfl) (by kernel_rfl) (by kernel_rfl) (fun _ _ _ h => h) (Or.inl ⟨by rfl, ?_⟩) ?_
            (rotate_left 1; (focus (intro W; go_simp; try with_reducible rfl)))
            try simp only [Act.put, List.setIfInBounds_toArray, List.set_cons_zero, List.set_cons_succ, List.getElem_toArray, List.getElem_cons_succ, List.getElem_cons_zero]
            refine wpAnyZ_move (i := 11) (v := ?_) rfl (by kernel_rfl) (by kernel_rfl) (by kernel_rfl) (fun _ _ _ h => h) (Or.inl ⟨by rfl, ?_⟩) ?_
            (rotate_left 1; (focus (intro W; go_simp; try with_reducible rfl)))
            try simp only [Act.put, List.setIfInBounds_toArray, List.set_cons_zero, List.set_cons_succ, List.getElem_toArray, List.getElem_cons_succ, List.getElem_cons_zero]
            refine wpAnyZ_move (i := 12) (v := ?_) rfl (by kernel_rfl) (by kernel_rfl) (by kernel_rfl) (fun _ _ _ h => h) (Or.inl ⟨by rfl, ?_⟩) ?_
            (rotate_left 1; (focus (intro W; go_simp; try with_reducible rfl)))
            try simp only [Act.put, List.setIfInBounds_toArray, List.set_cons_zero, List.set_cons_succ, List.getElem_toArray, List.getElem_cons_succ, List.getElem_cons_zero]
            refine wpAnyZ_take (i := 13) (v := ?_) rfl (by kernel_rfl) (by kernel_rfl) (by kernel_rfl) (by kernel_rfl) (fun _ _ _ h => h) (Or.inl ⟨by rfl, ?_⟩) HSD.out ?_
            (rotate_left 1; (focus (intro W hS; obtain ⟨hS, y0, y1, y2, yl⟩ := hS; have p0 := hS.1.cell 0; have p1 := hS.1.cell 1; have p2 := hS.1.cell 2; have pl := hS.1.lt; have q0 := hS.2.cell 0; have q1 := hS.2.cell 1; have q2 := hS.2.cell 2; have ql := hS.2.lt; go_simp; try with_reducible rfl)))
            try simp only [Act.put, List.setIfInBounds_toArray, List.set_cons_zero, List.set_cons_succ, List.getElem_toArray, List.getElem_cons_succ, List.getElem_cons_zero]
            refine wpAnyZ_move (i := 14) (v := ?_) rfl (by kernel_rfl) (by kernel_rfl) (by kernel_rfl) (fun _ _ _ h => h) (Or.inl ⟨by rfl, ?_⟩) ?_
            (rotate_left 1; (focus (intro W; go_simp; try with_reducible rfl)))
            try simp only [Act.put, List.setIfInBounds_toArray, List.set_cons_zero, List.set_cons_succ, List.getElem_toArray, List.getElem_cons_succ, List.getElem_cons_zero]
            refine wpAnyZ_move (i := 15) (v := ?_) rfl (by kernel_rfl) (by kernel_rfl) (by kernel_rfl) (fun _ _ _ h => h) (Or.inl ⟨by rfl, ?_⟩) ?_
            (rotate_left 1; (focus (intro W; go_simp; try with_reducible rfl)))
            try simp only [Act.put, List.setIfInBounds_toArray, List.set_cons_zero, List.set_cons_succ, List.getElem_toArray, List.getElem_cons_succ, List.getElem_cons_zero]
            refine wpAnyZ_take (i := 16) (v := ?_) rfl (by kernel_rfl) (by kernel_rfl) (by kernel_rfl) (by kernel_rfl) (fun _ _ _ h => h) (Or.inl ⟨by rfl, ?_⟩) HSD.out ?_
            (rotate_left 1; (focus (intro W hS; obtain ⟨hS, y0, y1, y2, yl⟩ := hS; have p0 := hS.1.cell 0; have p1 := hS.1.cell 1; have p2 := hS.1.cell 2; have pl := hS.1.lt; have q0 := hS.2.cell 0; have q1 := hS.2.cell 1; have q2 := hS.2.cell 2; have ql := hS.2.lt; go_simp; try with_reducible rfl)))
            try simp only [Act.put, List.setIfInBounds_toArray, List.set_cons_zero, List.set_cons_succ, List.getElem_toArray, List.getElem_cons_succ, List.getElem_cons_zero]
            refine wpAnyZ_move (i := 17) (v := ?_) rfl (by kernel_rfl) (by kernel_rfl) (by kernel_rfl) (fun _ _ _ h => h) (Or.inl ⟨by rfl, ?_⟩) ?_
            (rotate_left 1; (focus (intro W; go_simp; try with_reducible rfl)))
            try simp only [Act.put, List.setIfInBounds_toArray, List.set_cons_zero, List.set_cons_succ, List.getElem_toArray, List.getElem_cons_succ, List.getElem_cons_zero]
            refine wpAnyZ_move (i := 18) (v := ?_) rfl (by kernel_rfl) (by kernel_rfl) (by kernel_rfl) (fun _ _ _ h => h) (Or.inl ⟨by rfl, ?_⟩) ?_
            (rotate_left 1; (focus (intro W; go_simp; try with_reducible rfl)))
            try simp only [Act.put, List.setIfInBounds_toArray, List.set_cons_zero, List.set_cons_succ, List.getElem_toArray, List.getElem_cons_succ, List.getElem_cons_zero]
            refine wpAnyZ_move (i := 19) (v := ?_) rfl (by kernel_rfl) (by kernel_rfl) (by kernel_rfl) (fun _ _ _ h => h) (Or.inl ⟨by rfl, ?_⟩) ?_
            (rotate_left 1; (focus (intro W; go_simp; try with_reducible rfl)))
            try simp only [Act.put, List.setIfInBounds_toArray, List.set_cons_zero, List.set_cons_succ, List.getElem_toArray, List.getElem_cons_succ, List.getElem_cons_zero]
            refine wpAnyZ_move (i := 20) (v := ?_) rfl (by kernel_rfl) (by kernel_rfl) (by kernel_rfl) (fun _ _ _ h => h) (Or.inl ⟨by rfl, ?_⟩) ?_
            (rotate_left 1; (focus (intro W; go_simp; try with_reducible rfl)))
            try simp only [Act.put, List.setIfInBounds_toArray, List.set_cons_zero, List.set_cons_succ, List.getElem_toArray, List.getElem_cons_succ, List.getElem_cons_zero]
            refine wpAnyZ_move (i := 21) (v := ?_) rfl (by kernel_rfl) (by kernel_rfl) (by kernel_rfl) (fun _ _ _ h => h) (Or.inl ⟨by rfl, ?_⟩) ?_
            (rotate_left 1; (focus (intro W; go_simp; try with_reducible rfl)))
            try simp only [Act.put, List.setIfInBounds_toArray, List.set_cons_zero, List.set_cons_succ, List.getElem_toArray, List.getElem_cons_succ, List.getElem_cons_zero]
            refine wpAnyZ_move (i := 22) (v := ?_) rfl (by kernel_rfl) (by kernel_rfl) (by kernel_rfl) (fun _ _ _ h => h) (Or.inl ⟨by rfl, ?_⟩) ?_
            (rotate_left 1; (focus (intro W; go_simp; try with_reducible rfl)))
            try simp only [Act.put, List.setIfInBounds_toArray, List.set_cons_zero, List.set_cons_succ, List.getElem_toArray, List.getElem_cons_succ, List.getElem_cons_zero]
            refine wpAnyZ_move (i := 23) (v := ?_) rfl (by kernel_rfl) (by kernel_rfl) (by kernel_rfl) (fun _ _ _ h => h) (Or.inl ⟨by rfl, ?_⟩) ?_
            (rotate_left 1; (focus (intro W; go_simp; try with_reducible rfl)))
            try simp only [Act.put, List.setIfInBounds_toArray, List.set_cons_zero, List.set_cons_succ, List.getElem_toArray, List.getElem_cons_succ, List.getElem_cons_zero]
            refine wpAnyZ_move (i := 24) (v := undef) rfl (by kernel_rfl) (by kernel_rfl) (by kernel_rfl) (fun _ _ _ h => h) (Or.inr ⟨by rfl, rfl⟩) ?_
            try simp only [Act.put, List.setIfInBounds_toArray, List.set_cons_zero, List.set_cons_succ, List.getElem_toArray, List.getElem_cons_succ, List.getElem_cons_zero]
            refine wpAnyZ_move (i := 25) (v := undef) rfl (by kernel_rfl) (by kernel_rfl) (by kernel_rfl) (fun _ _ _ h => h) (Or.inr ⟨by rfl, rfl⟩) ?_
            try simp only [Act.put, List.setIfInBounds_toArray, List.set_cons_zero, List.set_cons_succ, List.getElem_toArray, List.getElem_cons_succ, List.getElem_cons_zero]
            refine wpAnyZ_move (i := 26) (v := undef) rfl (by kernel_rfl) (by kernel_rfl) (by kernel_rfl) (fun _ _ _ h => h) (Or.inr ⟨by rfl, rfl⟩) ?_
            try simp only [Act.put, List.setIfInBounds_toArray, List.set_cons_zero, List.set_cons_succ, List.getElem_toArray, List.getElem_cons_succ, List.getElem_cons_zero]
            refine wpAnyZ_move (i := 27) (v := undef) rfl (by kernel_rfl) (by kernel_rfl) (by kernel_rfl) (fun _ _ _ h => h) (Or.inr ⟨by rfl, rfl⟩) ?_
            try simp only [Act.put, List.setIfInBounds_toArray, List.set_cons_zero, List.set_cons_succ, List.getElem_toArray, List.getElem_cons_succ, List.getElem_cons_zero]
            refine wpAnyZ_move (i := 28) (v := undef) rfl (by kernel_rfl) (by kernel_rfl) (by kernel_rfl) (fun _ _ _ h => h) (Or.inr ⟨by rfl, rfl⟩) ?_
            try simp only [Act.put, List.setIfInBounds_toArray, List.set_cons_zero, List.set_cons_succ, List.getElem_toArray, List.getElem_cons_succ, List.getElem_cons_zero]
            refine wpAnyZ_move (i := 29) (v := undef) rfl (by kernel_rfl) (by kernel_rfl) (by kernel_rfl) (fun _ _ _ h => h) (Or.inr ⟨by rfl, rfl⟩) ?_
            try simp only [Act.put, List.setIfInBounds_toArray, List.set_cons_zero, List.set_cons_succ, List.getElem_toArray, List.getElem_cons_succ, List.getElem_cons_zero]
            refine wpAnyZ_move (i := 30) (v := undef) rfl (by kernel_rfl) (by kernel_rfl) (by kernel_rfl) (fun _ _ _ h => h) (Or.inr ⟨by rfl, rfl⟩) ?_
            try simp only [Act.put, List.setIfInBounds_toArray, List.set_cons_zero, List.set_cons_succ, List.getElem_toArray, List.getElem_cons_succ, List.getElem_cons_zero]
            refine wpAnyZ_move (i := 31) (v := ?_) rfl (by kernel_rfl) (by kernel_rfl) (by kernel_rfl) (fun _ _ _ h => h) (Or.inl ⟨by rfl, ?_⟩) ?_
            (rotate_left 1; (focus (intro W; go_simp; try with_reducible rfl)))
            try simp only [Act.put, List.setIfInBounds_toArray, List.set_cons_zero, List.set_cons_succ, List.getElem_toArray, List.getElem_cons_succ, List.getElem_cons_zero]
            refine wpAnyZ_move (i := 32) (v := ?_) rfl (by kernel_rfl) (by kernel_rfl) (by kernel_rfl) (fun _ _ _ h => h) (Or.inl ⟨by rfl, ?_⟩) ?_
            (rotate_left 1; (focus (intro W; go_simp; try with_reducible rfl)))
            try simp only [Act.put, List.setIfInBounds_toArray, List.set_cons_zero, List.set_cons_succ, List.getElem_toArray, List.getElem_cons_succ, List.getElem_cons_zero]
            refine wpAnyZ_move (i := 33) (v := ?_) rfl (by kernel_rfl) (by kernel_rfl) (by kernel_rfl) (fun _ _ _ h => h) (Or.inl ⟨by rfl, ?_⟩) ?_
            (rotate_left 1; (focus (intro W; go_simp; try with_reducible rfl)))
            try simp only [Act.put, List.setIfInBounds_toArray, List.set_cons_zero, List.set_cons_succ, List.getElem_toArray, List.getElem_cons_succ, List.getElem_cons_zero]
            refine wpAnyZ_move (i := 34) (v := ?_) rfl (by kernel_rfl) (by kernel_rfl) (by kernel_rfl) (fun _ _ _ h => h) (Or.inl ⟨by rfl, ?_⟩) ?_
            (rotate_left 1; (focus (intro W; go_simp; try with_reducible rfl)))
            try simp only [Act.put, List.setIfInBounds_toArray, List.set_cons_zero, List.set_cons_succ, List.getElem_toArray, List.getElem_cons_succ, List.getElem_cons_zero]
            refine wpAnyZ_move (i := 35) (v := ?_) rfl (by kernel_rfl) (by kernel_rfl) (by kernel_rfl) (fun _ _ _ h => h) (Or.inl ⟨by rfl, ?_⟩) ?_
            (rotate_left 1; (focus (intro W; go_simp; try with_reducible rfl)))
            try simp only [Act.put, List.setIfInBounds_toArray, List.set_cons_zero, List.set_cons_succ, List.getElem_toArray, List.getElem_cons_succ, List.getElem_cons_zero]
            refine wpAnyZ_move (i := 36) (v := ?_) rfl (by kernel_rfl) (by kernel_rfl) (by kernel_rfl) (fun _ _ _ h => h) (Or.inl ⟨by rfl, ?_⟩) ?_
            (rotate_left 1; (focus (intro W; go_simp; try with_reducible rfl)))
            try simp only [Act.put, List.setIfInBounds_toArray, List.set_cons_zero, List.set_cons_succ, List.getElem_toArray, List.getElem_cons_succ, List.getElem_cons_zero]
            refine wpAnyZ_move (i := 37) (v := ?_) rfl (by kernel_rfl) (by kernel_rfl) (by kernel_rfl) (fun _ _ _ h => h) (Or.inl ⟨by rfl, ?_⟩) ?_
            (rotate_left 1; (focus (intro W; go_simp; try with_reducible rfl)))
            try simp only [Act.put, List.setIfInBounds_toArray, List.set_cons_zero, List.set_cons_succ, List.getElem_toArray, List.getElem_cons_succ, List.getElem_cons_zero]
            refine wpAnyZ_take (i := 38) (v := ?_) rfl (by kernel_rfl) (by kernel_rfl) (by kernel_rfl) (by kernel_rfl) (fun _ _ _ h => h) (Or.inl ⟨by rfl, ?_⟩) HSD.out ?_
            (rotate_left 1; (focus (intro W hS; obtain ⟨hS, y0, y1, y2, yl⟩ := hS; have p0 := hS.1.cell 0; have p1 := hS.1.cell 1; have p2 := hS.1.cell 2; have pl := hS.1.lt; have q0 := hS.2.cell 0; have q1 := hS.2.cell 1; have q2 := hS.2.cell 2; have ql := hS.2.lt; go_simp; try with_reducible rfl)))
            try simp only [Act.put, List.setIfInBounds_toArray, List.set_cons_zero, List.set_cons_succ, List.getElem_toArray, List.getElem_cons_succ, List.getElem_cons_zero]
            refine wpAnyZ_move (i := 39) (v := ?_) rfl (by kernel_rfl) (by kernel_rfl) (by kernel_rfl) (fun _ _ _ h => h) (Or.inl ⟨by rfl, ?_⟩) ?_
            (rotate_left 1; (focus (intro W; go_simp; try with_reducible rfl)))
            try simp only [Act.put, List.setIfInBounds_toArray, List.set_cons_zero, List.set_cons_succ, List.getElem_toArray, List.getElem_cons_succ, List.getElem_cons_zero]
            refine wpAnyZ_move (i := 40) (v := ?_) rfl (by kernel_rfl) (by kernel_rfl) (by kernel_rfl) (fun _ _ _ h => h) (Or.inl ⟨by rfl, ?_⟩) ?_
            (rotate_left 1; (focus (intro W; go_simp; try with_reducible rfl)))
            try simp only [Act.put, List.setIfInBounds_toArray, List.set_cons_zero, List.set_cons_succ, List.getElem_toArray, List.getElem_cons_succ, List.getElem_cons_zero]
            refine wpAnyZ_move (i := 41) (v := ?_) rfl (by kernel_rfl) (by kernel_rfl) (by kernel_rfl) (fun _ _ _ h => h) (Or.inl ⟨by rfl, ?_⟩) ?_
            (rotate_left 1; (focus (intro W; go_simp; try with_reducible rfl)))
            try simp only [Act.put, List.setIfInBounds_toArray, List.set_cons_zero, List.set_cons_succ, List.getElem_toArray, List.getElem_cons_succ, List.getElem_cons_zero]
            refine wpAnyZ_move (i := 42) (v := ?_) rfl (by kernel_rfl) (by kernel_rfl) (by kernel_rfl) (fun _ _ _ h => h) (Or.inl ⟨by rfl, ?_⟩) ?_
            (rotate_left 1; (focus (intro W; go_simp; try with_reducible rfl)))
            try simp only [Act.put, List.setIfInBounds_toArray, List.set_cons_zero, List.set_cons_succ, List.getElem_toArray, List.getElem_cons_succ, List.getElem_cons_zero]
            refine wpAnyZ_move (i := 43) (v := ?_) rfl (by kernel_rfl) (by kernel_rfl) (by kernel_rfl) (fun _ _ _ h => h) (Or.inl ⟨by rfl, ?_⟩) ?_
            (rotate_left 1; (focus (intro W; go_simp; try with_reducible rfl)))
            try simp only [Act.put, List.setIfInBounds_toArray, List.set_cons_zero, List.set_cons_succ, List.getElem_toArray, List.getElem_cons_succ, List.getElem_cons_zero]
            refine wpAnyZ_move (i := 44) (v := ?_) rfl (by kernel_rfl) (by kernel_rfl) (by kernel_rfl) (fun _ _ _ h => h) (Or.inl ⟨by rfl, ?_⟩) ?_
            (rotate_left 1; (focus (intro W; go_simp; try with_reducible rfl)))
            try simp only [Act.put, List.setIfInBounds_toArray, List.set_cons_zero, List.set_cons_succ, List.getElem_toArray, List.getElem_cons_succ, List.getElem_cons_zero]
            refine wpAnyZ_move (i := 45) (v := ?_) rfl (by kernel_rfl) (by kernel_rfl) (by kernel_rfl) (fun _ _ _ h => h) (Or.inl ⟨by rfl, ?_⟩) ?_
            (rotate_left 1; (focus (intro W; go_simp; try with_reducible rfl)))
            try simp only [Act.put, List.setIfInBounds_toArray, List.set_cons_zero, List.set_cons_succ, List.getElem_toArray, List.getElem_cons_succ, List.getElem_cons_zero]
            refine wpAnyZ_take (i := 46) (v := ?_) rfl (by kernel_rfl) (by kernel_rfl) (by kernel_rfl) (by kernel_rfl) (fun _ _ _ h => h) (Or.inl ⟨by rfl, ?_⟩) HSD.out ?_
            (rotate_left 1; (focus (intro W hS; obtain ⟨hS, y0, y1, y2, yl⟩ := hS; have p0 := hS.1.cell 0; have p1 := hS.1.cell 1; have p2 := hS.1.cell 2; have pl := hS.1.lt; have q0 := hS.2.cell 0; have q1 := hS.2.cell 1; have q2 := hS.2.cell 2; have ql := hS.2.lt; go_simp; try with_reducible rfl)))
            try simp only [Act.put, List.setIfInBounds_toArray, List.set_cons_zero, List.set_cons_succ, List.getElem_toArray, List.getElem_cons_succ, List.getElem_cons_zero]
            refine wpAnyZ_move (i := 47) (v := ?_) rfl (by kernel_rfl) (by kernel_rfl) (by kernel_rfl) (fun _ _ _ h => h) (Or.inl ⟨by rfl, ?_⟩) ?_
            (rotate_left 1; (focus (intro W; go_simp; try with_reducible rfl)))
            try simp only [Act.put, List.setIfInBounds_toArray, List.set_cons_zero, List.set_cons_succ, List.getElem_toArray, List.getElem_cons_succ, List.getElem_cons_zero]
            refine wpAnyZ_move (i := 48) (v := ?_) rfl (by kernel_rfl) (by kernel_rfl) (by kernel_rfl) (fun _ _ _ h => h) (Or.inl ⟨by rfl, ?_⟩) ?_
            (rotate_left 1; (focus (intro W; go_simp; try with_reducible rfl)))
            try simp only [Act.put, List.setIfInBounds_toArray, List.set_cons_zero, List.set_cons_succ, List.getElem_toArray, List.getElem_cons_succ, List.getElem_cons_zero]
            refine wpAnyZ_move (i := 49) (v := ?_) rfl (by kernel_rfl) (by kernel_rfl) (by kernel_rfl) (fun _ _ _ h => h) (Or.inl ⟨by rfl, ?_⟩) ?_
            (rotate_left 1; (focus (intro W; go_simp; try with_reducible rfl)))
            try simp only [Act.put, List.setIfInBounds_toArray, List.set_cons_zero, List.set_cons_succ, List.getElem_toArray, List.getElem_cons_succ, List.getElem_cons_zero]
            refine wpAnyZ_move (i := 50) (v := ?_) rfl (by kernel_rfl) (by kernel_rfl) (by kernel_rfl) (fun _ _ _ h => h) (Or.inl ⟨by rfl, ?_⟩) ?_
            (rotate_left 1; (focus (intro W; go_simp; try with_reducible rfl)))
            try simp only [Act.put, List.setIfInBounds_toArray, List.set_cons_zero, List.set_cons_succ, List.getElem_toArray, List.getElem_cons_succ, List.getElem_cons_zero]
            refine wpAnyZ_move (i := 52) (v := ?_) rfl (by kernel_rfl) (by kernel_rfl) (by kernel_rfl) (fun _ _ _ h => h) (Or.inl ⟨by rfl, ?_⟩) ?_
            (rotate_left 1; (focus (intro W; go_simp; try with_reducible rfl)))
            try simp only [Act.put, List.setIfInBounds_toArray, List.set_cons_zero, List.set_cons_succ, List.getElem_toArray, List.getElem_cons_succ, List.getElem_cons_zero]
            refine wpAnyZ_one (i := 51) (by kernel_rfl) rfl (fun K hK => ?_)
            go_simp
            have K9d := Lib.hid (K9.out.below (Below.refl _ _).drew)
            go_wp2_with (go_at_call 23; (with_reducible refine Calls.mono (both_all K9d.out) ?_); rintro e wa ⟨⟨Aa, ca, rfl, hsa, ba⟩, ka⟩; have KA := Lib.hid ka; have HA := Lib.hid hsa; have BA := Lib.hid (Below.next B9.out.drew ba); have SRA := Lib.hid (HSD.out.below ba); clear hsa ba ka)
            refine hK.out _ _ (fun _ _ => SRA.out) ?_
            clear hK K
            refine wpAnyZ_one (i := 53) (by kernel_rfl) rfl (fun K hK => ?_)
            go_simp
            go_wp2_with (go_at_call 24; (with_reducible refine Calls.mono (both_rall KA.out AL.out) ?_); rintro e wb ⟨⟨Ab, cb, rfl, hsb, bb⟩, kb⟩; have KB := Lib.hid kb; have HBS := Lib.hid hsb; have HA := Lib.hid (HA.out.below bb (fun g hg => HA.out.lt hg)); have BB := Lib.hid (Below.next BA.out bb); have SB2 := Lib.hid bb.size; have SRB := Lib.hid (SRA.out.below bb); clear hsb bb kb)
            refine hK.out _ _ (fun _ _ => SRB.out) ?_
            clear hK K
            refine wpAnyZ_one (i := 54) (by kernel_rfl) rfl (fun K hK => ?_)
            go_simp
            go_wp2_with (go_at_call 22; (with_reducible refine Calls.mono (same_any _ _ _ _ _ _ _ HA.out HBS.out L64.out) ?_); rintro e wc ⟨rfl, bc⟩; have KC := Lib.hid (KB.out.below bc); have BC := Lib.hid (Below.next BB.out bc); have SCC := Lib.hid (Both.base_le KC.out); have SRC := Lib.hid (SRB.out.below bc); clear bc)
            refine hK.out _ _ (fun _ _ => SRC.out) ?_
            clear hK K
            refine wpAnyZ_move (i := 55) (v := ?_) rfl (by kernel_rfl) (by kernel_rfl) (by kernel_rfl) (fun _ _ _ h => h) (Or.inl ⟨by rfl, ?_⟩) ?_
            (rotate_left 1; (focus (intro W; go_simp; try with_reducible rfl)))
            try simp only [Act.put, List.setIfInBounds_toArray, List.set_cons_zero, List.set_cons_succ, List.getElem_toArray, List.getElem_cons_succ, List.getElem_cons_zero]
            refine wpAnyZ_move (i := 56) (v := ?_) rfl (by kernel_rfl) (by kernel_rfl) (by kernel_rfl) (fun _ _ _ h => h) (Or.inl ⟨by rfl, ?_⟩) ?_
            (rotate_left 1; (focus (intro W; go_simp; try with_reducible rfl)))
            try simp only [Act.put, List.setIfInBounds_toArray, List.set_cons_zero, List.set_cons_succ, List.getElem_toArray, List.getElem_cons_succ, List.getElem_cons_zero]
            refine wpAnyZ_done (by kernel_rfl) ?_ _
            go_wp2_with fail
            go_roundw
            case rel => exact ⟨i + 1, _, _, hh, dd, by go_num, by omega, PT.out, TT.out, KC.out, SCC.out, BC.out⟩
            case measure => simp [intOf]; omega
      · have h1 : ¬ (i : Int) < 150 := by omega
        go_wp2_with fail
        go_ret
        exact ⟨rfl, BI.out⟩
    · obtain rfl : i = n := by omega
      have hin2 : ¬ (i : Int) < i := by omega
      go_wp2_with fail
      go_ret
      exact ⟨rfl, BI.out⟩
theorem walk (w : World) (A0 : Option Addr) (n0 cap0 : Nat) (D0 : Nat → List Value) (w0 : Elems w [some .i64, some .i64, some .u64, some .i64] A0 n0 D0) (l0 : n0 * 32 ≤ 140737488351232) :
    Calls Try.prog 6 #[.slice A0 n0 cap0] w fun e w' => e = .returned (.bool true) ∧ Below w.heap.size w w' := by
  obtain ⟨KU, U, hU⟩ := dos_of w0
  exact walk2 w A0 n0 cap0 KU U (Lib.hid hU) (by omega)
end orderPlays
namespace orderPlays
theorem own : ownKnob Try.prog.godebug = none := by kernel_rfl
set_option maxRecDepth 100000 in
theorem lifted (os : Os) (started : os.Started) (H : Type) (enc : TypeId × Value → H) :
    ReturnsInHanded {} Try.checked os 6 .any (Rows.orderPlaysSpec.pre6 enc Try.prog Try.f6 Rows.orderPlaysRow.domain false) (Rows.orderPlaysSpec.post enc Try.prog Try.f6 false true false false) := by
  refine returnsInHanded_of_change_sized (C := Try.checked) own started (by kernel_rfl) Try.func6
    (ChangeSpec.witness6 (enc := enc) (C := Try.checked) false ⟨#[], #[.slice none 0 0], []⟩ 8 (by kernel_rfl) (by kernel_rfl) (by kernel_rfl) (by kernel_rfl)) ?_
  intro W base args ds gs before hval0 hW hcnd hsz0 _
  have hsz : (DataW.weightsEach Try.prog (Try.f6.params.toList ++ Rows.orderPlaysSpec.plain.varTypes Try.prog) (ds ++ gs)).all (· ≤ reachBytes) = true := hsz0
  have hval : ∀ (j : Nat) t v, Try.f6.params[j]? = some t → args[j]? = some v → Value.okWide Try.prog W .any base t v := hval0
  have hW' := hW
  obtain ⟨p, q, hA0, hV, rfl, hfz, hnd⟩ := hW
  have hA : DataW.TrodAll enc Try.prog W 0 (fun _ => true) true Try.f6.params.toList args.toList ds p := hA0
  rw [Try.params6] at hA hval hsz
  obtain ⟨v0, vs0, d0, ds0, p0, q0, hargs, rfl, rfl, h0, r0⟩ := trodAll_cons hA
  obtain ⟨rfl, rfl, rfl⟩ := trodAll_nil r0
  obtain rfl : args = #[v0] := by cases args; simp_all
  obtain ⟨rfl, rfl⟩ := trodVars_none hV
  obtain ⟨A0, n0, cap0, D0, rfl, w0, m0, z0⟩ := arg_slice [some .i64, some .i64, some .u64, some .i64] Try.underlying42 6 (by kernel_rfl) (by kernel_rfl) (hval 0 42 v0 rfl rfl) h0
  have l0 : n0 * Try.prog.bytesOf 47 ≤ reachBytes := by
    rcases z0 with ⟨_, e⟩ | ⟨es, sp, e, el⟩
    · subst e; simp
    · subst e; subst el; exact Nat.le_trans (Nat.mul_le_mul_right _ (Nat.le_add_right _ _)) (sized_slice hsz (j := 0) (t := 42) (e := 47) rfl rfl Try.underlying42)
  have b0 : Try.prog.bytesOf 47 = 32 := by kernel_rfl
  rw [b0] at l0
  simp only [reachBytes] at l0
  clear z0 b0
  clear hA0 hval0 hsz0 hsz
  refine (walk W A0 n0 cap0 D0 w0 l0).mono fun e W' ⟨he, bel⟩ => ?_
  subst he
  exact ⟨_, rfl, _, _, _, [], _, [], hW', trodAll_mk1 (shut_bool Try.underlying4 _), (trodAll_cons_mk (Below.trod laidOut (by kernel_rfl) (of_decide_eq_true (by kernel_rfl)) h0 bel (fun x hx => by simpa using hW'.lt x (by simp [hx]))) trodAll_mk0), rfl, bel.frame _, fun h => by cases h⟩
theorem over : Rows.orderPlaysRow.holds Try.pinned (OpenSpec.ofChange Rows.orderPlaysSpec) :=
  OpenClaim.holds_of_wide 6 Try.f6 rfl rfl rfl rfl rfl rfl rfl ⟨rfl, rfl, rfl, rfl, rfl⟩ rfl rfl rfl rfl rfl (by kernel_rfl) Try.func6 (by kernel_rfl)
    (of_decide_eq_true (by kernel_rfl)) (by unfold Func.isWrapper; first | (rw [if_pos (by decide +kernel)]; kernel_rfl) | (rw [if_neg (by decide +kernel)]; exact ⟨rfl, rfl⟩))
    (fun os started H enc _ => lifted os started H enc)
end orderPlays
theorem orderPlays_holds : Rows.OrderPlaysSaid := orderPlays.over
#print axioms orderPlays_holds
end Go.Proofs.Ytinpaplpgoljpaa
