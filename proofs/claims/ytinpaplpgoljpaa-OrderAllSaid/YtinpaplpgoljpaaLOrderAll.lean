/- OrderAll: all are told by their times, then tracks, then numbers, each once; the first of them is of the least time, and so is the next one. No condition. -/
import Derived.Test.YtinpaplpgoljpaaOrderBoth
import Derived.Test.YtinpaplpgoljpaaArg
import Derived.Test.YtinpaplpgoljpaaRows
import Derived.ProofKit
import Derived.OpenShut
import Derived.ShutString
import Derived.ChangeOld
import Derived.Below
import Derived.SizedLaws
namespace Go.Proofs.Ytinpaplpgoljpaa
open Go.ChangeShapes Go.WideShapes Go.ChangeAt Go.RowKit
open Go.ChangeMaps (open_string shut_string)
set_option linter.unusedVariables false
set_option linter.unusedSimpArgs false
namespace orderAll
def Rel1 (w : World) (n p rq base : Nat) (iv : Value) (wr : World) : Prop :=
  ∃ (i : Nat) (l lr : List Wt), iv = .int .i64 i ∧ i ≤ n ∧ l.Perm lr ∧ (∀ y ∈ l, 0 ≤ y.track) ∧ Both wr p rq base NF l lr 0 0 false false ∧ base ≤ wr.heap.size ∧ Below w.heap.size w wr
def Rel2 (w : World) (l lr : List Wt) (A : Option Addr) (c p rq base : Nat) (iv : Value) (wr : World) : Prop :=
  ∃ i j : Nat, iv = .int .i64 i ∧ i = j + 1 ∧ Both wr p rq base NF l lr 0 0 false false ∧ Slc wr 30 3 (.slice A l.length c) l.length (flatW l) ∧ base ≤ wr.heap.size ∧ Below w.heap.size w wr
def S3 (b o : Nat) (a1 a2 a3 : Int) (W : World) : Prop := W.cell? ⟨b, o, none⟩ = some (.int .i64 a1) ∧ W.cell? ⟨b, o + 1, none⟩ = some (.int .u64 a2) ∧ W.cell? ⟨b, o + 2, none⟩ = some (.int .i64 a3)
theorem S3.below {b o : Nat} {a1 a2 a3 : Int} {w w' : World} (s : S3 b o a1 a2 a3 w) (h : Below w.heap.size w w') (hb : b < w.heap.size) : S3 b o a1 a2 a3 w' :=
  ⟨(h.cell (p := ⟨b, o, none⟩) hb).trans s.1, (h.cell (p := ⟨b, o + 1, none⟩) hb).trans s.2.1, (h.cell (p := ⟨b, o + 2, none⟩) hb).trans s.2.2⟩
set_option maxRecDepth 100000 in
set_option maxHeartbeats 4000000 in
theorem walk2 (w : World) (A : Option Addr) (n c : Nat) (U : Nat → Wt) (hs : Hid (WantsAt w A n U)) (hn : n ≤ 140737488351232) :
    Calls Try.prog 8 #[.slice A n c] w fun e w' => e = .returned (.bool true) ∧ Below w.heap.size w w' := by
  have CN := fun W => Lib.hid (newq_k W)
  by_cases h64 : 64 < n
  · have d1 : decide ((64 : Int) < n) = true := decide_eq_true (by omega)
    go_enter Try.func8, Try.ntmps8
    go_wp2_with (first
      | (go_at_call 9; (with_reducible refine Calls.mono (awake_any _) ?_); rintro e w0 ⟨rfl, bel0⟩; have HB := Lib.hid bel0; clear bel0))
    go_ret
    exact ⟨rfl, HB.out⟩
  · have d1 : decide ((64 : Int) < n) = false := decide_eq_false (by omega)
    go_enter Try.func8, Try.ntmps8
    go_wp2_with (first
      | (go_at_call 9; (with_reducible refine Calls.mono (awake_any _) ?_); rintro e w0 ⟨rfl, bel0⟩; have HB := Lib.hid bel0; have D0 := Lib.hid (rfl : w0 = w0); clear bel0)
      | (go_at_call 10; (with_reducible refine Calls.mono (CN _).out ?_); rintro e w1 ⟨p, rfl, k1, b1⟩; have K1 := Lib.hid (show KeptQ w1 p w0.heap.size NF [] 0 false from k1); have S1 := Lib.hid b1.size; have B1 := Lib.hid (Below.next HB.out b1); have S2 := Lib.hid (Nat.le_trans b1.size (by simp : w1.heap.size ≤ (w1.alloc (.cells #[.slice none 0 0, .int .i64 0, .bool false] 45)).heap.size)); have K2 := Lib.hid (both_new K1.out S1.out); have B2 := Lib.hid (B1.out.alloc B1.out.size (.cells #[.slice none 0 0, .int .i64 0, .bool false] 45)); clear k1 b1 CN))
    go_loopw [5] (fun iv wr => Hid (Rel1 w n p w1.heap.size w0.heap.size iv wr)) (fun iv _ => (n - intOf iv).toNat)
    case atStart => exact ⟨0, [], [], rfl, by omega, .refl _, by simp, K2.out, S2.out, B2.out⟩
    case round =>
      obtain ⟨i, l, lr, rfl, hi, hp, ht, ki, si, bi⟩ := hrel
      have KI := Lib.hid ki
      have SI := Lib.hid si
      have BI := Lib.hid bi
      have HT := Lib.hid ht
      have HP := Lib.hid hp
      have f := ki.fine
      clear ki si bi K1 K2 S1 S2 B1 B2 ht hp
      by_cases hin : i < n
      · have hin2 : (i : Int) < n := by omega
        obtain ⟨b, off, rfl, hlt, c0, c1, c2⟩ := hs.out.at_ hin
        have g1 : IntKind.i64.wrap ((i : Int) + 1) = i + 1 := IntWalk.i64_in _ (by omega)
        obtain ⟨x, hux⟩ : ∃ x, U i = x := ⟨_, rfl⟩
        rw [hux] at c0 c1 c2
        obtain ⟨q1, q2⟩ := add_alike HP.out x
        have T2 := Lib.hid (add_track (x := x) HT.out)
        obtain ⟨⟨e1, l1⟩, hr1⟩ : ∃ r, addF l x = r := ⟨_, rfl⟩
        obtain ⟨⟨e2, l2⟩, hr2⟩ : ∃ r, addR lr x = r := ⟨_, rfl⟩
        rw [hr1] at T2 q1 q2
        rw [hr2] at q1 q2
        simp only at q1 q2
        obtain rfl := q1
        have P2 := Lib.hid q2
        obtain ⟨a1, a2, a3⟩ := x
        have R1 := Lib.hid hr1
        have R2 := Lib.hid hr2
        have SW := Lib.hid (show S3 b (off + i * 3) a1 a2 a3 w from ⟨c0, c1, c2⟩)
        have HSD : Hid (S3 b (off + i * 3) a1 a2 a3 wr.drew) := SW.out.below BI.out.drew hlt
        have hli := Nat.lt_of_lt_of_le hlt BI.out.size
        clear hr1 hr2 hux c0 c1 c2 q2 f
        go_wp2_with fail
        refine wp_region_zone (S3 b (off + i * 3) a1 a2 a3) (fun j => true) (by kernel_rfl) ?_
        refine wpAnyZ_move (i := 0) (v := ?_) rfl (by kernel_rfl) (by kernel_rfl) (by kernel_rfl) (fun _ _ _ h => h) (Or.inl ⟨by rfl, ?_⟩) ?_
        (rotate_left 1; (focus (intro W; go_simp; try with_reducible rfl)))
        try simp only [Act.put, List.setIfInBounds_toArray, List.set_cons_zero, List.set_cons_succ, List.getElem_toArray, List.getElem_cons_succ, List.getElem_cons_zero]
        refine wpAnyZ_move (i := 1) (v := ?_) rfl (by kernel_rfl) (by kernel_rfl) (by kernel_rfl) (fun _ _ _ h => h) (Or.inl ⟨by rfl, ?_⟩) ?_
        (rotate_left 1; (focus (intro W; go_simp; try with_reducible rfl)))
        try simp only [Act.put, List.setIfInBounds_toArray, List.set_cons_zero, List.set_cons_succ, List.getElem_toArray, List.getElem_cons_succ, List.getElem_cons_zero]
        refine wpAnyZ_move (i := 2) (v := ?_) rfl (by kernel_rfl) (by kernel_rfl) (by kernel_rfl) (fun _ _ _ h => h) (Or.inl ⟨by rfl, ?_⟩) ?_
        (rotate_left 1; (focus (intro W; go_simp; try with_reducible rfl)))
        try simp only [Act.put, List.setIfInBounds_toArray, List.set_cons_zero, List.set_cons_succ, List.getElem_toArray, List.getElem_cons_succ, List.getElem_cons_zero]
        refine wpAnyZ_move (i := 3) (v := ?_) rfl (by kernel_rfl) (by kernel_rfl) (by kernel_rfl) (fun _ _ _ h => h) (Or.inl ⟨by rfl, ?_⟩) ?_
        (rotate_left 1; (focus (intro W; go_simp; try with_reducible rfl)))
        try simp only [Act.put, List.setIfInBounds_toArray, List.set_cons_zero, List.set_cons_succ, List.getElem_toArray, List.getElem_cons_succ, List.getElem_cons_zero]
        refine wpAnyZ_take (i := 4) (v := ?_) rfl (by kernel_rfl) (by kernel_rfl) (by kernel_rfl) (by kernel_rfl) (fun _ _ _ h => h) (Or.inl ⟨by rfl, ?_⟩) HSD.out ?_
        (rotate_left 1; (focus (intro W hS; obtain ⟨y0, y1, y2⟩ := hS; go_simp; try with_reducible rfl)))
        try simp only [Act.put, List.setIfInBounds_toArray, List.set_cons_zero, List.set_cons_succ, List.getElem_toArray, List.getElem_cons_succ, List.getElem_cons_zero]
        refine wpAnyZ_move (i := 6) (v := ?_) rfl (by kernel_rfl) (by kernel_rfl) (by kernel_rfl) (fun _ _ _ h => h) (Or.inl ⟨by rfl, ?_⟩) ?_
        (rotate_left 1; (focus (intro W; go_simp; try with_reducible rfl)))
        try simp only [Act.put, List.setIfInBounds_toArray, List.set_cons_zero, List.set_cons_succ, List.getElem_toArray, List.getElem_cons_succ, List.getElem_cons_zero]
        refine wpAnyZ_move (i := 7) (v := ?_) rfl (by kernel_rfl) (by kernel_rfl) (by kernel_rfl) (fun _ _ _ h => h) (Or.inl ⟨by rfl, ?_⟩) ?_
        (rotate_left 1; (focus (intro W; go_simp; try with_reducible rfl)))
        try simp only [Act.put, List.setIfInBounds_toArray, List.set_cons_zero, List.set_cons_succ, List.getElem_toArray, List.getElem_cons_succ, List.getElem_cons_zero]
        refine wpAnyZ_move (i := 8) (v := ?_) rfl (by kernel_rfl) (by kernel_rfl) (by kernel_rfl) (fun _ _ _ h => h) (Or.inl ⟨by rfl, ?_⟩) ?_
        (rotate_left 1; (focus (intro W; go_simp; try with_reducible rfl)))
        try simp only [Act.put, List.setIfInBounds_toArray, List.set_cons_zero, List.set_cons_succ, List.getElem_toArray, List.getElem_cons_succ, List.getElem_cons_zero]
        refine wpAnyZ_move (i := 9) (v := ?_) rfl (by kernel_rfl) (by kernel_rfl) (by kernel_rfl) (fun _ _ _ h => h) (Or.inl ⟨by rfl, ?_⟩) ?_
        (rotate_left 1; (focus (intro W; go_simp; try with_reducible rfl)))
        try simp only [Act.put, List.setIfInBounds_toArray, List.set_cons_zero, List.set_cons_succ, List.getElem_toArray, List.getElem_cons_succ, List.getElem_cons_zero]
        refine wpAnyZ_take (i := 10) (v := ?_) rfl (by kernel_rfl) (by kernel_rfl) (by kernel_rfl) (by kernel_rfl) (fun _ _ _ h => h) (Or.inl ⟨by rfl, ?_⟩) HSD.out ?_
        (rotate_left 1; (focus (intro W hS; obtain ⟨y0, y1, y2⟩ := hS; go_simp; try with_reducible rfl)))
        try simp only [Act.put, List.setIfInBounds_toArray, List.set_cons_zero, List.set_cons_succ, List.getElem_toArray, List.getElem_cons_succ, List.getElem_cons_zero]
        refine wpAnyZ_one (i := 5) (by kernel_rfl) rfl (fun K hK => ?_)
        go_simp
        have KID := Lib.hid (KI.out.below (Below.refl _ _).drew)
        have SID := Lib.hid (show w0.heap.size ≤ wr.drew.heap.size from SI.out)
        go_wp2_with (go_at_call 11; (with_reducible refine Calls.mono (both_add KID.out nf SID.out R1.out) ?_); rintro e w4 ⟨rfl, k4, o4⟩; have K4 := Lib.hid k4; have S4 := Lib.hid (Nat.le_trans SI.out o4.size); have B4 := Lib.hid (Below.onlyF BI.out.drew o4 (fun i h => Nat.le_trans HB.out.size h.1)); clear k4 o4)
        refine hK.out _ _ (fun _ _ => ?_) ?_
        (focus (exact SW.out.below B4.out hlt))
        clear hK K
        refine wpAnyZ_one (i := 11) (by kernel_rfl) rfl (fun K hK => ?_)
        go_simp
        go_wp2_with (go_at_call 17; (with_reducible refine Calls.mono (both_radd K4.out nf S4.out R2.out) ?_); rintro e w5 ⟨rfl, k5, o5⟩; have K5 := Lib.hid k5; have S5 := Lib.hid (Nat.le_trans S4.out o5.size); have B5 := Lib.hid (Below.onlyF B4.out o5 (fun i h => Nat.le_trans HB.out.size h.1)); clear k5 o5)
        refine hK.out _ _ (fun _ _ => ?_) ?_
        (focus (exact SW.out.below B5.out hlt))
        clear hK K
        refine wpAnyZ_move (i := 12) (v := ?_) rfl (by kernel_rfl) (by kernel_rfl) (by kernel_rfl) (fun _ _ _ h => h) (Or.inl ⟨by rfl, ?_⟩) ?_
        (rotate_left 1; (focus (intro W; go_simp; try with_reducible rfl)))
        try simp only [Act.put, List.setIfInBounds_toArray, List.set_cons_zero, List.set_cons_succ, List.getElem_toArray, List.getElem_cons_succ, List.getElem_cons_zero]
        refine wpAnyZ_done (by kernel_rfl) ?_ _
        go_wp2_with fail
        go_roundw
        case rel => exact ⟨i + 1, l1, l2, by go_num, by omega, P2.out, T2.out, K5.out, S5.out, B5.out⟩
        case measure => simp [intOf]; omega
      · obtain rfl : i = n := by omega
        have hin2 : ¬ (i : Int) < i := by omega
        have HL := Lib.hid HP.out.length_eq
        have hl64 : l.length ≤ 64 := by have := KI.out.len; rw [HP.out.length_eq]; exact this
        have F := Lib.hid f
        clear f
        go_wp2_with (first
          | (go_at_call 23; (with_reducible refine Calls.mono (both_all KI.out) ?_); rintro e w4 ⟨⟨A4, c4, rfl, hs4, b4⟩, k4⟩; have K4 := Lib.hid k4; have S4 := Lib.hid (Nat.le_trans SI.out b4.size); have B4 := Lib.hid (Below.next BI.out b4); have HS4 := Lib.hid hs4; clear k4 b4 hs4))
        go_loopw [7] (fun iv wr => Hid (Rel2 w l lr A4 c4 p w1.heap.size w0.heap.size iv wr)) (fun iv _ => (l.length - intOf iv).toNat)
        case atStart => exact ⟨1, 0, rfl, rfl, K4.out, HS4.out, S4.out, B4.out⟩
        case round =>
        obtain ⟨i, j, rfl, hij, ki, hsl, si, bi⟩ := hrel
        have KI := Lib.hid ki
        have SI := Lib.hid si
        have BI := Lib.hid bi
        have HS := Lib.hid hsl
        clear ki si bi hsl K4 S4 B4 HS4
        by_cases hin : i < l.length
        · have hin3 : (i : Int) < (l.length : Int) := by omega
          obtain ⟨x, hx⟩ : ∃ x, l[j]? = some x := ⟨_, List.getElem?_eq_getElem (by omega)⟩
          obtain ⟨y, hy⟩ : ∃ y, l[i]? = some y := ⟨_, List.getElem?_eq_getElem (by omega)⟩
          obtain ⟨g, off, c', ev, -, hlt, u0, u1, u2⟩ := HS.out.wat hx
          obtain ⟨g', off', c'', ev', -, -, v0, v1, v2⟩ := HS.out.wat hy
          simp only [Value.slice.injEq] at ev ev'
          obtain ⟨rfl, -, -⟩ := ev
          obtain ⟨ev', -, -⟩ := ev'
          simp only [Option.some.injEq, Addr.mk.injEq] at ev'
          obtain ⟨rfl, rfl, -⟩ := ev'
          have g1 : IntKind.i64.wrap ((i : Int) + 1) = i + 1 := IntWalk.i64_in _ (by omega)
          have g2 : IntKind.i64.wrap ((i : Int) - 1) = j := by rw [IntWalk.i64_in _ (by omega)]; omega
          have hjl : (j : Int) < (l.length : Int) := by omega
          have hlt2 : ltW x y := by
            have := F.out
            unfold Fine at this
            rw [List.pairwise_iff_getElem] at this
            obtain ⟨h1, e1⟩ := List.getElem?_eq_some_iff.1 hx
            obtain ⟨h2, e2⟩ := List.getElem?_eq_some_iff.1 hy
            have := (this j i h1 h2 (by omega)).1
            rwa [e1, e2] at this
          unfold ltW at hlt2
          obtain ⟨x1, x2, x3⟩ := x
          obtain ⟨y1, y2, y3⟩ := y
          simp only at hlt2 u0 u1 u2 v0 v1 v2
          have BN := Lib.hid (fun (a b : Obj) => (BI.out.alloc BI.out.size a).alloc (BI.out.alloc BI.out.size a).size b)
          have KN := Lib.hid (fun (a b : Obj) => KI.out.below (((Below.refl _ _).alloc (Nat.le_refl _) a).alloc (by simp) b))
          have HN := Lib.hid (fun (a b : Obj) => (HS.out.alloc a).alloc b)
          have SN := Lib.hid (fun (a b : Obj) => (by have := SI.out; simp; omega : w0.heap.size ≤ ((wr.alloc a).alloc b).heap.size))
          clear hx hy hij
          have st : x2 < y2 ∨ (x2 = y2 ∧ x3 < y3) ∨ (x2 = y2 ∧ x3 = y3 ∧ x1 < y1) := by omega
          clear hlt2
          rcases st with h1 | ⟨rfl, h1⟩ | ⟨rfl, rfl, h1⟩
          · have f1 : decide (y2 < x2) = false := decide_eq_false (by omega)
            have f2 : (x2 == y2) = false := beq_eq_false_iff_ne.2 (by omega)
            go_wp2_with fail
            go_roundw
            case rel => exact ⟨i + 1, i, by go_num, rfl, KN.out _ _, HN.out _ _, SN.out _ _, BN.out _ _⟩
            case measure => simp [intOf]; omega
          · have f1 : decide (x2 < x2) = false := decide_eq_false (by omega)
            have f2 : (x2 == x2) = true := beq_iff_eq.2 rfl
            have f3 : decide (y3 < x3) = false := decide_eq_false (by omega)
            have f4 : (x3 == y3) = false := beq_eq_false_iff_ne.2 (by omega)
            go_wp2_with fail
            go_roundw
            case rel => exact ⟨i + 1, i, by go_num, rfl, KN.out _ _, HN.out _ _, SN.out _ _, BN.out _ _⟩
            case measure => simp [intOf]; omega
          · have f1 : decide (x2 < x2) = false := decide_eq_false (by omega)
            have f2 : (x2 == x2) = true := beq_iff_eq.2 rfl
            have f3 : decide (x3 < x3) = false := decide_eq_false (by omega)
            have f4 : (x3 == x3) = true := beq_iff_eq.2 rfl
            have f5 : decide (y1 ≤ x1) = false := decide_eq_false (by omega)
            go_wp2_with fail
            go_roundw
            case rel => exact ⟨i + 1, i, by go_num, rfl, KN.out _ _, HN.out _ _, SN.out _ _, BN.out _ _⟩
            case measure => simp [intOf]; omega
        · have hin3 : ¬ (i : Int) < (l.length : Int) := by omega
          clear hij
          by_cases hl : l = []
          · have N0 := Lib.hid (show nextF l 0 false = (⟨0, 0, 0⟩, false, 5) by rw [hl]; rfl)
            have e0 : ((l.length : Int) == 0) = true := by rw [hl]; rfl
            clear hl
            go_wp2_with (first
              | (go_at_call 15; (with_reducible refine Calls.mono (both_next KI.out N0.out) ?_); rintro e w7 ⟨rfl, k7, b7⟩; have B7 := Lib.hid (Below.next BI.out b7); clear k7 b7))
            go_ret
            exact ⟨rfl, B7.out.alloc B7.out.size _⟩
          · obtain ⟨x, dn, nx⟩ := next_spec F.out hl HT.out 0 false
            have l0 : 0 < l.length := List.length_pos_iff.2 hl
            obtain ⟨y, hy⟩ : ∃ y, l[0]? = some y := ⟨_, List.getElem?_eq_getElem l0⟩
            obtain ⟨g, off, c', ev, -, hlt, u0, u1, u2⟩ := HS.out.wat hy
            simp only [Value.slice.injEq] at ev
            obtain ⟨rfl, -, -⟩ := ev
            have e1 : x.dead = y.dead := by
              have h1 := nx.least y (List.mem_of_getElem? hy)
              have h2 := dead0_le F.out nx.mem
              have h3 : dead0 l = y.dead := by
                cases l with
                | nil => simp at hl
                | cons z r => simp at hy; subst hy; rfl
              omega
            have e0 : ((l.length : Int) == 0) = false := beq_eq_false_iff_ne.2 (by omega)
            have NX := Lib.hid nx.eq
            obtain ⟨x1, x2, x3⟩ := x
            obtain ⟨y1, y2, y3⟩ := y
            simp only at e1 u1
            subst e1
            have U1 := Lib.hid (fun W (o : Below wr.heap.size wr W) => (o.cell (p := ⟨g, off + 1, none⟩) hlt).trans (by simpa using u1))
            clear hl hy u0 u1 u2 nx
            go_wp2_with (first
              | (go_at_call 15; (with_reducible refine Calls.mono (both_next KI.out NX.out) ?_); rintro e w7 ⟨rfl, k7, b7⟩; obtain ⟨Ar, cr, r0, -, -, rl, -⟩ := k7.rcells; rw [← HL.out] at r0; have B7 := Lib.hid (Below.next BI.out b7); have u1 := U1.out _ b7; have ul := Nat.lt_of_lt_of_le hlt b7.size; clear k7 b7))
            have l0' : (0 : Int) < (l.length : Int) := by omega
            go_quiet (fail)
            go_wp2_with fail
            go_ret
            exact ⟨rfl, Below.drewN' (B7.out.alloc B7.out.size _) _⟩
theorem walk (w : World) (A0 : Option Addr) (n0 cap0 : Nat) (D0 : Nat → List Value) (w0 : Elems w [some .i64, some .u64, some .i64] A0 n0 D0) (l0 : n0 * 24 ≤ 140737488351232) :
    Calls Try.prog 8 #[.slice A0 n0 cap0] w fun e w' => e = .returned (.bool true) ∧ Below w.heap.size w w' := by
  obtain ⟨U, hU, hw⟩ := wants_of w0
  exact walk2 w A0 n0 cap0 U (Lib.hid hU) (by omega)
end orderAll
namespace orderAll
theorem own : ownKnob Try.prog.godebug = none := by kernel_rfl
set_option maxRecDepth 100000 in
theorem lifted (os : Os) (started : os.Started) (H : Type) (enc : TypeId × Value → H) :
    ReturnsInHanded {} Try.checked os 8 .any (Rows.orderAllSpec.pre6 enc Try.prog Try.f8 Rows.orderAllRow.domain false) (Rows.orderAllSpec.post enc Try.prog Try.f8 false true false false) := by
  refine returnsInHanded_of_change_sized (C := Try.checked) own started (by kernel_rfl) Try.func8
    (ChangeSpec.witness6 (enc := enc) (C := Try.checked) false ⟨#[], #[.slice none 0 0], []⟩ 8 (by kernel_rfl) (by kernel_rfl) (by kernel_rfl) (by kernel_rfl)) ?_
  intro W base args ds gs before hval0 hW hcnd hsz0 _
  have hsz : (DataW.weightsEach Try.prog (Try.f8.params.toList ++ Rows.orderAllSpec.plain.varTypes Try.prog) (ds ++ gs)).all (· ≤ reachBytes) = true := hsz0
  have hval : ∀ (j : Nat) t v, Try.f8.params[j]? = some t → args[j]? = some v → Value.okWide Try.prog W .any base t v := hval0
  have hW' := hW
  obtain ⟨p, q, hA0, hV, rfl, hfz, hnd⟩ := hW
  have hA : DataW.TrodAll enc Try.prog W 0 (fun _ => true) true Try.f8.params.toList args.toList ds p := hA0
  rw [Try.params8] at hA hval hsz
  obtain ⟨v0, vs0, d0, ds0, p0, q0, hargs, rfl, rfl, h0, r0⟩ := trodAll_cons hA
  obtain ⟨rfl, rfl, rfl⟩ := trodAll_nil r0
  obtain rfl : args = #[v0] := by cases args; simp_all
  obtain ⟨rfl, rfl⟩ := trodVars_none hV
  obtain ⟨A0, n0, cap0, D0, rfl, w0, m0, z0⟩ := arg_slice [some .i64, some .u64, some .i64] Try.underlying22 6 (by kernel_rfl) (by kernel_rfl) (hval 0 22 v0 rfl rfl) h0
  have l0 : n0 * Try.prog.bytesOf 30 ≤ reachBytes := by
    rcases z0 with ⟨_, e⟩ | ⟨es, sp, e, el⟩
    · subst e; simp
    · subst e; subst el; exact Nat.le_trans (Nat.mul_le_mul_right _ (Nat.le_add_right _ _)) (sized_slice hsz (j := 0) (t := 22) (e := 30) rfl rfl Try.underlying22)
  have b0 : Try.prog.bytesOf 30 = 24 := by kernel_rfl
  rw [b0] at l0
  simp only [reachBytes] at l0
  clear z0 b0
  clear hA0 hval0 hsz0 hsz
  refine (walk W A0 n0 cap0 D0 w0 l0).mono fun e W' ⟨he, bel⟩ => ?_
  subst he
  exact ⟨_, rfl, _, _, _, [], _, [], hW', trodAll_mk1 (shut_bool Try.underlying4 _), (trodAll_cons_mk (Below.trod laidOut (by kernel_rfl) (of_decide_eq_true (by kernel_rfl)) h0 bel (fun x hx => by simpa using hW'.lt x (by simp [hx]))) trodAll_mk0), rfl, bel.frame _, fun h => by cases h⟩
theorem over : Rows.orderAllRow.holds Try.pinned (OpenSpec.ofChange Rows.orderAllSpec) :=
  OpenClaim.holds_of_wide 8 Try.f8 rfl rfl rfl rfl rfl rfl rfl ⟨rfl, rfl, rfl, rfl, rfl⟩ rfl rfl rfl rfl rfl (by kernel_rfl) Try.func8 (by kernel_rfl)
    (of_decide_eq_true (by kernel_rfl)) (by unfold Func.isWrapper; first | (rw [if_pos (by decide +kernel)]; kernel_rfl) | (rw [if_neg (by decide +kernel)]; exact ⟨rfl, rfl⟩))
    (fun os started H enc _ => lifted os started H enc)
end orderAll
theorem orderAll_holds : Rows.OrderAllSaid := orderAll.over
#print axioms orderAll_holds
end Go.Proofs.Ytinpaplpgoljpaa
