/- The reference of layer 6 (bus): a slot at a time that may not be, or wanted by who isn't there; the row. -/
import Derived.Test.YtbfhohcimomphaaBusRefD
import Derived.Test.YtbfhohcimomphaaBusE
import Derived.Test.YtbfhohcimomphaaRZone
namespace Go.Proofs.Ytbfhohcimomphaa
open Go.RowKit
set_option linter.unusedVariables false
set_option linter.unusedSimpArgs false
def ErrR (w : World) (T : Int) (e : Ending) (w' : World) : Prop := e = .returned (.tuple #[.int .i64 0, .int .i64 (codeB T)]) ∧ Below w.heap.size w w'
def Rel1b (w : World) (l : List Int) (n : Nat) (iv : Value) (wr : World) : Prop := ∃ i : Nat, iv = .int .i64 i ∧ i ≤ l.length ∧ okWants (l.take i) n = true ∧ Below w.heap.size w wr
theorem okWants_step {l : List Int} {n i : Nat} {x : Int} (h : okWants (l.take i) n = true) (hx : l[i]? = some x) (h0 : 0 ≤ x) (h1 : x < n) : okWants (l.take (i + 1)) n = true := by
  have ht : l.take (i + 1) = l.take i ++ [x] := by rw [List.take_add_one, hx]; rfl
  rw [ht]
  unfold okWants at h ⊢
  rw [List.all_append, h]
  simp [h0, h1]
set_option maxRecDepth 100000 in
set_option maxHeartbeats 8000000 in
theorem rslot_err {w : World} {R : Rl} {L : List Mp} {M : Nat → Ms} {c : Nat → Int} {H : List (Int × Int)} {ph T : Int} (k : IsRB w R L.length M c H ph) (Aa : Option Addr) (cap : Nat) (hav : R.av = .slice Aa L.length cap)
    (h0 : 0 ≤ T) (h1 : T ≤ 18446744073709551615) (n16 : L.length ≤ 16) (p0 : 0 ≤ ph) (p1 : ph ≤ 18446744073709551615) (hH : Hid (∀ e ∈ H, 0 ≤ e.1 ∧ e.1 < 4611686018427387904)) (hl : H.length ≤ 800)
    (l : List Int) (Aw : Option Addr) (cw : Nat) (hs : Hid (Src w 1 Aw l.length (intCells l))) (hl9 : l.length ≤ 140737488351232)
    (g : Hid (4611686018427387904 ≤ T ∨ okWants l L.length = false ∨ T < ph ∨ ∃ e, H[H.length - 1]? = some e ∧ T ≤ e.1)) :
    Calls Try.prog 18 #[.pointer (some ⟨R.p, 0, none⟩), .int .u64 T, .slice Aw l.length cw] w (ErrR w T) := by
  by_cases hT : 4611686018427387904 ≤ T
  · have d1 : decide (4611686018427387904 ≤ T) = true := decide_eq_true hT
    have ec : codeB T = 2 := by unfold codeB; rw [if_pos hT]
    unfold ErrR
    rw [ec]
    clear ec hs g hH
    go_enter Try.func18, Try.ntmps18
    go_wp2_with fail
    go_ret2
    exact ⟨rfl, Below.refl _ _⟩
  · have ec : codeB T = 1 := by unfold codeB; rw [if_neg hT]
    unfold ErrR
    rw [ec]
    have d1 : decide (4611686018427387904 ≤ T) = false := decide_eq_false (by omega)
    have K := Lib.hid k
    have HAV := Lib.hid hav
    obtain ⟨Ah, ch, eh, -⟩ := k.had.shape
    have EH := Lib.hid eh
    clear k hav eh ec
    go_enter Try.func18, Try.ntmps18
    go_wp2_with fail
    go_loopw [8] (fun iv wr => Hid (Rel1b w l L.length iv wr)) (fun iv _ => l.length - (intOf iv).toNat)
    case atStart => exact ⟨0, rfl, by omega, rfl, Below.refl _ _⟩
    case round =>
      obtain ⟨i, rfl, hi, hokw, hbel⟩ := hrel
      have BEL := Lib.hid hbel
      have OKW := Lib.hid hokw
      have K1 := Lib.hid (K.out.below hbel)
      obtain ⟨c0, c1, c2, c3, c4⟩ := K1.out.cells
      rw [HAV.out] at c0
      rw [EH.out] at c4
      clear hbel hokw
      by_cases hil : i < l.length
      · have hi2 : (i : Int) < l.length := by omega
        obtain ⟨ab, ao, x, rfl, hx, hc2⟩ := (hs.out.below BEL.out).int hil
        have HX := Lib.hid hx
        clear hx
        by_cases hx0 : x < 0
        · have dx0 : decide (x < 0) = true := decide_eq_true hx0
          go_wp2_with fail
          go_quiet (fail)
          go_wp2_with fail
          go_ret2
          exact ⟨rfl, Below.drewN' BEL.out _⟩
        · have dx0 : decide (x < 0) = false := decide_eq_false hx0
          by_cases hx1 : x < (L.length : Int)
          · have dx1 : decide ((L.length : Int) ≤ x) = false := decide_eq_false (by omega)
            go_wp2_with fail
            go_quiet (fail)
            go_wp2_with fail
            go_roundw
            case rel => exact ⟨i + 1, by go_num, by omega, okWants_step OKW.out HX.out (by omega) hx1, Below.drewN' BEL.out _⟩
            case measure => simp [intOf]; omega
          · have dx1 : decide ((L.length : Int) ≤ x) = true := decide_eq_true (by omega)
            go_wp2_with fail
            go_quiet (fail)
            go_wp2_with fail
            go_ret2
            exact ⟨rfl, Below.drewN' BEL.out _⟩
      · have hi2 : ¬ (i : Int) < l.length := by omega
        obtain rfl : i = l.length := by omega
        have hok : okWants l L.length = true := by have := OKW.out; rwa [List.take_length] at this
        clear OKW
        by_cases hph : T < ph
        · have d2 : decide (T < ph) = true := decide_eq_true hph
          go_wp2_with fail
          go_quiet (fail)
          go_wp2_with fail
          go_ret2
          exact ⟨rfl, Below.drewN' BEL.out _⟩
        · have d2 : decide (T < ph) = false := decide_eq_false hph
          obtain ⟨e, he, hle⟩ : ∃ e, H[H.length - 1]? = some e ∧ T ≤ e.1 := by
            rcases g.out with h | h | h | h
            · omega
            · rw [hok] at h; cases h
            · omega
            · exact h
          have hlt := (List.getElem?_eq_some_iff.1 he).1
          obtain ⟨m, hm⟩ : ∃ m, H.length = m + 1 := ⟨H.length - 1, by omega⟩
          rw [show H.length - 1 = m by omega] at he
          obtain ⟨f1, f2⟩ := flatH_at H m _ he
          obtain ⟨he0, he1⟩ := hH.out _ (List.mem_of_getElem? he)
          obtain ⟨gh, oh, c', ev, -, -, hgl, hx, -⟩ := K1.out.had.at_ (by omega)
          rw [EH.out] at ev
          cases ev
          have q0 : wr.cell? ⟨gh, oh + m * 2, none⟩ = some (.int .u64 e.1) := hx _ _ f1
          generalize e.1 = ea at *
          have e1 : decide (0 < (H.length : Int)) = true := decide_eq_true (by omega)
          have e2 : decide (T ≤ ea) = true := decide_eq_true hle
          have hm1 : (H.length : Int) - 1 = m := by omega
          clear f1 f2 hx he
          go_wp2_with fail
          go_quiet (fail)
          go_wp2_with fail
          go_ret2
          exact ⟨rfl, Below.drewN' BEL.out _⟩
/-- Who had the last slot, and how many in a row. -/
def rowOf (H : List (Int × Int)) : Int × Int := match H.reverse with
  | [] => (-1, 0)
  | e :: _ => if e.2 < 0 then (-1, 0) else (e.2, rowR H.reverse e.2 (e.1 + 1) 0)
/-- What stands where the last slot is read. -/
def SH (p g off : Nat) (v : Value) (e : Int × Int) (W : World) : Prop :=
  W.cell? ⟨p, 4, none⟩ = some v ∧ W.cell? ⟨g, off, none⟩ = some (.int .u64 e.1) ∧ W.cell? ⟨g, off + 1, none⟩ = some (.int .i64 e.2)
theorem SH.alloc {p g off : Nat} {v : Value} {e : Int × Int} {W : World} (h : SH p g off v e W) (o : Obj) : SH p g off v e (W.alloc o) := by
  have k : ∀ (a : Addr) (x : Value), W.cell? a = some x → (W.alloc o).cell? a = some x := fun a x e => (World.cell?_alloc_lt _ _ _ (World.block_lt_of_cell? W a e)).trans e
  exact ⟨k _ _ h.1, k _ _ h.2.1, k _ _ h.2.2⟩
theorem two_new (w : World) (k : Nat) (a b x : Value) (ty : TypeId) :
    ((w.drewN k).alloc (.cells #[a, b] ty)).cell? ⟨w.heap.size, 0, none⟩ = some a ∧ ((w.drewN k).alloc (.cells #[a, b] ty)).frozen? ⟨w.heap.size, 0, none⟩ = false ∧
    (((w.drewN k).alloc (.cells #[a, b] ty)).setCell ⟨w.heap.size, 0, none⟩ x).cell? ⟨w.heap.size, 1, none⟩ = some b ∧ (((w.drewN k).alloc (.cells #[a, b] ty)).setCell ⟨w.heap.size, 0, none⟩ x).frozen? ⟨w.heap.size, 1, none⟩ = false := by
  refine ⟨World.cell?_alloc_at _ _ _ _ rfl, World.frozen?_alloc_at _ _ _ _ rfl, ?_, ?_⟩
  · refine Eq.trans (World.cell?_setCell_other _ _ _ _ (by intro h; injection h with _ h2; cases h2)) ?_
    exact World.cell?_alloc_at _ _ _ _ rfl
  · simp only [World.frozen?_setCell]
    exact World.frozen?_alloc_at _ _ _ _ rfl
theorem two_set (w : World) (k : Nat) (a b x y : Value) (ty : TypeId) :
    ((((w.drewN k).alloc (.cells #[a, b] ty)).setCell ⟨w.heap.size, 0, none⟩ x).setCell ⟨w.heap.size, 1, none⟩ y).cell? ⟨w.heap.size, 0, none⟩ = some x ∧
    ((((w.drewN k).alloc (.cells #[a, b] ty)).setCell ⟨w.heap.size, 0, none⟩ x).setCell ⟨w.heap.size, 1, none⟩ y).cell? ⟨w.heap.size, 1, none⟩ = some y ∧
    Below w.heap.size w ((((w.drewN k).alloc (.cells #[a, b] ty)).setCell ⟨w.heap.size, 0, none⟩ x).setCell ⟨w.heap.size, 1, none⟩ y) := by
  obtain ⟨z0, z1, z2, z3⟩ := two_new w k a b x ty
  refine ⟨?_, ?_, ?_⟩
  · refine Eq.trans (World.cell?_setCell_other _ _ _ _ (by intro h; injection h with _ h2; cases h2)) ?_
    exact World.cell?_setCell_same _ _ _ z0
  · exact World.cell?_setCell_same _ _ _ z2
  · exact (((Below.drewN' (Below.refl _ _) k).alloc (Nat.le_refl _) _).setCell (Nat.le_refl _) _).setCell (Nat.le_refl _) _
def RowPost (w : World) (H : List (Int × Int)) (e : Ending) (w' : World) : Prop := e = .returned (.tuple #[.int .i64 (rowOf H).1, .int .i64 (rowOf H).2]) ∧ Below w.heap.size w w'
set_option maxHeartbeats 4000000 in
theorem rRow_any {w : World} {R : Rl} {n : Nat} {M : Nat → Ms} {c : Nat → Int} {H : List (Int × Int)} {ph : Int} (k : IsRB w R n M c H ph) (hH : Hid (∀ e ∈ H, 0 ≤ e.1 ∧ e.1 < 4611686018427387904)) (hl : H.length ≤ 800) :
    Calls Try.prog 20 #[.pointer (some ⟨R.p, 0, none⟩)] w (RowPost w H) := by
  have K := Lib.hid k
  obtain ⟨c0, c1, c2, c3, c4⟩ := k.cells
  obtain ⟨Ah, ch, eh, -⟩ := k.had.shape
  rw [eh] at c4
  have EH := Lib.hid eh
  have RW := fun W (k : IsRB W R n M c H ph) id u => Lib.hid (rrow_any k hH.out (by omega) id u)
  clear k eh
  by_cases hne : H.length = 0
  · have er : rowOf H = (-1, 0) := by rw [List.length_eq_zero_iff.1 hne]; rfl
    have e1 : ((H.length : Int) == 0) = true := beq_iff_eq.2 (by omega)
    unfold RowPost
    rw [er]
    clear er
    go_enter Try.func20, Try.ntmps20
    go_wp2_with fail
    go_quiet (fail)
    go_wp2_with fail
    go_ret2
    exact ⟨rfl, Below.drewN' (Below.refl _ _) _⟩
  · have e1 : ((H.length : Int) == 0) = false := beq_eq_false_iff_ne.2 (by omega)
    obtain ⟨m, hm⟩ : ∃ m, H.length = m + 1 := ⟨H.length - 1, by omega⟩
    have hj : H[m]? = some (H[m]'(by omega)) := List.getElem?_eq_getElem _
    have hrev : ∃ r, H.reverse = (H[m]'(by omega)) :: r := by
      have h1 : H = H.take m ++ [H[m]'(by omega)] := by
        have := List.take_add_one (l := H) (i := m)
        rw [hj, show m + 1 = H.length by omega, List.take_length] at this
        exact this
      refine ⟨(H.take m).reverse, ?_⟩
      conv => lhs; rw [h1]
      rw [List.reverse_append]; rfl
    obtain ⟨r, hr⟩ := hrev
    obtain ⟨f1, f2⟩ := flatH_at H m _ hj
    obtain ⟨he0, he1⟩ := hH.out _ (List.mem_of_getElem? hj)
    obtain ⟨gh, oh, c', ev, -, -, hgl, hx, -⟩ := K.out.had.at_ (by omega)
    rw [EH.out] at ev
    cases ev
    have q0 : w.cell? ⟨gh, oh + m * 2, none⟩ = some (.int .u64 (H[m]'(by omega)).1) := hx _ _ f1
    have q1 : w.cell? ⟨gh, oh + m * 2 + 1, none⟩ = some (.int .i64 (H[m]'(by omega)).2) := hx _ _ f2
    have hm1 : (H.length : Int) - 1 = m := by omega
    have hmw : IntKind.i64.wrap (m : Int) = m := IntWalk.i64_in _ (by omega)
    have hmz : ((m : Int) + 1 == 0) = false := beq_eq_false_iff_ne.2 (by omega)
    have er : rowOf H = if (H[m]'(by omega)).2 < 0 then (-1, 0) else ((H[m]'(by omega)).2, rowR H.reverse (H[m]'(by omega)).2 ((H[m]'(by omega)).1 + 1) 0) := by
      unfold rowOf; rw [hr]
    clear hj hr f1 f2 hx
    generalize (H[m]'(by omega)) = e at *
    unfold RowPost
    by_cases h2 : e.2 < 0
    · have d2 : decide (e.2 < 0) = true := decide_eq_true h2
      rw [er, if_pos h2]
      clear er
      go_enter Try.func20, Try.ntmps20
      go_wp2_with fail
      go_quiet (fail)
      go_wp2_with fail
      go_ret2
      exact ⟨rfl, Below.drewN' (Below.refl _ _) _⟩
    · have d2 : decide (e.2 < 0) = false := decide_eq_false h2
      rw [er, if_neg h2]
      clear er
      go_enter Try.func20, Try.ntmps20
      go_wp2_with fail
      go_quiet (fail)
      go_wp2_with fail
      have HSD : Hid (SH R.p gh (oh + m * 2) (.slice (some ⟨gh, oh, none⟩) (m + 1) ch) e (w.drewN nq).drew) := by
        rw [hm] at c4
        exact ⟨c4, q0, q1⟩
      refine wp_region_zone (SH R.p gh (oh + m * 2) (.slice (some ⟨gh, oh, none⟩) (m + 1) ch) e) (fun j => decide (j < 13)) (by kernel_rfl) ?_
      refine wpAnyZ_move (i := 0) (v := ?_) rfl (by kernel_rfl) (by kernel_rfl) (by kernel_rfl) (fun _ _ _ h => h) (Or.inl ⟨by rfl, ?_⟩) ?_
      (rotate_left 1; (focus (intro W; go_simp; try with_reducible rfl)))
      try simp only [Act.put, List.setIfInBounds_toArray, List.set_cons_zero, List.set_cons_succ]
      refine wpAnyZ_move (i := 1) (v := ?_) rfl (by kernel_rfl) (by kernel_rfl) (by kernel_rfl) (fun _ _ _ h => h) (Or.inl ⟨by rfl, ?_⟩) ?_
      (rotate_left 1; (focus (intro W; go_simp; try with_reducible rfl)))
      try simp only [Act.put, List.setIfInBounds_toArray, List.set_cons_zero, List.set_cons_succ]
      refine wpAnyZ_move (i := 2) (v := ?_) rfl (by kernel_rfl) (by kernel_rfl) (by kernel_rfl) (fun _ _ _ h => h) (Or.inl ⟨by rfl, ?_⟩) ?_
      (rotate_left 1; (focus (intro W; go_simp; try with_reducible rfl)))
      try simp only [Act.put, List.setIfInBounds_toArray, List.set_cons_zero, List.set_cons_succ]
      refine wpAnyZ_take (i := 3) (v := ?_) rfl (by kernel_rfl) (by kernel_rfl) (by kernel_rfl) (by kernel_rfl) (fun _ _ _ h => h) (Or.inl ⟨by rfl, ?_⟩) HSD.out ?_
      (rotate_left 1; (focus (intro W hS; obtain ⟨y0, y1, y2⟩ := hS; go_simp; try with_reducible rfl)))
      try simp only [Act.put, List.setIfInBounds_toArray, List.set_cons_zero, List.set_cons_succ]
      refine wpAnyZ_move (i := 4) (v := ?_) rfl (by kernel_rfl) (by kernel_rfl) (by kernel_rfl) (fun _ _ _ h => h) (Or.inl ⟨by rfl, ?_⟩) ?_
      (rotate_left 1; (focus (intro W; go_simp; try with_reducible rfl)))
      try simp only [Act.put, List.setIfInBounds_toArray, List.set_cons_zero, List.set_cons_succ]
      refine wpAnyZ_move (i := 5) (v := ?_) rfl (by kernel_rfl) (by kernel_rfl) (by kernel_rfl) (fun _ _ _ h => h) (Or.inl ⟨by rfl, ?_⟩) ?_
      (rotate_left 1; (focus (intro W; go_simp; try with_reducible rfl)))
      try simp only [Act.put, List.setIfInBounds_toArray, List.set_cons_zero, List.set_cons_succ]
      refine wpAnyZ_move (i := 6) (v := ?_) rfl (by kernel_rfl) (by kernel_rfl) (by kernel_rfl) (fun _ _ _ h => h) (Or.inl ⟨by rfl, ?_⟩) ?_
      (rotate_left 1; (focus (intro W; go_simp; try with_reducible rfl)))
      try simp only [Act.put, List.setIfInBounds_toArray, List.set_cons_zero, List.set_cons_succ]
      refine wpAnyZ_take (i := 7) (v := ?_) rfl (by kernel_rfl) (by kernel_rfl) (by kernel_rfl) (by kernel_rfl) (fun _ _ _ h => h) (Or.inl ⟨by rfl, ?_⟩) HSD.out ?_
      (rotate_left 1; (focus (intro W hS; obtain ⟨y0, y1, y2⟩ := hS; go_simp; try with_reducible rfl)))
      try simp only [Act.put, List.setIfInBounds_toArray, List.set_cons_zero, List.set_cons_succ]
      refine wpAnyZ_move (i := 8) (v := ?_) rfl (by kernel_rfl) (by kernel_rfl) (by kernel_rfl) (fun _ _ _ h => h) (Or.inl ⟨by rfl, ?_⟩) ?_
      (rotate_left 1; (focus (intro W; go_simp; try with_reducible rfl)))
      try simp only [Act.put, List.setIfInBounds_toArray, List.set_cons_zero, List.set_cons_succ]
      refine wpAnyZ_move (i := 9) (v := ?_) rfl (by kernel_rfl) (by kernel_rfl) (by kernel_rfl) (fun _ _ _ h => h) (Or.inl ⟨by rfl, ?_⟩) ?_
      (rotate_left 1; (focus (intro W; go_simp; try with_reducible rfl)))
      try simp only [Act.put, List.setIfInBounds_toArray, List.set_cons_zero, List.set_cons_succ]
      refine wpAnyZ_move (i := 10) (v := ?_) rfl (by kernel_rfl) (by kernel_rfl) (by kernel_rfl) (fun _ _ _ h => h) (Or.inl ⟨by rfl, ?_⟩) ?_
      (rotate_left 1; (focus (intro W; go_simp; rw [if_pos (show (m : Int) < (m : Int) + 1 by omega)])))
      try simp only [Act.put, List.setIfInBounds_toArray, List.set_cons_zero, List.set_cons_succ]
      refine wpAnyZ_take (i := 11) (v := ?_) rfl (by kernel_rfl) (by kernel_rfl) (by kernel_rfl) (by kernel_rfl) (fun _ _ _ h => h) (Or.inl ⟨by rfl, ?_⟩) HSD.out ?_
      (rotate_left 1; (focus (intro W hS; obtain ⟨y0, y1, y2⟩ := hS; go_simp; try with_reducible rfl)))
      try simp only [Act.put, List.setIfInBounds_toArray, List.set_cons_zero, List.set_cons_succ]
      refine wpAnyZ_one (i := 12) (by kernel_rfl) rfl (fun K hK => ?_)
      go_simp
      refine hK.out _ _ (fun _ h => SH.alloc h _) ?_
      clear hK K
      refine wpAnyZ_one (i := 13) (by kernel_rfl) rfl (fun K hK => ?_)
      obtain ⟨z0, z1, z2, z3⟩ := two_new w (nq + 1) (.int .u64 0) (.int .i64 0) (.int .u64 e.1) 83
      go_simp
      refine hK.out _ _ (fun h => absurd h (by decide)) ?_
      clear hK K
      refine wpAnyZ_done (by kernel_rfl) ?_ _
      go_wp2_with fail
      obtain ⟨y0, y1, yb⟩ := two_set w (nq + 1) (.int .u64 0) (.int .i64 0) (.int .u64 e.1) (.int .i64 e.2) 83
      have K2 := Lib.hid (K.out.below yb)
      have YB := Lib.hid yb
      clear yb
      generalize hW9 : ((((w.drewN (nq + 1)).alloc (.cells #[.int .u64 0, .int .i64 0] 83)).setCell ⟨w.heap.size, 0, none⟩ (.int .u64 e.1)).setCell ⟨w.heap.size, 1, none⟩ (.int .i64 e.2)) = w9 at *
      clear hW9
      have hew : IntKind.u64.wrap (e.1 + 1) = e.1 + 1 := IntWalk.u64_in _ (by omega)
      go_quiet (first | (go_at_call 33; exact Calls.quiet_of_same ((RW _ (by first | exact K2.out.drewN _ | exact K2.out) _ _).out.mono fun _ _ h => ⟨h.1, h.2.symm⟩)))
      go_wp2_with fail
      go_ret2
      exact ⟨rfl, Below.drewN' YB.out _⟩
end Go.Proofs.Ytbfhohcimomphaa
