/- Layer 8 (pieces): Find. -/
import Derived.Test.YtajcjepolfmhmaaPiecesC
import Derived.Test.YtajcjepolfmhmaaRZoneIn
namespace Go.Proofs.Ytajcjepolfmhmaa
open Go.RowKit Go.Shelf
set_option linter.unusedVariables false
set_option linter.unusedSimpArgs false
attribute [local go_sem] Oper.semAt_some
theorem Blk.kept {W W' : World} {row : Option Nat} {g : Nat} {t : TypeId} {cs : List Value} (h : Blk W g t cs) (hg : W.grownBy W' row) (hr : ∀ r, row = some r → ∃ o : Obj, W.heap[r]? = some o ∧ o.isCells = false) : Blk W' g t cs :=
  (grownBy_keeps_cells hg hr h rfl).trans h
/-- The byte at is in the piece k. -/
def hit (ps : List Pc) (at_ : Int) (k : Nat) : Prop := atP ps k ≤ at_ ∧ ∃ x, ps[k]? = some x ∧ at_ - atP ps k < lenP x
def fIdx (x : Pc) (at_ b : Int) : Int := IntKind.i64.wrap (IntKind.i64.wrap (x.f + at_) - b)
def FindPost (ps : List Pc) (len : Nat) (at_ : Int) (e : Ending) : Prop :=
  (∃ (k : Nat) (x : Pc), k < len ∧ ps[k]? = some x ∧ hit ps at_ k ∧ (∀ j, j < k → ¬ hit ps at_ j) ∧ e = .returned (.tuple #[.int .i64 k, .int .i64 (fIdx x at_ (atP ps k)), .int .i64 0])) ∨
  ((∀ j, j < len → ¬ hit ps at_ j) ∧ e = .returned (.tuple #[.int .i64 0, .int .i64 0, .int .i64 6]))
def SF (N b o len cap off : Nat) (at_ x3 x4 : Int) (W : World) : Prop := Blk W N 22 [.slice (some ⟨b, off, none⟩) len cap] ∧ Blk W (N + 1) 3 [.int .i64 at_] ∧ W.cell? ⟨b, o + 2, none⟩ = some (.int .i64 x3) ∧ W.cell? ⟨b, o + 3, none⟩ = some (.int .i64 x4) ∧ b < W.heap.size
def FindI (N : Nat) (A : Option Addr) (len cap : Nat) (ps : List Pc) (at_ : Int) (pre : List (Rd' len)) (W : World) : Prop :=
  (∀ k ∈ pre, ¬ hit ps at_ k.1) ∧ Blk W N 22 [.slice A len cap] ∧ Blk W (N + 1) 3 [.int .i64 at_] ∧ Blk W (N + 1 + 1) 3 [.int .i64 0] ∧ Blk W (N + 1 + 1 + 1) 3 [.int .i64 0] ∧ Blk W (N + 1 + 1 + 1 + 1) 30 [.int .i64 0] ∧ PsAt W A ps
def FindX (N : Nat) (len : Nat) (ps : List Pc) (at_ : Int) (c : Code) (pre : List (Rd' len)) (W : World) : Prop :=
  c = .ret ∧ ∃ ini k x, pre = ini ++ [k] ∧ (∀ j ∈ ini, ¬ hit ps at_ j.1) ∧ ps[k.1]? = some x ∧ hit ps at_ k.1 ∧ Blk W (N + 1 + 1) 3 [.int .i64 (k.1 : Nat)] ∧ Blk W (N + 1 + 1 + 1) 3 [.int .i64 (fIdx x at_ (atP ps k.1))] ∧ Blk W (N + 1 + 1 + 1 + 1) 30 [.int .i64 0]
theorem findI_own (N : Nat) (A : Option Addr) (len cap : Nat) (ps : List Pc) (at_ : Int) : Own (FindI N A len cap ps at_) := fun s X Y row hs hg hr =>
  ⟨hs.1, hs.2.1.kept hg hr, hs.2.2.1.kept hg hr, hs.2.2.2.1.kept hg hr, hs.2.2.2.2.1.kept hg hr, hs.2.2.2.2.2.1.kept hg hr, hs.2.2.2.2.2.2.kept hg hr⟩
theorem findX_own (N len : Nat) (ps : List Pc) (at_ : Int) (c : Code) : Own (FindX N len ps at_ c) := fun s X Y row hs hg hr => by
  obtain ⟨e, ini, k, x, h1, h2, h3, h4, h5, h6, h7⟩ := hs
  exact ⟨e, ini, k, x, h1, h2, h3, h4, h5.kept hg hr, h6.kept hg hr, h7.kept hg hr⟩
set_option maxRecDepth 100000 in
set_option maxHeartbeats 2000000 in
theorem find_any (w : World) (A : Option Addr) (len cap : Nat) (ps : List Pc) (hl : ps.length = len) (h16 : len ≤ 16) (hc : PsAt w A ps) (hA : ∀ a, A = some a → a.block < w.heap.size) (at_ : Int) (ha : -9223372036854775808 ≤ at_) (ha' : at_ ≤ 9223372036854775807) :
    Calls Try.prog 14 #[.slice A len cap, .int .i64 at_] w fun e w' => FindPost ps len at_ e ∧ Below w.heap.size w w' := by
  refine (callsIn_wide (n := 3)).1 ?_
  refine callsIn_of_wp_marks Try.func14 rfl trivial ?_ rfl
  simp only [Try.ntmps14, List.size_toArray, List.length_cons, List.length_nil, Nat.reduceAdd, Nat.reduceSub, Array.replicate_succ, Array.replicate_zero, List.push_toArray, List.append_toArray, List.nil_append, List.cons_append]
  gi_wp2_with (first | (gi_at_call 28; refine (spans_in _ _ _ _ _).mono ?_; rintro e w' ⟨rfl, rfl⟩) | (refine ⟨trivial, ?_⟩; gi_at_call 28; refine (spans_in _ _ _ _ _).mono ?_; rintro e w' ⟨rfl, rfl⟩))
  obtain ⟨W5, hW5⟩ : ∃ W5, ((((w.alloc (.cells #[.slice A len cap] 22)).alloc (.cells #[.int .i64 at_] 3)).alloc (.cells #[.int .i64 0] 3)).alloc (.cells #[.int .i64 0] 3)).alloc (.cells #[.int .i64 0] 30) = W5 := ⟨_, rfl⟩
  have b0 : Blk W5 w.heap.size 22 [.slice A len cap] := by rw [← hW5]; exact ((((Blk.new w 22 [.slice A len cap]).alloc _).alloc _).alloc _).alloc _
  have b1 : Blk W5 (w.heap.size + 1) 3 [.int .i64 at_] := by rw [← hW5]; have h := Blk.new (w.alloc (.cells #[.slice A len cap] 22)) 3 [.int .i64 at_]; rw [World.size_alloc] at h; exact ((h.alloc _).alloc _).alloc _
  have b2 : Blk W5 (w.heap.size + 1 + 1) 3 [.int .i64 0] := by rw [← hW5]; have h := Blk.new ((w.alloc (.cells #[.slice A len cap] 22)).alloc (.cells #[.int .i64 at_] 3)) 3 [.int .i64 0]; rw [World.size_alloc, World.size_alloc] at h; exact (h.alloc _).alloc _
  have b3 : Blk W5 (w.heap.size + 1 + 1 + 1) 3 [.int .i64 0] := by rw [← hW5]; have h := Blk.new (((w.alloc (.cells #[.slice A len cap] 22)).alloc (.cells #[.int .i64 at_] 3)).alloc (.cells #[.int .i64 0] 3)) 3 [.int .i64 0]; rw [World.size_alloc, World.size_alloc, World.size_alloc] at h; exact h.alloc _
  have b4 : Blk W5 (w.heap.size + 1 + 1 + 1 + 1) 30 [.int .i64 0] := by rw [← hW5]; have h := Blk.new ((((w.alloc (.cells #[.slice A len cap] 22)).alloc (.cells #[.int .i64 at_] 3)).alloc (.cells #[.int .i64 0] 3)).alloc (.cells #[.int .i64 0] 3)) 30 [.int .i64 0]; rw [World.size_alloc, World.size_alloc, World.size_alloc, World.size_alloc] at h; exact h
  have hB5 : Below w.heap.size w W5 := by rw [← hW5]; exact (((((Below.refl _ w).alloc (Nat.le_refl _) _).alloc (by simp) _).alloc (by simp; omega) _).alloc (by simp; omega) _).alloc (by simp; omega) _
  have hZ5 : W5.heap.size = w.heap.size + 1 + 1 + 1 + 1 + 1 := by rw [← hW5]; simp
  have bS := Boxed.new W5 22 (.slice A len cap)
  have hB0 : Below w.heap.size w (W5.alloc (.cells #[.slice A len cap] 22)) := hB5.alloc hB5.size _
  rw [hW5]
  rw [hZ5] at bS
  refine wpIn_rangeFunc_ownG rfl (by decide) (gf := 41) (lb := #[.pointer (some ⟨w.heap.size + 1 + 1 + 1 + 1 + 1, 0, none⟩)]) rfl trivial (enters_of Try.func41 (by kernel_rfl) rfl)
    (spans_stops 2 (by decide) (w.heap.size + 1 + 1 + 1 + 1 + 1) len cap A ps hl h16 (fun g => False) (fun h => h) (fun a e h => h) _ (fun g h => h.elim) bS.cell (hc.below hB0)) KeepsC.trans keepsC_b (Below.refl _ _) (fun _ => rfl)
    (fun pre W => FindI w.heap.size A len cap ps at_ pre W ∧ Below w.heap.size w W)
    (fun c pre W => FindX w.heap.size len ps at_ c pre W ∧ Below w.heap.size w W)
    (OwnFrom.and (Own.from (findI_own _ _ _ _ _ _) _) (ownFrom_below (Nat.le_refl _) (by simp; omega)))
    (fun c => OwnFrom.and (Own.from (findX_own _ _ _ _ _) _) (ownFrom_below (Nat.le_refl _) (by simp; omega)))
    ⟨⟨by simp, b0.alloc _, b1.alloc _, b2.alloc _, b3.alloc _, b4.alloc _, hc.below hB0⟩, hB0⟩
    (fun x => { tmps := #[.slice A len cap, .int .i64 at_, .pointer (some ⟨w.heap.size, 0, none⟩), .pointer (some ⟨w.heap.size + 1, 0, none⟩), .pointer (some ⟨w.heap.size + 1 + 1, 0, none⟩), .pointer (some ⟨w.heap.size + 1 + 1 + 1, 0, none⟩), .pointer (some ⟨w.heap.size + 1 + 1 + 1 + 1, 0, none⟩), .int .i64 (x.1 : Nat), .int .i64 (atP ps x.1), .slice A len cap, .func (.func 41) #[] #[.pointer (some ⟨w.heap.size + 1 + 1 + 1 + 1 + 1, 0, none⟩)], .int .i64 (x.1 : Nat), .int .i64 (atP ps x.1), undef, undef, undef, undef, undef, undef, undef, undef, undef, undef, undef, undef, undef, undef, undef, undef, undef, undef, undef, undef, undef, undef, undef, undef, undef, undef], defers := [] }) ?assign ?body ?done ?stop
  case assign =>
    intro l x W K hK
    gi_wp2
    exact hK
  case body =>
    rintro l pre ⟨k, hk⟩ W ⟨⟨hno, h0, h1, h2, h3, h4, h5⟩, hB⟩ _
    have hmx : Try.prog.follows .mixedOrders = true := by kernel_rfl
    have hd : 1 ≤ 3 - 1 - 1 := by decide
    obtain ⟨x, hx⟩ : ∃ x, ps[k]? = some x := ⟨_, List.getElem?_eq_getElem (by omega)⟩
    obtain ⟨b, off, rfl, hb, c0, c1, c2, c3⟩ := h5 k x hx
    have hkl : (k : Int) < (len : Int) := by omega
    have hbl := lt_of_cell c0
    have HB := Lib.hid hB
    have H0 := Lib.hid h0
    have H1 := Lib.hid h1
    have H2 := Lib.hid h2
    have H3 := Lib.hid h3
    have H4 := Lib.hid h4
    have H5 := Lib.hid h5
    have NO := Lib.hid hno
    have a0 := (atP_le ps k).1
    have a1 := (atP_le ps k).2
    have HX := Lib.hid hx
    obtain ⟨x1, x2, x3, x4⟩ := x
    simp only at c0 c1 c2 c3
    have HSD : Hid (SF w.heap.size b (off + k * 4) len cap off at_ x3 x4 W.drew) := ⟨h0.drew, h1.drew, c2, c3, hbl⟩
    have HSE : Hid (SF w.heap.size b (off + k * 4) len cap off at_ x3 x4 W.drew.drew) := ⟨h0.drew, h1.drew, c2, c3, hbl⟩
    have ne : ¬ hit ps at_ k → Hid (∀ (BB : Nat) (aa : Act), ownPostG BB (KeepsC fun g => False) (fun (pre : List (Rd' len)) W => FindI w.heap.size (some ⟨b, off, none⟩) len cap ps at_ pre W ∧ Below w.heap.size w W) (fun c pre W => FindX w.heap.size len ps at_ c pre W ∧ Below w.heap.size w W) (pre ++ [⟨k, hk⟩]) W Exit.normal aa W.drew) := fun hn BB aa => by
      refine ⟨(KeepsOthers.drew _).from _, KeepsC.of_only (Only.refl _ _).drew, ⟨?_, H0.out.drew, H1.out.drew, H2.out.drew, H3.out.drew, H4.out.drew, H5.out.below (Below.refl _ _).drew⟩, HB.out.drew⟩
      intro j hj
      rcases List.mem_append.1 hj with hj | hj
      · exact NO.out j hj
      · simp at hj; subst hj; exact hn
    obtain ⟨M, e12⟩ : ∃ M, (if x4 < 0 then (0 : Int) else x4) = M := ⟨_, rfl⟩
    obtain ⟨L, e13⟩ : ∃ L, (if 1099511627776 < M then (1099511627776 : Int) else M) = L := ⟨_, rfl⟩
    have HLP := Lib.hid (show lenP ⟨x1, x2, x3, x4⟩ = L by unfold lenP; simp only; rw [e12, e13])
    clear hno h0 h1 h2 h3 h4 h5 hB hx c0 c1 c2 c3
    by_cases hk2 : atP ps k ≤ at_
    · have f1 : decide (atP ps k ≤ at_) = true := decide_eq_true hk2
      have g1 : IntKind.i64.wrap (at_ - atP ps k) = at_ - atP ps k := IntWalk.i64_in _ (by omega)
      by_cases n3 : at_ - atP ps k < L
      · have HT := Lib.hid (show hit ps at_ k from ⟨hk2, _, HX.out, by rw [HLP.out]; exact n3⟩)
        have f2 : decide (at_ - atP ps k < L) = true := decide_eq_true n3
        clear ne hk2 n3
        gi_wp2
        refine wpIn_region_zone (SF w.heap.size b (off + k * 4) len cap off at_ x3 x4) (fun j => true) (by kernel_rfl) ?_
        refine wpAnyZI_take (fun _ => trivial) (by kernel_rfl) (i := 0) (v := ?_) rfl (by kernel_rfl) (by kernel_rfl) (by kernel_rfl) (by kernel_rfl) (fun _ _ _ h => h) (Or.inl ⟨by rfl, ?_⟩) HSD.out ?_
        (rotate_left 1; (focus (intro W hS; obtain ⟨hb0, hb1, y2, y3, yl⟩ := hS; have y0 := hb0.cell 0; have y1 := hb1.cell 0; have l0 := hb0.lt; have l1 := hb1.lt; go_simp; try with_reducible rfl)))
        try simp only [Act.put, List.setIfInBounds_toArray, List.set_cons_zero, List.set_cons_succ, List.getElem_toArray, List.getElem_cons_succ, List.getElem_cons_zero]
        refine wpAnyZI_move (fun _ => trivial) (by kernel_rfl) (i := 1) (v := ?_) rfl (by kernel_rfl) (by kernel_rfl) (by kernel_rfl) (fun _ _ _ h => h) (Or.inl ⟨by rfl, ?_⟩) ?_
        (rotate_left 1; (focus (intro W; go_simp; try with_reducible rfl)))
        try simp only [Act.put, List.setIfInBounds_toArray, List.set_cons_zero, List.set_cons_succ, List.getElem_toArray, List.getElem_cons_succ, List.getElem_cons_zero]
        refine wpAnyZI_move (fun _ => trivial) (by kernel_rfl) (i := 2) (v := ?_) rfl (by kernel_rfl) (by kernel_rfl) (by kernel_rfl) (fun _ _ _ h => h) (Or.inl ⟨by rfl, ?_⟩) ?_
        (rotate_left 1; (focus (intro W; go_simp; try with_reducible rfl)))
        try simp only [Act.put, List.setIfInBounds_toArray, List.set_cons_zero, List.set_cons_succ, List.getElem_toArray, List.getElem_cons_succ, List.getElem_cons_zero]
        refine wpAnyZI_move (fun _ => trivial) (by kernel_rfl) (i := 3) (v := ?_) rfl (by kernel_rfl) (by kernel_rfl) (by kernel_rfl) (fun _ _ _ h => h) (Or.inl ⟨by rfl, ?_⟩) ?_
        (rotate_left 1; (focus (intro W; go_simp; try with_reducible rfl)))
        try simp only [Act.put, List.setIfInBounds_toArray, List.set_cons_zero, List.set_cons_succ, List.getElem_toArray, List.getElem_cons_succ, List.getElem_cons_zero]
        refine wpAnyZI_take (fun _ => trivial) (by kernel_rfl) (i := 4) (v := ?_) rfl (by kernel_rfl) (by kernel_rfl) (by kernel_rfl) (by kernel_rfl) (fun _ _ _ h => h) (Or.inl ⟨by rfl, ?_⟩) HSD.out ?_
        (rotate_left 1; (focus (intro W hS; obtain ⟨hb0, hb1, y2, y3, yl⟩ := hS; have y0 := hb0.cell 0; have y1 := hb1.cell 0; have l0 := hb0.lt; have l1 := hb1.lt; go_simp; try with_reducible rfl)))
        try simp only [Act.put, List.setIfInBounds_toArray, List.set_cons_zero, List.set_cons_succ, List.getElem_toArray, List.getElem_cons_succ, List.getElem_cons_zero]
        refine wpAnyZI_move (fun _ => trivial) (by kernel_rfl) (i := 5) (v := ?_) rfl (by kernel_rfl) (by kernel_rfl) (by kernel_rfl) (fun _ _ _ h => h) (Or.inl ⟨by rfl, ?_⟩) ?_
        (rotate_left 1; (focus (intro W; go_simp; try with_reducible rfl)))
        try simp only [Act.put, List.setIfInBounds_toArray, List.set_cons_zero, List.set_cons_succ, List.getElem_toArray, List.getElem_cons_succ, List.getElem_cons_zero]
        refine wpAnyZI_move (fun _ => trivial) (by kernel_rfl) (i := 6) (v := ?_) rfl (by kernel_rfl) (by kernel_rfl) (by kernel_rfl) (fun _ _ _ h => h) (Or.inl ⟨by rfl, ?_⟩) ?_
        (rotate_left 1; (focus (intro W; go_simp; try with_reducible rfl)))
        try simp only [Act.put, List.setIfInBounds_toArray, List.set_cons_zero, List.set_cons_succ, List.getElem_toArray, List.getElem_cons_succ, List.getElem_cons_zero]
        refine wpAnyZI_take (fun _ => trivial) (by kernel_rfl) (i := 7) (v := ?_) rfl (by kernel_rfl) (by kernel_rfl) (by kernel_rfl) (by kernel_rfl) (fun _ _ _ h => h) (Or.inl ⟨by rfl, ?_⟩) HSD.out ?_
        (rotate_left 1; (focus (intro W hS; obtain ⟨hb0, hb1, y2, y3, yl⟩ := hS; have y0 := hb0.cell 0; have y1 := hb1.cell 0; have l0 := hb0.lt; have l1 := hb1.lt; go_simp; try with_reducible rfl)))
        try simp only [Act.put, List.setIfInBounds_toArray, List.set_cons_zero, List.set_cons_succ, List.getElem_toArray, List.getElem_cons_succ, List.getElem_cons_zero]
        refine wpAnyZI_move (fun _ => trivial) (by kernel_rfl) (i := 8) (v := ?_) rfl (by kernel_rfl) (by kernel_rfl) (by kernel_rfl) (fun _ _ _ h => h) (Or.inl ⟨by rfl, ?_⟩) ?_
        (rotate_left 1; (focus (intro W; go_simp; try with_reducible rfl)))
        try simp only [Act.put, List.setIfInBounds_toArray, List.set_cons_zero, List.set_cons_succ, List.getElem_toArray, List.getElem_cons_succ, List.getElem_cons_zero]
        refine wpAnyZI_move (fun _ => trivial) (by kernel_rfl) (i := 9) (v := ?_) rfl (by kernel_rfl) (by kernel_rfl) (by kernel_rfl) (fun _ _ _ h => h) (Or.inl ⟨by rfl, ?_⟩) ?_
        (rotate_left 1; (focus (intro W; go_simp; try with_reducible rfl)))
        try simp only [Act.put, List.setIfInBounds_toArray, List.set_cons_zero, List.set_cons_succ, List.getElem_toArray, List.getElem_cons_succ, List.getElem_cons_zero]
        refine wpAnyZI_move (fun _ => trivial) (by kernel_rfl) (i := 10) (v := ?_) rfl (by kernel_rfl) (by kernel_rfl) (by kernel_rfl) (fun _ _ _ h => h) (Or.inl ⟨by rfl, ?_⟩) ?_
        (rotate_left 1; (focus (intro W; go_simp; try with_reducible rfl)))
        try simp only [Act.put, List.setIfInBounds_toArray, List.set_cons_zero, List.set_cons_succ, List.getElem_toArray, List.getElem_cons_succ, List.getElem_cons_zero]
        refine wpAnyZI_take (fun _ => trivial) (by kernel_rfl) (i := 11) (v := ?_) rfl (by kernel_rfl) (by kernel_rfl) (by kernel_rfl) (by kernel_rfl) (fun _ _ _ h => h) (Or.inl ⟨by rfl, ?_⟩) HSD.out ?_
        (rotate_left 1; (focus (intro W hS; obtain ⟨hb0, hb1, y2, y3, yl⟩ := hS; have y0 := hb0.cell 0; have y1 := hb1.cell 0; have l0 := hb0.lt; have l1 := hb1.lt; go_simp; try with_reducible rfl)))
        try simp only [Act.put, List.setIfInBounds_toArray, List.set_cons_zero, List.set_cons_succ, List.getElem_toArray, List.getElem_cons_succ, List.getElem_cons_zero]
        refine wpAnyZI_move (fun _ => trivial) (by kernel_rfl) (i := 12) (v := ?_) rfl (by kernel_rfl) (by kernel_rfl) (by kernel_rfl) (fun _ _ _ h => h) (Or.inl ⟨by rfl, ?_⟩) ?_
        (rotate_left 1; (focus (intro W; go_simp; try with_reducible rfl)))
        try simp only [Act.put, List.setIfInBounds_toArray, List.set_cons_zero, List.set_cons_succ, List.getElem_toArray, List.getElem_cons_succ, List.getElem_cons_zero]
        refine wpAnyZI_move (fun _ => trivial) (by kernel_rfl) (i := 13) (v := ?_) rfl (by kernel_rfl) (by kernel_rfl) (by kernel_rfl) (fun _ _ _ h => h) (Or.inl ⟨by rfl, ?_⟩) ?_
        (rotate_left 1; (focus (intro W; go_simp; try with_reducible rfl)))
        try simp only [Act.put, List.setIfInBounds_toArray, List.set_cons_zero, List.set_cons_succ, List.getElem_toArray, List.getElem_cons_succ, List.getElem_cons_zero]
        refine wpAnyZI_move (fun _ => trivial) (by kernel_rfl) (i := 14) (v := ?_) rfl (by kernel_rfl) (by kernel_rfl) (by kernel_rfl) (fun _ _ _ h => h) (Or.inl ⟨by rfl, ?_⟩) ?_
        (rotate_left 1; (focus (intro W; go_simp; try with_reducible rfl)))
        try simp only [Act.put, List.setIfInBounds_toArray, List.set_cons_zero, List.set_cons_succ, List.getElem_toArray, List.getElem_cons_succ, List.getElem_cons_zero]
        refine wpAnyZI_move (fun _ => trivial) (by kernel_rfl) (i := 15) (v := ?_) rfl (by kernel_rfl) (by kernel_rfl) (by kernel_rfl) (fun _ _ _ h => h) (Or.inl ⟨by rfl, ?_⟩) ?_
        (rotate_left 1; (focus (intro W; go_simp; try with_reducible rfl)))
        try simp only [Act.put, List.setIfInBounds_toArray, List.set_cons_zero, List.set_cons_succ, List.getElem_toArray, List.getElem_cons_succ, List.getElem_cons_zero]
        refine wpAnyZI_done (by kernel_rfl) ?_ _
        gi_wp2
        refine wpIn_region_zone (SF w.heap.size b (off + k * 4) len cap off at_ x3 x4) (fun j => true) (by kernel_rfl) ?_
        refine wpAnyZI_move (fun _ => trivial) (by kernel_rfl) (i := 0) (v := ?_) rfl (by kernel_rfl) (by kernel_rfl) (by kernel_rfl) (fun _ _ _ h => h) (Or.inl ⟨by rfl, ?_⟩) ?_
        (rotate_left 1; (focus (intro W; go_simp; try with_reducible rfl)))
        try simp only [Act.put, List.setIfInBounds_toArray, List.set_cons_zero, List.set_cons_succ, List.getElem_toArray, List.getElem_cons_succ, List.getElem_cons_zero]
        refine wpAnyZI_take (fun _ => trivial) (by kernel_rfl) (i := 1) (v := ?_) rfl (by kernel_rfl) (by kernel_rfl) (by kernel_rfl) (by kernel_rfl) (fun _ _ _ h => h) (Or.inl ⟨by rfl, ?_⟩) HSE.out ?_
        (rotate_left 1; (focus (intro W hS; obtain ⟨hb0, hb1, y2, y3, yl⟩ := hS; have y0 := hb0.cell 0; have y1 := hb1.cell 0; have l0 := hb0.lt; have l1 := hb1.lt; go_simp; try with_reducible rfl)))
        try simp only [Act.put, List.setIfInBounds_toArray, List.set_cons_zero, List.set_cons_succ, List.getElem_toArray, List.getElem_cons_succ, List.getElem_cons_zero]
        refine wpAnyZI_move (fun _ => trivial) (by kernel_rfl) (i := 2) (v := ?_) rfl (by kernel_rfl) (by kernel_rfl) (by kernel_rfl) (fun _ _ _ h => h) (Or.inl ⟨by rfl, ?_⟩) ?_
        (rotate_left 1; (focus (intro W; go_simp; try with_reducible rfl)))
        try simp only [Act.put, List.setIfInBounds_toArray, List.set_cons_zero, List.set_cons_succ, List.getElem_toArray, List.getElem_cons_succ, List.getElem_cons_zero]
        refine wpAnyZI_move (fun _ => trivial) (by kernel_rfl) (i := 3) (v := ?_) rfl (by kernel_rfl) (by kernel_rfl) (by kernel_rfl) (fun _ _ _ h => h) (Or.inl ⟨by rfl, ?_⟩) ?_
        (rotate_left 1; (focus (intro W; go_simp; try with_reducible rfl)))
        try simp only [Act.put, List.setIfInBounds_toArray, List.set_cons_zero, List.set_cons_succ, List.getElem_toArray, List.getElem_cons_succ, List.getElem_cons_zero]
        refine wpAnyZI_move (fun _ => trivial) (by kernel_rfl) (i := 4) (v := ?_) rfl (by kernel_rfl) (by kernel_rfl) (by kernel_rfl) (fun _ _ _ h => h) (Or.inl ⟨by rfl, ?_⟩) ?_
        (rotate_left 1; (focus (intro W; go_simp; try with_reducible rfl)))
        try simp only [Act.put, List.setIfInBounds_toArray, List.set_cons_zero, List.set_cons_succ, List.getElem_toArray, List.getElem_cons_succ, List.getElem_cons_zero]
        refine wpAnyZI_take (fun _ => trivial) (by kernel_rfl) (i := 5) (v := ?_) rfl (by kernel_rfl) (by kernel_rfl) (by kernel_rfl) (by kernel_rfl) (fun _ _ _ h => h) (Or.inl ⟨by rfl, ?_⟩) HSE.out ?_
        (rotate_left 1; (focus (intro W hS; obtain ⟨hb0, hb1, y2, y3, yl⟩ := hS; have y0 := hb0.cell 0; have y1 := hb1.cell 0; have l0 := hb0.lt; have l1 := hb1.lt; go_simp; try with_reducible rfl)))
        try simp only [Act.put, List.setIfInBounds_toArray, List.set_cons_zero, List.set_cons_succ, List.getElem_toArray, List.getElem_cons_succ, List.getElem_cons_zero]
        refine wpAnyZI_take (fun _ => trivial) (by kernel_rfl) (i := 6) (v := ?_) rfl (by kernel_rfl) (by kernel_rfl) (by kernel_rfl) (by kernel_rfl) (fun _ _ _ h => h) (Or.inl ⟨by rfl, ?_⟩) HSE.out ?_
        (rotate_left 1; (focus (intro W hS; obtain ⟨hb0, hb1, y2, y3, yl⟩ := hS; have y0 := hb0.cell 0; have y1 := hb1.cell 0; have l0 := hb0.lt; have l1 := hb1.lt; go_simp; try with_reducible rfl)))
        try simp only [Act.put, List.setIfInBounds_toArray, List.set_cons_zero, List.set_cons_succ, List.getElem_toArray, List.getElem_cons_succ, List.getElem_cons_zero]
        refine wpAnyZI_move (fun _ => trivial) (by kernel_rfl) (i := 7) (v := ?_) rfl (by kernel_rfl) (by kernel_rfl) (by kernel_rfl) (fun _ _ _ h => h) (Or.inl ⟨by rfl, ?_⟩) ?_
        (rotate_left 1; (focus (intro W; go_simp; try with_reducible rfl)))
        try simp only [Act.put, List.setIfInBounds_toArray, List.set_cons_zero, List.set_cons_succ, List.getElem_toArray, List.getElem_cons_succ, List.getElem_cons_zero]
        refine wpAnyZI_move (fun _ => trivial) (by kernel_rfl) (i := 8) (v := ?_) rfl (by kernel_rfl) (by kernel_rfl) (by kernel_rfl) (fun _ _ _ h => h) (Or.inl ⟨by rfl, ?_⟩) ?_
        (rotate_left 1; (focus (intro W; go_simp; try with_reducible rfl)))
        try simp only [Act.put, List.setIfInBounds_toArray, List.set_cons_zero, List.set_cons_succ, List.getElem_toArray, List.getElem_cons_succ, List.getElem_cons_zero]
        refine wpAnyZI_move (fun _ => trivial) (by kernel_rfl) (i := 9) (v := ?_) rfl (by kernel_rfl) (by kernel_rfl) (by kernel_rfl) (fun _ _ _ h => h) (Or.inl ⟨by rfl, ?_⟩) ?_
        (rotate_left 1; (focus (intro W; go_simp; try with_reducible rfl)))
        try simp only [Act.put, List.setIfInBounds_toArray, List.set_cons_zero, List.set_cons_succ, List.getElem_toArray, List.getElem_cons_succ, List.getElem_cons_zero]
        have hbA : b < w.heap.size := hA _ rfl
        have r2 := H2.out.cell 0
        have r3 := H3.out.cell 0
        have r4 := H4.out.cell 0
        have q2 := H2.out.free 0
        have q3 := H3.out.free 0
        have q4 := H4.out.free 0
        have z2 := H2.out.lt
        have z3 := H3.out.lt
        have z4 := H4.out.lt
        have SAl := fun (W' : World) (o : Only (fun g => g = w.heap.size + 1 + 1 ∨ g = w.heap.size + 1 + 1 + 1 ∨ g = w.heap.size + 1 + 1 + 1 + 1) W.drew.drew W') => Lib.hid (show SF w.heap.size b (off + k * 4) len cap off at_ x3 x4 W' from ⟨H0.out.drew.drew.only o (by omega), H1.out.drew.drew.only o (by omega), (KeepsC.of_only o).cell HSE.out.2.2.1 (by intro h; simp only at h; omega), (KeepsC.of_only o).cell HSE.out.2.2.2.1 (by intro h; simp only at h; omega), Nat.lt_of_lt_of_le hbl o.size⟩)
        refine wpAnyZI_one (fun _ => trivial) (i := 10) (by kernel_rfl) rfl (fun K hK => ?_)
        go_simp
        refine hK.out _ _ (fun _ _ => ?_) ?_
        (focus exact (SAl _ (Only.setCell (Only.refl _ _) (fun _ => .inl rfl) _)).out)
        clear hK K
        refine wpAnyZI_one (fun _ => trivial) (i := 11) (by kernel_rfl) rfl (fun K hK => ?_)
        go_simp
        refine hK.out _ _ (fun _ _ => ?_) ?_
        (focus exact (SAl _ (Only.setCell (Only.setCell (Only.refl _ _) (fun _ => .inl rfl) _) (fun _ => .inr (.inl rfl)) _)).out)
        clear hK K
        refine wpAnyZI_one (fun _ => trivial) (i := 12) (by kernel_rfl) rfl (fun K hK => ?_)
        go_simp
        refine hK.out _ _ (fun _ _ => ?_) ?_
        (focus exact (SAl _ (Only.setCell (Only.setCell (Only.setCell (Only.refl _ _) (fun _ => .inl rfl) _) (fun _ => .inr (.inl rfl)) _) (fun _ => .inr (.inr rfl)) _)).out)
        clear hK K
        refine wpAnyZI_done (by kernel_rfl) ?_ _
        gi_wp2
        refine ⟨((((KeepsOthers.setCell _ _ _).trans (KeepsOthers.setCell _ _ _)).trans (KeepsOthers.setCell _ _ _)).trans ((KeepsOthers.drew _).trans (KeepsOthers.drew _))).from _, ⟨rfl, pre, ⟨k, hk⟩, ⟨x1, x2, x3, x4⟩, rfl, NO.out, HX.out, HT.out, ?_, ?_, ?_⟩, ?_⟩
        · exact (((H2.out.put 0 _).far (p := ⟨w.heap.size + 1 + 1 + 1, 0, none⟩) (by intro h; simp only at h; omega) _).far (p := ⟨w.heap.size + 1 + 1 + 1 + 1, 0, none⟩) (by intro h; simp only at h; omega) _).drew.drew
        · exact (((H3.out.far (p := ⟨w.heap.size + 1 + 1, 0, none⟩) (by intro h; simp only at h; omega) _).put 0 _).far (p := ⟨w.heap.size + 1 + 1 + 1 + 1, 0, none⟩) (by intro h; simp only at h; omega) _).drew.drew
        · exact (((H4.out.far (p := ⟨w.heap.size + 1 + 1, 0, none⟩) (by intro h; simp only at h; omega) _).far (p := ⟨w.heap.size + 1 + 1 + 1, 0, none⟩) (by intro h; simp only at h; omega) _).put 0 _).drew.drew
        · exact (((HB.out.setCell (p := ⟨w.heap.size + 1 + 1, 0, none⟩) (show w.heap.size ≤ w.heap.size + 1 + 1 by omega) _).setCell (p := ⟨w.heap.size + 1 + 1 + 1, 0, none⟩) (show w.heap.size ≤ w.heap.size + 1 + 1 + 1 by omega) _).setCell (p := ⟨w.heap.size + 1 + 1 + 1 + 1, 0, none⟩) (show w.heap.size ≤ w.heap.size + 1 + 1 + 1 + 1 by omega) _).drew.drew
      · have NE := ne (fun h => by obtain ⟨-, y, hy, hlt⟩ := h; rw [HX.out] at hy; injection hy with hy; subst hy; rw [HLP.out] at hlt; exact n3 hlt)
        have f2 : decide (at_ - atP ps k < L) = false := decide_eq_false n3
        clear ne hk2 n3
        gi_wp2
        refine wpIn_region_zone (SF w.heap.size b (off + k * 4) len cap off at_ x3 x4) (fun j => true) (by kernel_rfl) ?_
        refine wpAnyZI_take (fun _ => trivial) (by kernel_rfl) (i := 0) (v := ?_) rfl (by kernel_rfl) (by kernel_rfl) (by kernel_rfl) (by kernel_rfl) (fun _ _ _ h => h) (Or.inl ⟨by rfl, ?_⟩) HSD.out ?_
        (rotate_left 1; (focus (intro W hS; obtain ⟨hb0, hb1, y2, y3, yl⟩ := hS; have y0 := hb0.cell 0; have y1 := hb1.cell 0; have l0 := hb0.lt; have l1 := hb1.lt; go_simp; try with_reducible rfl)))
        try simp only [Act.put, List.setIfInBounds_toArray, List.set_cons_zero, List.set_cons_succ, List.getElem_toArray, List.getElem_cons_succ, List.getElem_cons_zero]
        refine wpAnyZI_move (fun _ => trivial) (by kernel_rfl) (i := 1) (v := ?_) rfl (by kernel_rfl) (by kernel_rfl) (by kernel_rfl) (fun _ _ _ h => h) (Or.inl ⟨by rfl, ?_⟩) ?_
        (rotate_left 1; (focus (intro W; go_simp; try with_reducible rfl)))
        try simp only [Act.put, List.setIfInBounds_toArray, List.set_cons_zero, List.set_cons_succ, List.getElem_toArray, List.getElem_cons_succ, List.getElem_cons_zero]
        refine wpAnyZI_move (fun _ => trivial) (by kernel_rfl) (i := 2) (v := ?_) rfl (by kernel_rfl) (by kernel_rfl) (by kernel_rfl) (fun _ _ _ h => h) (Or.inl ⟨by rfl, ?_⟩) ?_
        (rotate_left 1; (focus (intro W; go_simp; try with_reducible rfl)))
        try simp only [Act.put, List.setIfInBounds_toArray, List.set_cons_zero, List.set_cons_succ, List.getElem_toArray, List.getElem_cons_succ, List.getElem_cons_zero]
        refine wpAnyZI_move (fun _ => trivial) (by kernel_rfl) (i := 3) (v := ?_) rfl (by kernel_rfl) (by kernel_rfl) (by kernel_rfl) (fun _ _ _ h => h) (Or.inl ⟨by rfl, ?_⟩) ?_
        (rotate_left 1; (focus (intro W; go_simp; try with_reducible rfl)))
        try simp only [Act.put, List.setIfInBounds_toArray, List.set_cons_zero, List.set_cons_succ, List.getElem_toArray, List.getElem_cons_succ, List.getElem_cons_zero]
        refine wpAnyZI_take (fun _ => trivial) (by kernel_rfl) (i := 4) (v := ?_) rfl (by kernel_rfl) (by kernel_rfl) (by kernel_rfl) (by kernel_rfl) (fun _ _ _ h => h) (Or.inl ⟨by rfl, ?_⟩) HSD.out ?_
        (rotate_left 1; (focus (intro W hS; obtain ⟨hb0, hb1, y2, y3, yl⟩ := hS; have y0 := hb0.cell 0; have y1 := hb1.cell 0; have l0 := hb0.lt; have l1 := hb1.lt; go_simp; try with_reducible rfl)))
        try simp only [Act.put, List.setIfInBounds_toArray, List.set_cons_zero, List.set_cons_succ, List.getElem_toArray, List.getElem_cons_succ, List.getElem_cons_zero]
        refine wpAnyZI_move (fun _ => trivial) (by kernel_rfl) (i := 5) (v := ?_) rfl (by kernel_rfl) (by kernel_rfl) (by kernel_rfl) (fun _ _ _ h => h) (Or.inl ⟨by rfl, ?_⟩) ?_
        (rotate_left 1; (focus (intro W; go_simp; try with_reducible rfl)))
        try simp only [Act.put, List.setIfInBounds_toArray, List.set_cons_zero, List.set_cons_succ, List.getElem_toArray, List.getElem_cons_succ, List.getElem_cons_zero]
        refine wpAnyZI_move (fun _ => trivial) (by kernel_rfl) (i := 6) (v := ?_) rfl (by kernel_rfl) (by kernel_rfl) (by kernel_rfl) (fun _ _ _ h => h) (Or.inl ⟨by rfl, ?_⟩) ?_
        (rotate_left 1; (focus (intro W; go_simp; try with_reducible rfl)))
        try simp only [Act.put, List.setIfInBounds_toArray, List.set_cons_zero, List.set_cons_succ, List.getElem_toArray, List.getElem_cons_succ, List.getElem_cons_zero]
        refine wpAnyZI_take (fun _ => trivial) (by kernel_rfl) (i := 7) (v := ?_) rfl (by kernel_rfl) (by kernel_rfl) (by kernel_rfl) (by kernel_rfl) (fun _ _ _ h => h) (Or.inl ⟨by rfl, ?_⟩) HSD.out ?_
        (rotate_left 1; (focus (intro W hS; obtain ⟨hb0, hb1, y2, y3, yl⟩ := hS; have y0 := hb0.cell 0; have y1 := hb1.cell 0; have l0 := hb0.lt; have l1 := hb1.lt; go_simp; try with_reducible rfl)))
        try simp only [Act.put, List.setIfInBounds_toArray, List.set_cons_zero, List.set_cons_succ, List.getElem_toArray, List.getElem_cons_succ, List.getElem_cons_zero]
        refine wpAnyZI_move (fun _ => trivial) (by kernel_rfl) (i := 8) (v := ?_) rfl (by kernel_rfl) (by kernel_rfl) (by kernel_rfl) (fun _ _ _ h => h) (Or.inl ⟨by rfl, ?_⟩) ?_
        (rotate_left 1; (focus (intro W; go_simp; try with_reducible rfl)))
        try simp only [Act.put, List.setIfInBounds_toArray, List.set_cons_zero, List.set_cons_succ, List.getElem_toArray, List.getElem_cons_succ, List.getElem_cons_zero]
        refine wpAnyZI_move (fun _ => trivial) (by kernel_rfl) (i := 9) (v := ?_) rfl (by kernel_rfl) (by kernel_rfl) (by kernel_rfl) (fun _ _ _ h => h) (Or.inl ⟨by rfl, ?_⟩) ?_
        (rotate_left 1; (focus (intro W; go_simp; try with_reducible rfl)))
        try simp only [Act.put, List.setIfInBounds_toArray, List.set_cons_zero, List.set_cons_succ, List.getElem_toArray, List.getElem_cons_succ, List.getElem_cons_zero]
        refine wpAnyZI_move (fun _ => trivial) (by kernel_rfl) (i := 10) (v := ?_) rfl (by kernel_rfl) (by kernel_rfl) (by kernel_rfl) (fun _ _ _ h => h) (Or.inl ⟨by rfl, ?_⟩) ?_
        (rotate_left 1; (focus (intro W; go_simp; try with_reducible rfl)))
        try simp only [Act.put, List.setIfInBounds_toArray, List.set_cons_zero, List.set_cons_succ, List.getElem_toArray, List.getElem_cons_succ, List.getElem_cons_zero]
        refine wpAnyZI_take (fun _ => trivial) (by kernel_rfl) (i := 11) (v := ?_) rfl (by kernel_rfl) (by kernel_rfl) (by kernel_rfl) (by kernel_rfl) (fun _ _ _ h => h) (Or.inl ⟨by rfl, ?_⟩) HSD.out ?_
        (rotate_left 1; (focus (intro W hS; obtain ⟨hb0, hb1, y2, y3, yl⟩ := hS; have y0 := hb0.cell 0; have y1 := hb1.cell 0; have l0 := hb0.lt; have l1 := hb1.lt; go_simp; try with_reducible rfl)))
        try simp only [Act.put, List.setIfInBounds_toArray, List.set_cons_zero, List.set_cons_succ, List.getElem_toArray, List.getElem_cons_succ, List.getElem_cons_zero]
        refine wpAnyZI_move (fun _ => trivial) (by kernel_rfl) (i := 12) (v := ?_) rfl (by kernel_rfl) (by kernel_rfl) (by kernel_rfl) (fun _ _ _ h => h) (Or.inl ⟨by rfl, ?_⟩) ?_
        (rotate_left 1; (focus (intro W; go_simp; try with_reducible rfl)))
        try simp only [Act.put, List.setIfInBounds_toArray, List.set_cons_zero, List.set_cons_succ, List.getElem_toArray, List.getElem_cons_succ, List.getElem_cons_zero]
        refine wpAnyZI_move (fun _ => trivial) (by kernel_rfl) (i := 13) (v := ?_) rfl (by kernel_rfl) (by kernel_rfl) (by kernel_rfl) (fun _ _ _ h => h) (Or.inl ⟨by rfl, ?_⟩) ?_
        (rotate_left 1; (focus (intro W; go_simp; try with_reducible rfl)))
        try simp only [Act.put, List.setIfInBounds_toArray, List.set_cons_zero, List.set_cons_succ, List.getElem_toArray, List.getElem_cons_succ, List.getElem_cons_zero]
        refine wpAnyZI_move (fun _ => trivial) (by kernel_rfl) (i := 14) (v := ?_) rfl (by kernel_rfl) (by kernel_rfl) (by kernel_rfl) (fun _ _ _ h => h) (Or.inl ⟨by rfl, ?_⟩) ?_
        (rotate_left 1; (focus (intro W; go_simp; try with_reducible rfl)))
        try simp only [Act.put, List.setIfInBounds_toArray, List.set_cons_zero, List.set_cons_succ, List.getElem_toArray, List.getElem_cons_succ, List.getElem_cons_zero]
        refine wpAnyZI_move (fun _ => trivial) (by kernel_rfl) (i := 15) (v := ?_) rfl (by kernel_rfl) (by kernel_rfl) (by kernel_rfl) (fun _ _ _ h => h) (Or.inl ⟨by rfl, ?_⟩) ?_
        (rotate_left 1; (focus (intro W; go_simp; try with_reducible rfl)))
        try simp only [Act.put, List.setIfInBounds_toArray, List.set_cons_zero, List.set_cons_succ, List.getElem_toArray, List.getElem_cons_succ, List.getElem_cons_zero]
        refine wpAnyZI_done (by kernel_rfl) ?_ _
        gi_wp2
        exact NE.out _ _
    · have f1 : decide (atP ps k ≤ at_) = false := decide_eq_false hk2
      have NE := ne (fun h => hk2 h.1)
      clear ne hk2
      gi_wp2
      refine wpIn_region_zone (SF w.heap.size b (off + k * 4) len cap off at_ x3 x4) (fun j => true) (by kernel_rfl) ?_
      refine wpAnyZI_take (fun _ => trivial) (by kernel_rfl) (i := 0) (v := ?_) rfl (by kernel_rfl) (by kernel_rfl) (by kernel_rfl) (by kernel_rfl) (fun _ _ _ h => h) (Or.inl ⟨by rfl, ?_⟩) HSD.out ?_
      (rotate_left 1; (focus (intro W hS; obtain ⟨hb0, hb1, y2, y3, yl⟩ := hS; have y0 := hb0.cell 0; have y1 := hb1.cell 0; have l0 := hb0.lt; have l1 := hb1.lt; go_simp; try with_reducible rfl)))
      try simp only [Act.put, List.setIfInBounds_toArray, List.set_cons_zero, List.set_cons_succ, List.getElem_toArray, List.getElem_cons_succ, List.getElem_cons_zero]
      refine wpAnyZI_move (fun _ => trivial) (by kernel_rfl) (i := 1) (v := ?_) rfl (by kernel_rfl) (by kernel_rfl) (by kernel_rfl) (fun _ _ _ h => h) (Or.inl ⟨by rfl, ?_⟩) ?_
      (rotate_left 1; (focus (intro W; go_simp; try with_reducible rfl)))
      try simp only [Act.put, List.setIfInBounds_toArray, List.set_cons_zero, List.set_cons_succ, List.getElem_toArray, List.getElem_cons_succ, List.getElem_cons_zero]
      refine wpAnyZI_move (fun _ => trivial) (by kernel_rfl) (i := 2) (v := ?_) rfl (by kernel_rfl) (by kernel_rfl) (by kernel_rfl) (fun _ _ _ h => h) (Or.inl ⟨by rfl, ?_⟩) ?_
      (rotate_left 1; (focus (intro W; go_simp; try with_reducible rfl)))
      try simp only [Act.put, List.setIfInBounds_toArray, List.set_cons_zero, List.set_cons_succ, List.getElem_toArray, List.getElem_cons_succ, List.getElem_cons_zero]
      refine wpAnyZI_move (fun _ => trivial) (by kernel_rfl) (i := 3) (v := ?_) rfl (by kernel_rfl) (by kernel_rfl) (by kernel_rfl) (fun _ _ _ h => h) (Or.inl ⟨by rfl, ?_⟩) ?_
      (rotate_left 1; (focus (intro W; go_simp; try with_reducible rfl)))
      try simp only [Act.put, List.setIfInBounds_toArray, List.set_cons_zero, List.set_cons_succ, List.getElem_toArray, List.getElem_cons_succ, List.getElem_cons_zero]
      refine wpAnyZI_move (fun _ => trivial) (by kernel_rfl) (i := 4) (v := undef) rfl (by kernel_rfl) (by kernel_rfl) (by kernel_rfl) (fun _ _ _ h => h) (Or.inr ⟨by rfl, rfl⟩) ?_
      try simp only [Act.put, List.setIfInBounds_toArray, List.set_cons_zero, List.set_cons_succ, List.getElem_toArray, List.getElem_cons_succ, List.getElem_cons_zero]
      refine wpAnyZI_move (fun _ => trivial) (by kernel_rfl) (i := 5) (v := undef) rfl (by kernel_rfl) (by kernel_rfl) (by kernel_rfl) (fun _ _ _ h => h) (Or.inr ⟨by rfl, rfl⟩) ?_
      try simp only [Act.put, List.setIfInBounds_toArray, List.set_cons_zero, List.set_cons_succ, List.getElem_toArray, List.getElem_cons_succ, List.getElem_cons_zero]
      refine wpAnyZI_move (fun _ => trivial) (by kernel_rfl) (i := 6) (v := undef) rfl (by kernel_rfl) (by kernel_rfl) (by kernel_rfl) (fun _ _ _ h => h) (Or.inr ⟨by rfl, rfl⟩) ?_
      try simp only [Act.put, List.setIfInBounds_toArray, List.set_cons_zero, List.set_cons_succ, List.getElem_toArray, List.getElem_cons_succ, List.getElem_cons_zero]
      refine wpAnyZI_move (fun _ => trivial) (by kernel_rfl) (i := 7) (v := undef) rfl (by kernel_rfl) (by kernel_rfl) (by kernel_rfl) (fun _ _ _ h => h) (Or.inr ⟨by rfl, rfl⟩) ?_
      try simp only [Act.put, List.setIfInBounds_toArray, List.set_cons_zero, List.set_cons_succ, List.getElem_toArray, List.getElem_cons_succ, List.getElem_cons_zero]
      refine wpAnyZI_move (fun _ => trivial) (by kernel_rfl) (i := 8) (v := undef) rfl (by kernel_rfl) (by kernel_rfl) (by kernel_rfl) (fun _ _ _ h => h) (Or.inr ⟨by rfl, rfl⟩) ?_
      try simp only [Act.put, List.setIfInBounds_toArray, List.set_cons_zero, List.set_cons_succ, List.getElem_toArray, List.getElem_cons_succ, List.getElem_cons_zero]
      refine wpAnyZI_move (fun _ => trivial) (by kernel_rfl) (i := 9) (v := undef) rfl (by kernel_rfl) (by kernel_rfl) (by kernel_rfl) (fun _ _ _ h => h) (Or.inr ⟨by rfl, rfl⟩) ?_
      try simp only [Act.put, List.setIfInBounds_toArray, List.set_cons_zero, List.set_cons_succ, List.getElem_toArray, List.getElem_cons_succ, List.getElem_cons_zero]
      refine wpAnyZI_move (fun _ => trivial) (by kernel_rfl) (i := 10) (v := undef) rfl (by kernel_rfl) (by kernel_rfl) (by kernel_rfl) (fun _ _ _ h => h) (Or.inr ⟨by rfl, rfl⟩) ?_
      try simp only [Act.put, List.setIfInBounds_toArray, List.set_cons_zero, List.set_cons_succ, List.getElem_toArray, List.getElem_cons_succ, List.getElem_cons_zero]
      refine wpAnyZI_move (fun _ => trivial) (by kernel_rfl) (i := 11) (v := undef) rfl (by kernel_rfl) (by kernel_rfl) (by kernel_rfl) (fun _ _ _ h => h) (Or.inr ⟨by rfl, rfl⟩) ?_
      try simp only [Act.put, List.setIfInBounds_toArray, List.set_cons_zero, List.set_cons_succ, List.getElem_toArray, List.getElem_cons_succ, List.getElem_cons_zero]
      refine wpAnyZI_move (fun _ => trivial) (by kernel_rfl) (i := 12) (v := undef) rfl (by kernel_rfl) (by kernel_rfl) (by kernel_rfl) (fun _ _ _ h => h) (Or.inr ⟨by rfl, rfl⟩) ?_
      try simp only [Act.put, List.setIfInBounds_toArray, List.set_cons_zero, List.set_cons_succ, List.getElem_toArray, List.getElem_cons_succ, List.getElem_cons_zero]
      refine wpAnyZI_move (fun _ => trivial) (by kernel_rfl) (i := 13) (v := undef) rfl (by kernel_rfl) (by kernel_rfl) (by kernel_rfl) (fun _ _ _ h => h) (Or.inr ⟨by rfl, rfl⟩) ?_
      try simp only [Act.put, List.setIfInBounds_toArray, List.set_cons_zero, List.set_cons_succ, List.getElem_toArray, List.getElem_cons_succ, List.getElem_cons_zero]
      refine wpAnyZI_move (fun _ => trivial) (by kernel_rfl) (i := 14) (v := undef) rfl (by kernel_rfl) (by kernel_rfl) (by kernel_rfl) (fun _ _ _ h => h) (Or.inr ⟨by rfl, rfl⟩) ?_
      try simp only [Act.put, List.setIfInBounds_toArray, List.set_cons_zero, List.set_cons_succ, List.getElem_toArray, List.getElem_cons_succ, List.getElem_cons_zero]
      refine wpAnyZI_move (fun _ => trivial) (by kernel_rfl) (i := 15) (v := ?_) rfl (by kernel_rfl) (by kernel_rfl) (by kernel_rfl) (fun _ _ _ h => h) (Or.inl ⟨by rfl, ?_⟩) ?_
      (rotate_left 1; (focus (intro W; go_simp; try with_reducible rfl)))
      try simp only [Act.put, List.setIfInBounds_toArray, List.set_cons_zero, List.set_cons_succ, List.getElem_toArray, List.getElem_cons_succ, List.getElem_cons_zero]
      refine wpAnyZI_done (by kernel_rfl) ?_ _
      gi_wp2
      exact NE.out _ _
  case done =>
    rintro D ys W hD hys ⟨⟨hno, h0, h1, h2, h3, h4, h5⟩, hB⟩ hK
    have r2 := h2.cell 0
    have r3 := h3.cell 0
    have r4 := h4.cell 0
    have q2 := h2.free 0
    have q3 := h3.free 0
    have q4 := h4.free 0
    have z2 := h2.lt
    have z3 := h3.lt
    have z4 := h4.lt
    have NO := Lib.hid (show ∀ j, j < len → ¬ hit ps at_ j from fun j hj => by
      have : j ∈ ys.map (fun x => x.1) := by rw [hys]; exact List.mem_range.2 hj
      obtain ⟨y, hy, e⟩ := List.mem_map.1 this
      rw [← e]; exact hno y hy)
    have H2 := Lib.hid h2
    have H3 := Lib.hid h3
    have H4 := Lib.hid h4
    have HB := Lib.hid hB
    clear hno h0 h1 h2 h3 h4 h5 hys hB
    gi_wp2
    have hK' := (((KeepsOthers.setCell W ⟨w.heap.size + 1 + 1, 0, none⟩ (.int .i64 0)).trans (KeepsOthers.setCell _ ⟨w.heap.size + 1 + 1 + 1, 0, none⟩ (.int .i64 0))).trans (KeepsOthers.setCell _ ⟨w.heap.size + 1 + 1 + 1 + 1, 0, none⟩ (.int .i64 6))).same D _ hK rfl
    have k2 := ((H2.out.put 0 (.int .i64 0)).far (p := ⟨w.heap.size + 1 + 1 + 1, 0, none⟩) (by intro h; simp only at h; omega) (.int .i64 0)).far (p := ⟨w.heap.size + 1 + 1 + 1 + 1, 0, none⟩) (by intro h; simp only at h; omega) (.int .i64 6)
    have k3 := ((H3.out.far (p := ⟨w.heap.size + 1 + 1, 0, none⟩) (by intro h; simp only at h; omega) (.int .i64 0)).put 0 (.int .i64 0)).far (p := ⟨w.heap.size + 1 + 1 + 1 + 1, 0, none⟩) (by intro h; simp only at h; omega) (.int .i64 6)
    have k4 := ((H4.out.far (p := ⟨w.heap.size + 1 + 1, 0, none⟩) (by intro h; simp only at h; omega) (.int .i64 0)).far (p := ⟨w.heap.size + 1 + 1 + 1, 0, none⟩) (by intro h; simp only at h; omega) (.int .i64 0)).put 0 (.int .i64 6)
    refine ⟨by simp, .inl ⟨_, _, rfl, run_takeDeferred hK', ?_⟩⟩
    have c2 := (k2.kept (grownBy_putObj' _ D (.deferred none)) (fun r e => by cases e; exact ⟨_, hK', rfl⟩)).cell 0
    have c3 := (k3.kept (grownBy_putObj' _ D (.deferred none)) (fun r e => by cases e; exact ⟨_, hK', rfl⟩)).cell 0
    have c4 := (k4.kept (grownBy_putObj' _ D (.deferred none)) (fun r e => by cases e; exact ⟨_, hK', rfl⟩)).cell 0
    refine ⟨.tuple #[.int .i64 0, .int .i64 0, .int .i64 6], ?_, .inr ⟨NO.out, rfl⟩, (((HB.out.setCell (p := ⟨w.heap.size + 1 + 1, 0, none⟩) (show w.heap.size ≤ w.heap.size + 1 + 1 by omega) _).setCell (p := ⟨w.heap.size + 1 + 1 + 1, 0, none⟩) (show w.heap.size ≤ w.heap.size + 1 + 1 + 1 by omega) _).setCell (p := ⟨w.heap.size + 1 + 1 + 1 + 1, 0, none⟩) (show w.heap.size ≤ w.heap.size + 1 + 1 + 1 + 1 by omega) _).trans (belowK_b (w := w) (Nat.le_refl _) _ D _ _ (by simp at hD; omega) hK' rfl rfl)⟩
    simp at c2 c3 c4
    simp [results, Try.f14, go_sem, c2, c3, c4]
  case stop =>
    rintro D c pre W hD ⟨k, hk, hpre⟩ ⟨⟨rfl, ini, kk, x, e1, e2, e3, e4, h2, h3, h4⟩, hB⟩ hK
    gi_wp2
    refine ⟨by simp, .inl ⟨_, _, rfl, run_takeDeferred hK, ?_⟩⟩
    have c2 := (h2.kept (grownBy_putObj' _ D (.deferred none)) (fun r e => by cases e; exact ⟨_, hK, rfl⟩)).cell 0
    have c3 := (h3.kept (grownBy_putObj' _ D (.deferred none)) (fun r e => by cases e; exact ⟨_, hK, rfl⟩)).cell 0
    have c4 := (h4.kept (grownBy_putObj' _ D (.deferred none)) (fun r e => by cases e; exact ⟨_, hK, rfl⟩)).cell 0
    have hlow : ∀ j, j < kk.1 → ¬ hit ps at_ j := by
      subst e1
      rw [List.map_append] at hpre
      have hl := congrArg List.length hpre
      simp at hl
      obtain ⟨m, rfl⟩ : ∃ m, k = m + 1 := ⟨ini.length, by omega⟩
      rw [List.range_succ] at hpre
      obtain ⟨p1, p2⟩ := List.append_inj' hpre rfl
      have hkm : kk.1 = m := by simpa using p2
      intro j hj
      have : j ∈ ini.map (fun x => x.1) := by rw [p1]; exact List.mem_range.2 (by omega)
      obtain ⟨y, hy, e⟩ := List.mem_map.1 this
      rw [← e]; exact e2 y hy
    refine ⟨.tuple #[.int .i64 (kk.1 : Nat), .int .i64 (fIdx x at_ (atP ps kk.1)), .int .i64 0], ?_, .inl ⟨kk.1, x, kk.2, e3, e4, hlow, rfl⟩, hB.trans (belowK_b (w := w) (Nat.le_refl _) W D _ _ (by simp at hD; omega) hK rfl rfl)⟩
    simp at c2 c3 c4
    simp [results, Try.f14, go_sem, c2, c3, c4]
end Go.Proofs.Ytajcjepolfmhmaa
