/- Layer 8 (pieces): where each piece begins (an iterator): its contract; Len. -/
import Derived.RangeFuncNested
import Derived.RangeFuncBound
import Derived.RangeFuncCalls
import Derived.RangeFuncLeaves
import Derived.RangeFuncWrites
import Derived.Shelf.Abstract
import Derived.Shelf.RegionOpen
import Derived.WalkKit
import Derived.OwnWalkIn
import Derived.TacticsInMore
import Derived.LoopNIn
import Derived.LoopIn
import Derived.Test.YtajcjepolfmhmaaPiecesB
namespace Go.Proofs.Ytajcjepolfmhmaa
open Go.RowKit Go.Shelf
set_option linter.unusedVariables false
set_option linter.unusedSimpArgs false
attribute [local go_sem] Oper.semAt_some
/-- How long a piece counts. -/
def lenP (x : Pc) : Int := if 1099511627776 < (if x.n < 0 then 0 else x.n) then 1099511627776 else if x.n < 0 then 0 else x.n
def atP (l : List Pc) : Nat → Int
  | 0 => 0
  | k + 1 => atP l k + (match l[k]? with | some x => lenP x | none => 0)
theorem lenP_le (x : Pc) : 0 ≤ lenP x ∧ lenP x ≤ 1099511627776 := by unfold lenP; split <;> split <;> omega
theorem atP_le (l : List Pc) (k : Nat) : 0 ≤ atP l k ∧ atP l k ≤ k * 1099511627776 := by
  induction k with
  | zero => simp [atP]
  | succ k ih =>
    simp only [atP]
    split
    · rename_i x _; have := lenP_le x; omega
    · omega
abbrev Rd' (len : Nat) := { k : Nat // k < len }
theorem rng_succ {len k : Nat} {pre : List (Rd' len)} (h : pre.map (·.1) = List.range k) (hk : k < len) : (pre ++ [(⟨k, hk⟩ : Rd' len)]).map (fun x => x.1) = List.range (k + 1) := by rw [List.map_append, h, List.range_succ]; rfl
theorem rng_len {len k : Nat} {pre : List (Rd' len)} (h : pre.map (·.1) = List.range k) : pre.length = k := by rw [← List.length_map (f := fun x : Rd' len => x.1), h, List.length_range]
/-- All blocks of cells but those of G are as they were. -/
def KeepsC (G : Nat → Prop) (A B : World) : Prop := A.heap.size ≤ B.heap.size ∧ ∀ (i : Nat) (o : Obj), A.heap[i]? = some o → o.isCells = true → ¬ G i → B.heap[i]? = some o
theorem KeepsC.refl (G : Nat → Prop) (A : World) : KeepsC G A A := ⟨Nat.le_refl _, fun _ _ h _ _ => h⟩
theorem KeepsC.trans {G : Nat → Prop} {A B C : World} (h : KeepsC G A B) (k : KeepsC G B C) : KeepsC G A C := ⟨Nat.le_trans h.1 k.1, fun i o hi ho hg => k.2 i o (h.2 i o hi ho hg) ho hg⟩
theorem KeepsC.of_only {G : Nat → Prop} {A B : World} (h : Only G A B) : KeepsC G A B := ⟨h.size, fun i o hi _ hg => (h.block i (Array.getElem?_eq_some_iff.1 hi).1 hg).trans hi⟩
theorem KeepsC.blk {G : Nat → Prop} {A B : World} (h : KeepsC G A B) {g : Nat} {t : TypeId} {cs : List Value} (k : Blk A g t cs) (hg : ¬ G g) : Blk B g t cs := h.2 g _ k rfl hg
theorem KeepsC.putObj {G : Nat → Prop} (W : World) (l : Nat) (o o' : Obj) (h : W.heap[l]? = some o) (hc : o.isCells = false) : KeepsC G W (W.putObj l o') :=
  ⟨(grownBy_putObj' W l o').size, fun i p hi hp _ => by
    by_cases e : l = i
    · subst e
      rw [h] at hi
      injection hi with hi
      rw [hi] at hc
      rw [hc] at hp; cases hp
    · exact (World.putObj_heap_other (Ne.symm e)).trans hi⟩
theorem KeepsC.cell {G : Nat → Prop} {A B : World} (h : KeepsC G A B) {a : Addr} {v : Value} (hc : A.cell? a = some v) (hg : ¬ G a.block) : B.cell? a = some v := by
  obtain ⟨o, ho, hcl⟩ := cells_of_cell hc
  have e : B.heap[a.block]? = A.heap[a.block]? := (h.2 _ o ho hcl hg).trans ho.symm
  unfold World.cell? at *
  rw [e]
  exact hc
theorem PsAt.keepsC {G : Nat → Prop} {w w' : World} {A : Option Addr} {l : List Pc} (h : PsAt w A l) (k : KeepsC G w w') (hA : ∀ a, A = some a → ¬ G a.block) : PsAt w' A l := by
  intro i x hx
  obtain ⟨b, off, rfl, hb, h0, h1, h2, h3⟩ := h i x hx
  have hg : ¬ G b := hA _ rfl
  exact ⟨b, off, rfl, Nat.lt_of_lt_of_le hb k.1, k.cell h0 hg, k.cell h1 hg, k.cell h2 hg, k.cell h3 hg⟩
theorem lt_of_cell {w : World} {a : Addr} {v : Value} (h : w.cell? a = some v) : a.block < w.heap.size := by
  obtain ⟨o, ho, -⟩ := cells_of_cell h
  exact (Array.getElem?_eq_some_iff.1 ho).1
theorem wrap_in {a : Int} (h : IntKind.i64.wrap a = a) : wrap64 a = a := (IntWalk.i64_left a).symm.trans h
set_option maxRecDepth 100000 in
set_option maxHeartbeats 2000000 in
/-- The iterator, for every loop body that keeps the cells that it doesn't have as its own (G). -/
theorem spans1_in (n : Nat) (hn : 1 ≤ n) (l Bs len cap : Nat) (A : Option Addr) (ps : List Pc) (hl : ps.length = len) (h16 : len ≤ 16) (G : Nat → Prop) (hGB : ¬ G Bs) (hGA : ∀ a, A = some a → ¬ G a.block) (J Jx : List (Rd' len) → World → Prop)
    (W : World) (hJ : AbidesFrom W.heap.size J) (hG : ∀ g, G g → g < W.heap.size)
    (hY : ∀ pre x W1, J pre W1 → pre.length < len → YieldAt Fence.wide (n - 1) Try.prog l #[.int .i64 (x.1 : Nat), .int .i64 (atP ps x.1)] W1 fun e W' =>
      (e = .returned (.bool true) ∧ J (pre ++ [x]) W' ∧ KeepsC G W1 W') ∨ (e = .returned (.bool false) ∧ Jx (pre ++ [x]) W'))
    (hBs : W.cell? ⟨Bs, 0, none⟩ = some (.slice A len cap)) (hc : PsAt W A ps) (h0 : J [] W) :
    CallsIn Fence.wide n Try.prog 41 #[.func (.yield l) #[] #[], .pointer (some ⟨Bs, 0, none⟩)] W fun e W' => (∃ v, e = .returned v) ∧
      ((∃ ys, ys.map (·.1) = List.range len ∧ J ys W') ∨ (∃ pre, (∃ k, k ≤ len ∧ pre.map (·.1) = List.range k) ∧ Jx pre W')) := by
  have HC := Lib.hid hc
  have HL := Lib.hid hl
  have hBl := lt_of_cell hBs
  refine callsIn_of_wp Try.func41 rfl trivial ?_ rfl
  simp only [Try.ntmps41, List.size_toArray, List.length_cons, List.length_nil, Nat.reduceAdd, Nat.reduceSub, Array.replicate_succ, Array.replicate_zero, List.push_toArray, List.append_toArray, List.nil_append, List.cons_append]
  clear hc hl
  gi_wp2
  gi_loopw [3, 8] (fun av iv wr => ∃ (k : Nat) (pre : List (Rd' len)), k ≤ len ∧ iv = .int .i64 k ∧ av = .int .i64 (atP ps k) ∧ pre.map (·.1) = List.range k ∧ J pre wr ∧ KeepsC G W wr)
    (fun _ iv _ => len - (intOf iv).toNat)
  case atStart => exact ⟨0, [], Nat.zero_le _, rfl, rfl, rfl, h0, KeepsC.refl _ _⟩
  case round =>
    obtain ⟨k, pre, hk, rfl, rfl, hpre, hJs, hnx⟩ := hrel
    have HNX := Lib.hid hnx
    have HPR := Lib.hid hpre
    clear hpre
    by_cases hlt : k < len
    · obtain ⟨x, hx⟩ : ∃ x, ps[k]? = some x := ⟨_, List.getElem?_eq_getElem (by have := HL.out; omega)⟩
      obtain ⟨b, off, rfl, hb, c0, c1, c2, c3⟩ := HC.out k x hx
      have hgb : ¬ G b := hGA _ rfl
      have c0 := hnx.cell c0 hgb
      have c1 := hnx.cell c1 hgb
      have c2 := hnx.cell c2 hgb
      have c3 := hnx.cell c3 hgb
      have hbl := lt_of_cell c0
      have g1 : IntKind.i64.wrap ((k : Int) + 1) = k + 1 := IntWalk.i64_in _ (by omega)
      have AT := Lib.hid (show atP ps (k + 1) = atP ps k + lenP x by simp only [atP, hx])
      have g2 : IntKind.i64.wrap (atP ps k + lenP x) = atP ps k + lenP x := by
        have h1 := atP_le ps k
        have h2 := lenP_le x
        exact IntWalk.i64_in _ (by omega)
      have G2 := Lib.hid (show wrap64 (atP ps k + lenP x) = atP ps k + lenP x from wrap_in g2)
      clear g2
      obtain ⟨x1, x2, x3, x4⟩ := x
      simp only at c0 c1 c2 c3
      have hJa : J pre (wr.alloc (.cells #[.int .i64 x1, .int .u64 x2, .int .i64 x3, .int .i64 x4] 42)) := hJ _ wr _ none hJs (World.grownBy_alloc _ _ _) (fun r e => by cases e)
      obtain ⟨fn, tmps, assign, body, hy, hR⟩ := hY pre ⟨k, hlt⟩ _ hJa (by rw [rng_len HPR.out]; exact hlt)
      dsimp only at hy
      gi_wp2
      refine hR.mono ?_
      rintro e W3 (⟨rfl, hJ3, hk3⟩ | ⟨rfl, hJx3⟩)
      · have b3 : W3.cell? ⟨wr.heap.size, 3, none⟩ = some (.int .i64 x4) := hk3.cell (show (wr.alloc (.cells #[.int .i64 x1, .int .u64 x2, .int .i64 x3, .int .i64 x4] 42)).cell? ⟨wr.heap.size, 3, none⟩ = _ from (Blk.new wr 42 [.int .i64 x1, .int .u64 x2, .int .i64 x3, .int .i64 x4]).cell 3) (fun h => by have := hG _ h; have := HNX.out.1; simp at *; omega)
        have hbl3 := lt_of_cell b3
        have KK := Lib.hid (HNX.out.trans ((KeepsC.of_only (Only.alloc (Only.refl G wr) _)).trans hk3))
        clear hk3 hJa hy hR hJs hnx
        gi_wp2
        go_roundw
        case rel => exact ⟨k + 1, pre ++ [⟨k, hlt⟩], by omega, by simp, by rw [AT.out]; exact congrArg (Value.int .i64) G2.out, rng_succ HPR.out hlt, hJ3, KK.out⟩
        case measure => simp [intOf]; omega
      · gi_wp2
        refine bodyPost_ret (results_none rfl _ _ _) rfl ?_
        exact ⟨⟨_, rfl⟩, .inr ⟨_, ⟨k + 1, by omega, rng_succ HPR.out hlt⟩, hJx3⟩⟩
    · obtain rfl : k = len := by omega
      gi_wp2
      go_end0
      exact ⟨⟨_, rfl⟩, .inl ⟨_, HPR.out, hJs⟩⟩
/-- The iterator that spans hands back. -/
theorem spans_stops (n : Nat) (hn : 1 ≤ n) (Bs len cap : Nat) (A : Option Addr) (ps : List Pc) (hl : ps.length = len) (h16 : len ≤ 16) (G : Nat → Prop) (hGB : ¬ G Bs) (hGA : ∀ a, A = some a → ¬ G a.block) (w : World) (hG : ∀ g, G g → g < w.heap.size)
    (hBs : w.cell? ⟨Bs, 0, none⟩ = some (.slice A len cap)) (hc : PsAt w A ps) :
    SeqStopsK Fence.wide n Try.prog 41 #[.pointer (some ⟨Bs, 0, none⟩)] (fun x : Rd' len => #[Value.int .i64 (x.1 : Nat), Value.int .i64 (atP ps x.1)]) (KeepsC G)
      (fun ys => ys.map (·.1) = List.range len) (fun pre => ∃ k, k ≤ len ∧ pre.map (·.1) = List.range k) len w := fun l J Jx W hW hJ _ hY h0 =>
  spans1_in n hn l Bs len cap A ps hl h16 G hGB hGA J Jx W hJ (fun g h => Nat.lt_of_lt_of_le (hG g h) hW.size) hY ((hW.cell (p := ⟨Bs, 0, none⟩) (lt_of_cell hBs)).trans hBs) (hc.below hW) h0
theorem keepsC_b {G : Nat → Prop} {w : World} (W : World) (l : Nat) (o o' : Obj) (_ : w.heap.size ≤ l) (h : W.heap[l]? = some o) (hc : o.isCells = false) (_ : o.isWalk = false) : KeepsC G W (W.putObj l o') := KeepsC.putObj W l o o' h hc
theorem spans_in (n : Nat) (A : Option Addr) (len cap : Nat) (w : World) :
    CallsIn Fence.wide n Try.prog 28 #[.slice A len cap] w fun e w' => e = .returned (.func (.func 41) #[] #[.pointer (some ⟨w.heap.size, 0, none⟩)]) ∧ w' = w.alloc (.cells #[.slice A len cap] 22) := by
  refine callsIn_of_wp Try.func28 rfl trivial ?_ rfl
  simp only [Try.ntmps28, List.size_toArray, List.length_cons, List.length_nil, Nat.reduceAdd, Nat.reduceSub, Array.replicate_succ, Array.replicate_zero, List.push_toArray, List.append_toArray, List.nil_append, List.cons_append]
  gi_wp2
  go_ret
  exact ⟨rfl, rfl⟩
theorem PsAt.kept {W W' : World} {row : Option Nat} {A : Option Addr} {l : List Pc} (h : PsAt W A l) (hg : W.grownBy W' row) (hr : ∀ r, row = some r → ∃ o : Obj, W.heap[r]? = some o ∧ o.isCells = false) : PsAt W' A l := by
  intro i x hx
  obtain ⟨b, off, e, hb, h0, h1, h2, h3⟩ := h i x hx
  exact ⟨b, off, e, Nat.lt_of_lt_of_le hb hg.size, cell_kept h0 hg hr, cell_kept h1 hg hr, cell_kept h2 hg hr, cell_kept h3 hg hr⟩
theorem last_all {len : Nat} {pre : List (Rd' len)} {f : Nat → Int} (h0 : f 0 = 0) (h : pre.map (fun x => x.1) = List.range len) : (match pre.getLast? with | some k => f (k.1 + 1) | none => 0) = f len := by
  cases e : pre.getLast? with
  | none =>
    have : pre = [] := by simpa using e
    subst this
    have := congrArg List.length h
    simp at this
    rw [← this, h0]
  | some k =>
    have h2 : (pre.map (fun x => x.1)).getLast? = some k.1 := by rw [List.getLast?_map, e]; rfl
    rw [h] at h2
    cases len with
    | zero => exact absurd k.2 (by omega)
    | succ m =>
      rw [List.range_succ, List.getLast?_append] at h2
      simp at h2
      simp [← h2]
set_option maxRecDepth 100000 in
set_option maxHeartbeats 2000000 in
/-- How long a list is. -/
theorem len_any (w : World) (A : Option Addr) (len cap : Nat) (ps : List Pc) (hl : ps.length = len) (h16 : len ≤ 16) (hc : PsAt w A ps) (hA : ∀ a, A = some a → a.block < w.heap.size) :
    Calls Try.prog 12 #[.slice A len cap] w fun e w' => e = .returned (.int .i64 (atP ps len)) ∧ Below w.heap.size w w' := by
  refine (callsIn_wide (n := 3)).1 ?_
  refine callsIn_of_wp_marks Try.func12 rfl trivial ?_ rfl
  simp only [Try.ntmps12, List.size_toArray, List.length_cons, List.length_nil, Nat.reduceAdd, Nat.reduceSub, Array.replicate_succ, Array.replicate_zero, List.push_toArray, List.append_toArray, List.nil_append, List.cons_append]
  gi_wp2_with (first | (gi_at_call 28; refine (spans_in _ _ _ _ _).mono ?_; rintro e w' ⟨rfl, rfl⟩) | (refine ⟨trivial, ?_⟩; gi_at_call 28; refine (spans_in _ _ _ _ _).mono ?_; rintro e w' ⟨rfl, rfl⟩))
  have bN := Boxed.new (w.alloc (.cells #[.slice A len cap] 22)) 3 (.int .i64 0)
  have bL := Boxed.new w 22 (.slice A len cap)
  have bS := Boxed.new ((w.alloc (.cells #[.slice A len cap] 22)).alloc (.cells #[.int .i64 0] 3)) 22 (.slice A len cap)
  rw [World.size_alloc] at bN
  rw [World.size_alloc, World.size_alloc] at bS
  have hB0 : Below w.heap.size w (((w.alloc (.cells #[.slice A len cap] 22)).alloc (.cells #[.int .i64 0] 3)).alloc (.cells #[.slice A len cap] 22)) := (((Below.refl _ w).alloc (Nat.le_refl _) _).alloc (by simp) _).alloc (by simp; omega) _
  refine wpIn_rangeFunc_ownG rfl (by decide) (gf := 41) (lb := #[.pointer (some ⟨w.heap.size + 1 + 1, 0, none⟩)]) rfl trivial (enters_of Try.func41 (by kernel_rfl) rfl)
    (spans_stops 2 (by decide) (w.heap.size + 1 + 1) len cap A ps hl h16 (fun g => g = w.heap.size + 1) (by omega) (fun a e h => by have := hA a e; omega) _ (fun g h => by simp; omega) bS.cell (hc.below hB0)) KeepsC.trans keepsC_b (Below.refl _ _) (fun _ => rfl)
    (fun pre W => (W.cell? ⟨w.heap.size + 1, 0, none⟩ = some (.int .i64 (match pre.getLast? with | some k => atP ps (k.1 + 1) | none => 0)) ∧ W.frozen? ⟨w.heap.size + 1, 0, none⟩ = false ∧ W.cell? ⟨w.heap.size, 0, none⟩ = some (.slice A len cap) ∧ PsAt W A ps) ∧ Below w.heap.size w W)
    (fun _ _ _ => False)
    (OwnFrom.and (Own.from (fun s A B row hs hg hr => ⟨cell_kept hs.1 hg hr, (frozen_kept hs.1 hg hr).trans hs.2.1, cell_kept hs.2.2.1 hg hr, hs.2.2.2.kept hg hr⟩) _) (ownFrom_below (Nat.le_refl _) (by simp; omega)))
    (fun _ _ _ _ _ hs _ _ => hs)
    ⟨⟨(bN.alloc _).cell, (bN.alloc _).frozen, ((bL.alloc _).alloc _).cell, hc.below hB0⟩, hB0⟩
    (fun x => { tmps := #[.slice A len cap, .pointer (some ⟨w.heap.size, 0, none⟩), .int .i64 0, .pointer (some ⟨w.heap.size + 1, 0, none⟩), .int .i64 (x.1 : Nat), .int .i64 (atP ps x.1), .slice A len cap, .func (.func 41) #[] #[.pointer (some ⟨w.heap.size + 1 + 1, 0, none⟩)], .int .i64 (x.1 : Nat), .int .i64 (atP ps x.1), undef, undef, undef, undef, undef, undef, undef, undef, undef, undef], defers := [] }) ?assign ?body ?done ?stop
  case assign =>
    intro l x W K hK
    gi_wp2
    exact hK
  case body =>
    rintro l pre ⟨k, hk⟩ W ⟨⟨h1, h2, h3, h4⟩, hB⟩ _
    obtain ⟨x, hx⟩ : ∃ x, ps[k]? = some x := ⟨_, List.getElem?_eq_getElem (by omega)⟩
    obtain ⟨b, off, rfl, hb, c0, c1, c2, c3⟩ := h4 k x hx
    have hAb : b < w.heap.size := hA _ rfl
    have g2 : wrap64 (atP ps k + lenP x) = atP ps k + lenP x := by
      have h1 := atP_le ps k
      have h2 := lenP_le x
      exact IntWalk.wrap64_in _ (by omega)
    have AT := Lib.hid (show atP ps (k + 1) = atP ps k + lenP x by simp only [atP, hx])
    have G2 := Lib.hid g2
    have hkl : (k : Int) < (len : Int) := by omega
    have hbl := lt_of_cell c0
    have hl1 := lt_of_cell h1
    have P4 := Lib.hid h4
    have H1 := Lib.hid h1
    have H2 := Lib.hid h2
    have H3 := Lib.hid h3
    have HB := Lib.hid hB
    obtain ⟨x1, x2, x3, x4⟩ := x
    simp only at c0 c1 c2 c3
    clear hx g2 h4 hB c0 c1 c2
    have fin : Hid (∀ (aa : Act) v, v = atP ps k + lenP ⟨x1, x2, x3, x4⟩ → ownPostG (w.heap.size + 1 + 1 + 1) (KeepsC fun g => g = w.heap.size + 1) (fun (pre : List (Rd' len)) W => (W.cell? ⟨w.heap.size + 1, 0, none⟩ = some (.int .i64 (match pre.getLast? with | some k => atP ps (k.1 + 1) | none => 0)) ∧ W.frozen? ⟨w.heap.size + 1, 0, none⟩ = false ∧ W.cell? ⟨w.heap.size, 0, none⟩ = some (.slice (some ⟨b, off, none⟩) len cap) ∧ PsAt W (some ⟨b, off, none⟩) ps) ∧ Below w.heap.size w W) (fun _ _ _ => False) (pre ++ [⟨k, hk⟩]) W Exit.normal aa (W.setCell ⟨w.heap.size + 1, 0, none⟩ (.int .i64 v))) := by
      rintro aa v rfl
      have BV := (Below.refl w.heap.size W).setCell (p := ⟨w.heap.size + 1, 0, none⟩) (by simp) (.int .i64 (atP ps k + lenP ⟨x1, x2, x3, x4⟩))
      have KC : KeepsC (fun g => g = w.heap.size + 1) W (W.setCell ⟨w.heap.size + 1, 0, none⟩ (.int .i64 (atP ps k + lenP ⟨x1, x2, x3, x4⟩))) := KeepsC.of_only (Only.setCell (F := fun g => g = w.heap.size + 1) (Only.refl _ _) (fun _ => rfl) _)
      refine ⟨(KeepsOthers.setCell _ _ _).from _, KC, ⟨⟨?_, by rw [World.frozen?_setCell]; exact H2.out, ?_, ?_⟩, HB.out.trans BV⟩⟩
      · rw [List.getLast?_append]
        simp only [List.getLast?_singleton, Option.some_or]
        rw [AT.out]
        exact World.cell?_setCell_same' _ _ _ (by rw [H1.out]; rfl)
      · exact KC.cell H3.out (by show ¬ w.heap.size = w.heap.size + 1; omega)
      · exact P4.out.keepsC KC (fun a e h => by have := hA a e; omega)
    gi_wp2
    all_goals exact fin.out _ _ (by have hb := atP_le ps k; unfold lenP; simp only; rw [IntWalk.wrap64_in _ (by omega)]; (repeat' split) <;> omega)
  case done =>
    rintro D ys W hD hys ⟨⟨h1, h2, h3, h4⟩, hB⟩ hK
    rw [last_all (f := atP ps) rfl hys] at h1
    have hl1 := lt_of_cell h1
    gi_wp2
    refine ⟨by simp, .inl ⟨_, _, rfl, run_takeDeferred hK, ?_⟩⟩
    exact ⟨_, results_tmp rfl _ _ _, rfl, hB.trans (belowK_b (w := w) (Nat.le_refl _) W D _ _ (by simp at hD; omega) hK rfl rfl)⟩
  case stop =>
    rintro D c pre W _ _ h _
    exact h.elim
end Go.Proofs.Ytajcjepolfmhmaa
