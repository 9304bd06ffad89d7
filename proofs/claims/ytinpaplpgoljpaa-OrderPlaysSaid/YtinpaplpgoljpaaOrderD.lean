/- Layer 18 (order): slices.Insert and slices.Delete of requests. -/
import Derived.Test.YtinpaplpgoljpaaOrderC
import Derived.Test.YtinpaplpgoljpaaWSlc
import Derived.IntWalk
namespace Go.Proofs.Ytinpaplpgoljpaa
open Go.RowKit
set_option linter.unusedVariables false
set_option linter.unusedSimpArgs false
theorem infoW : (Try.prog.info? 30).map (fun i => (i.zero, i.size, i.bytes)) = some (some (.agg #[.int .i64 0, .int .u64 0, .int .i64 0]), 3, 24) := by kernel_rfl
theorem sizeW : (Try.prog.info? 30).map (·.size) = some 3 := by kernel_rfl
theorem szW (w : World) : (Go.sizeOf 30).run Try.prog w = .ok 3 w := by
  obtain ⟨i0, hi, h0, h1, h2⟩ := info_parts infoW
  simp [sizeOf, typeInfo, hi, h1]
theorem flatW_cell (l : List Wt) : ∀ u ∈ flatW l, u.oneCell' = true := by
  induction l with
  | nil => intro u hu; cases hu
  | cons x r ih =>
    intro u hu
    simp only [flatW, List.mem_cons] at hu
    rcases hu with rfl | rfl | rfl | hu
    · rfl
    · rfl
    · rfl
    · exact ih u hu
theorem flatW_drop (l : List Wt) : ∀ i, (flatW l).drop (i * 3) = flatW (l.drop i) := by
  induction l with
  | nil => intro i; simp [flatW]
  | cons x r ih =>
    intro i
    cases i with
    | zero => simp
    | succ i =>
      rw [show (i + 1) * 3 = i * 3 + 1 + 1 + 1 by omega, List.drop_succ_cons, ← ih i]
      rfl
theorem flatW_take (l : List Wt) : ∀ i, (flatW l).take (i * 3) = flatW (l.take i) := by
  induction l with
  | nil => intro i; simp [flatW]
  | cons x r ih =>
    intro i
    cases i with
    | zero => simp [flatW]
    | succ i =>
      rw [show (i + 1) * 3 = i * 3 + 1 + 1 + 1 by omega]
      show _ :: _ :: _ :: (flatW r).take (i * 3) = _
      rw [ih i]
      rfl
theorem flatW_cons (t : Wt) (l : List Wt) : flatW (t :: l) = wc t ++ flatW l := rfl
/-- The front of a slice. -/
theorem Slc.front3 {w : World} {e : TypeId} {A : Option Addr} {size n c : Nat} {xs : List Value} (h : Slc w e size (.slice A n c) n xs) {m : Nat} (hm : m ≤ n) (h0 : 0 < n) : Slc w e size (.slice A m c) m (xs.take (m * size)) := by
  obtain ⟨hl, h⟩ := h
  have hb : m * size ≤ n * size := Nat.mul_le_mul_right _ hm
  rcases h with ⟨h1, h2⟩ | ⟨g, off, c', cs, e1, hh, hc, hx, hs, hj⟩
  · omega
  · injection e1 with e1 e2 e3
    subst e1 e3
    refine ⟨by rw [List.length_take, hl]; omega, .inr ⟨g, off, c, cs, rfl, hh, by omega, hx, hs, fun j u hu => ?_⟩⟩
    rw [List.getElem?_take] at hu
    split at hu
    · exact hj j u hu
    · cases hu
/-- The cells, behind the two copies. -/
theorem ins_cells {l : List Wt} {n i : Nat} (t : Wt) (hl : l.length = n) (hi : i < n) {J X1 X2 : List Value} (hJ : J.length = 3)
    (h1 : X1 = (flatW l ++ J).take ((i + 1) * 3) ++ flatW (l.drop i) ++ (flatW l ++ J).drop ((i + 1) * 3 + (flatW (l.drop i)).length)) (h2 : X2 = X1.take (i * 3) ++ wc t ++ X1.drop (i * 3 + (wc t).length)) :
    X2 = flatW (l.take i ++ t :: l.drop i) := by
  have hL : (flatW l).length = n * 3 := by rw [flatW_len, hl]
  have hD : (flatW (l.drop i)).length = (n - i) * 3 := by rw [flatW_len, List.length_drop, hl]
  have e0 : (flatW l ++ J).drop ((i + 1) * 3 + (flatW (l.drop i)).length) = [] := List.drop_of_length_le (by rw [List.length_append, hL, hD, hJ]; omega)
  have e1 : (flatW l ++ J).take ((i + 1) * 3) = (flatW l).take ((i + 1) * 3) := List.take_append_of_le_length (by rw [hL]; omega)
  rw [e0, List.append_nil, e1] at h1
  have hT : ((flatW l).take ((i + 1) * 3)).length = (i + 1) * 3 := by rw [List.length_take, hL]; omega
  have e2 : X1.take (i * 3) = flatW (l.take i) := by
    rw [h1, List.take_append_of_le_length (by rw [hT]; omega), List.take_take, show min (i * 3) ((i + 1) * 3) = i * 3 by omega, flatW_take]
  have e3 : X1.drop (i * 3 + (wc t).length) = flatW (l.drop i) := by
    rw [h1, show i * 3 + (wc t).length = (i + 1) * 3 by show i * 3 + 3 = _; omega, List.drop_append, List.drop_of_length_le (by rw [hT]; omega), hT, Nat.sub_self]
    rfl
  rw [h2, e2, e3, flatW_app, flatW_cons, List.append_assoc]
/-- The cells of the new row, behind the two copies. -/
theorem grow_cells {l : List Wt} {n i : Nat} (t : Wt) (hl : l.length = n) (hi : i < n) {Z X0 X1 X2 : List Value} (hZ : Z.length = (n + 1 - i) * 3) (h0 : X0 = (flatW l).take (i * 3) ++ Z)
    (h1 : X1 = X0.take (i * 3) ++ wc t ++ X0.drop (i * 3 + (wc t).length)) (h2 : X2 = X1.take ((i + 1) * 3) ++ flatW (l.drop i) ++ X1.drop ((i + 1) * 3 + (flatW (l.drop i)).length)) :
    X2 = flatW (l.take i ++ t :: l.drop i) := by
  have hL : (flatW l).length = n * 3 := by rw [flatW_len, hl]
  have hD : (flatW (l.drop i)).length = (n - i) * 3 := by rw [flatW_len, List.length_drop, hl]
  have hT : ((flatW l).take (i * 3)).length = i * 3 := by rw [List.length_take, hL]; omega
  have hX0 : X0.length = (n + 1) * 3 := by rw [h0, List.length_append, hT, hZ]; omega
  have e0 : X0.take (i * 3) = flatW (l.take i) := by rw [h0, List.take_append_of_le_length (by rw [hT]; omega), List.take_take, Nat.min_self, flatW_take]
  have hW : (wc t).length = 3 := rfl
  have hF : (flatW (l.take i)).length = i * 3 := by rw [flatW_len, List.length_take, hl]; omega
  have hX1 : X1.length = (n + 1) * 3 := by rw [h1, List.length_append, List.length_append, e0, hF, List.length_drop, hX0, hW]; omega
  have e1 : X1.take ((i + 1) * 3) = flatW (l.take i) ++ wc t := by
    rw [h1, e0, List.take_append_of_le_length (by rw [List.length_append, hF, hW]; omega), List.take_of_length_le (by rw [List.length_append, hF, hW]; omega)]
  have e5 : X1.drop ((i + 1) * 3 + (flatW (l.drop i)).length) = [] := List.drop_of_length_le (by rw [hX1, hD]; omega)
  rw [h2, e1, e5, List.append_nil, flatW_app, flatW_cons, List.append_assoc]
/-- What Insert hands back. -/
def InsPost (w : World) (A : Option Addr) (n c : Nat) (l : List Wt) (e : Ending) (w' : World) : Prop :=
  ∃ A' c', e = .returned (.slice A' l.length c') ∧ Slc w' 30 3 (.slice A' l.length c') l.length (flatW l) ∧ Only (fun g => (Value.slice A n c).ownBlock = some g) w w' ∧ ∀ g, (Value.slice A' l.length c').ownBlock = some g → (Value.slice A n c).ownBlock = some g ∨ w.heap.size ≤ g
set_option maxRecDepth 100000 in
set_option maxHeartbeats 1000000 in
/-- Insert at the end. -/
theorem insert_end (w : World) (A : Option Addr) (n c : Nat) (l : List Wt) (t : Wt) (B : Nat) (hs : Slc w 30 3 (.slice A n c) n (flatW l)) (hn : n ≤ 63) (hB : Blk w B 30 (wc t)) :
    Calls Try.prog 28 #[.slice A n c, .int .i64 n, .slice (some ⟨B, 0, none⟩) 1 1] w (InsPost w A n c (l ++ [t])) := by
  have HL := Lib.hid hs.wlen
  have HS := Lib.hid hs
  have hsrc : Src w 3 (some ⟨B, 0, none⟩) 1 (flatW [t]) := ⟨rfl, .inr ⟨_, rfl, fun j u hu => by
    have e : (⟨B, 0, none⟩ : Addr).add j = ⟨B, j, none⟩ := by cases j <;> simp [Addr.add]
    rw [e, hB.cell j]
    exact hu⟩⟩
  have SRC := Lib.hid hsrc
  obtain ⟨i0, hi0, hz0, hz1, hz2⟩ := info_parts infoW
  have H1 := Lib.hid (flatW_cell [t])
  obtain ⟨A2, c2, e2, hnc⟩ := hs.shape
  injection e2 with e3 e4 e5
  subst e3 e5
  have hm := hs.2
  clear hs hsrc hB e4
  have fin : ∀ (v' : Value) (w' : World), Slc w' 30 3 v' (n + 1) (flatW l ++ flatW [t]) → Only (fun g => (Value.slice A n c).ownBlock = some g) w w' → (v'.ownBlock = (Value.slice A n c).ownBlock ∨ v'.ownBlock = some w.heap.size) → InsPost w A n c (l ++ [t]) (.returned v') w' := by
    intro v' w' s o a
    have hl : (l ++ [t]).length = n + 1 := by rw [List.length_append, HL.out]; rfl
    obtain ⟨A4, c4, e4, -⟩ := s.shape
    subst e4
    refine ⟨A4, c4, by rw [hl], by rw [hl, flatW_app]; exact s, o, fun g hg => ?_⟩
    rw [hl] at hg
    rcases a with a | a
    · exact .inl (a ▸ hg)
    · rw [a] at hg; injection hg with hg; exact .inr (by omega)
  have FIN := Lib.hid fin
  clear fin
  rcases hm with ⟨e, e'⟩ | ⟨g, off, c', cs, e, hh, hc, hx, -, -⟩
  · injection e with e1 e2 e3
    subst e1 e2 e3
    clear e'
    go_enter Try.func28, Try.ntmps28
    go_wp2_with (at_builtin; refine wpList_append_slc _ rfl (.tmp 23) (.tmp 24) _ rfl 30 i0 _ 3 24 Try.underlying22 hi0 hz0 hz1 hz2 rfl (by omega) (.slice none 0 0) 0 (flatW l) rfl HS.out (some ⟨B, 0, none⟩) 1 1 (flatW [t]) rfl SRC.out H1.out (by omega) (by simp only [maxLen]; omega) ?_)
    intro v2 w2 hs2 ho2 hat2
    have F2 := Lib.hid (FIN.out v2 w2 hs2 ho2 hat2)
    clear hs2 ho2 hat2
    go_wp2_with fail
    go_ret
    exact F2.out
  · injection e with e1 e2 e3
    subst e1 e3
    have hmx : (c : Int) ≤ 9223372036854775807 := by simp only [maxLen] at hx; omega
    clear hh hx e2
    by_cases hcn : c = n
    · subst hcn
      go_enter Try.func28, Try.ntmps28
      go_wp2_with (at_builtin; refine wpList_append_slc _ rfl (.tmp 23) (.tmp 24) _ rfl 30 i0 _ 3 24 Try.underlying22 hi0 hz0 hz1 hz2 rfl (by omega) (.slice (some ⟨g, off, none⟩) c c) c (flatW l) rfl HS.out (some ⟨B, 0, none⟩) 1 1 (flatW [t]) rfl SRC.out H1.out (by omega) (by simp only [maxLen]; omega) ?_)
      intro v2 w2 hs2 ho2 hat2
      have F2 := Lib.hid (FIN.out v2 w2 hs2 ho2 hat2)
      clear hs2 ho2 hat2
      go_wp2_with fail
      go_ret
      exact F2.out
    · have hcn2 : ¬ n = c := fun e => hcn e.symm
      go_enter Try.func28, Try.ntmps28
      go_wp2_with (at_builtin; refine wpList_append_slc _ rfl (.tmp 23) (.tmp 24) _ rfl 30 i0 _ 3 24 Try.underlying22 hi0 hz0 hz1 hz2 rfl (by omega) (.slice (some ⟨g, off, none⟩) n c) n (flatW l) rfl HS.out (some ⟨B, 0, none⟩) 1 1 (flatW [t]) rfl SRC.out H1.out (by omega) (by simp only [maxLen]; omega) ?_)
      intro v2 w2 hs2 ho2 hat2
      have F2 := Lib.hid (FIN.out v2 w2 hs2 ho2 hat2)
      clear hs2 ho2 hat2
      go_wp2_with fail
      go_ret
      exact F2.out
set_option maxRecDepth 100000 in
set_option maxHeartbeats 400000 in
/-- Insert within, where there is room. -/
theorem insert_room (w : World) (g off n c i : Nat) (l : List Wt) (t : Wt) (B : Nat) (hs : Slc w 30 3 (.slice (some ⟨g, off, none⟩) n c) n (flatW l)) (hn : n ≤ 63) (hi : i < n) (hroom : n + 1 ≤ c) (hB : Blk w B 30 (wc t)) (hne : g ≠ B) :
    Calls Try.prog 28 #[.slice (some ⟨g, off, none⟩) n c, .int .i64 i, .slice (some ⟨B, 0, none⟩) 1 1] w (InsPost w (some ⟨g, off, none⟩) n c (l.take i ++ t :: l.drop i)) := by
  have HL := Lib.hid hs.wlen
  have hmx : (c : Int) ≤ 9223372036854775807 := by
    rcases hs.2 with ⟨e, -⟩ | ⟨g', off', c', cs, e, hh, hc, hx, -, -⟩
    · cases e
    · injection e with e1 e2 e3
      subst e3
      simp only [maxLen] at hx; omega
  have f1 : ((i : Int) == n) = false := beq_eq_false_iff_ne.2 (by omega)
  have f1' : (i == n) = false := beq_eq_false_iff_ne.2 (by omega)
  have f2 : decide ((c : Int) < (n : Int) + 1) = false := decide_eq_false (by omega)
  have f3 : ¬ c = i := by omega
  have f4 : ¬ c = i + 1 := by omega
  have hov : ∀ lb cb, (callFunc 42 #[.slice (some ⟨B, 0, none⟩) 1 1, .slice (some ⟨g, off + (i + 1) * 3, none⟩) lb cb]).run Try.prog w = .ok (.value (.bool false)) w := fun lb cb => by
    have hsa : w.shape? B = some (30, 3) := by
      unfold Blk at hB
      simp [World.shape?, hB, wc]
    obtain ⟨kB, hsb, hkB⟩ : ∃ kB, w.shape? g = some (30, kB) ∧ kB ≠ 0 := by
      rcases hs.2 with ⟨e, -⟩ | ⟨g', off', c', cs, e, hh, hc, hx, hz, -⟩
      · cases e
      · injection e with e1 e2 e3
        injection e1 with e1
        injection e1 with e4 e5
        subst e4 e3
        exact ⟨cs.size, by simp [World.shape?, hh], by omega⟩
    rw [run_callFunc_extern (fn := Try.f42) (by kernel_rfl) (by kernel_rfl) (by kernel_rfl) (by kernel_rfl) (e := Extern.SlicesOverlaps.overlaps #[22, 22] #[4]) (by kernel_rfl),
      Lib.run_overlaps_apart w 22 4 30 Try.underlying22 3 szW ⟨B, 0, none⟩ ⟨g, off + (i + 1) * 3, none⟩ 1 1 lb cb (Ne.symm hne) _ _ 3 kB hsa hsb hkB (hB.free 0) (hB.free 3)]
    rfl
  obtain ⟨J, hJ, hx⟩ := hs.extend hroom
  obtain ⟨w1, hr1, hs1, ho1⟩ := run_copy_slc (P := Try.prog) hx.drew 22 22 3 Try.underlying22 sizeW (by omega) (i + 1) (n + 1 - (i + 1)) (c - (i + 1)) ⟨g, off + i * 3, none⟩ (n + 1 - i) (c - i) (flatW (l.drop i)) (n - i)
    (by simp only [Nat.min_def]; split <;> omega) (by rw [flatW_len, List.length_drop, HL.out]) (fun j u hu => by
      rw [Addr.add_lit]
      rw [← flatW_drop, List.getElem?_drop] at hu
      obtain ⟨g', off', c', e, -, -, -, hc, -⟩ := hs.at_ (by omega)
      simp only [Value.slice.injEq, Option.some.injEq, Addr.mk.injEq] at e
      obtain ⟨⟨rfl, rfl, -⟩, -, rfl⟩ := e
      have := hc _ _ hu
      rw [← Nat.add_assoc] at this
      exact this) (by omega) (flatW_cell _)
  have hB1 := (hB.drew).only ho1 (fun e => by simp [Value.ownBlock] at e; exact hne e)
  obtain ⟨w2, hr2, hs2, ho2⟩ := run_copy_slc (P := Try.prog) hs1 22 22 3 Try.underlying22 sizeW (by omega) i (n + 1 - i) (c - i) ⟨B, 0, none⟩ 1 1 (wc t) 1
    (by simp only [Nat.min_def]; split <;> omega) rfl (fun j u hu => by
      have e : (⟨B, 0, none⟩ : Addr).add j = ⟨B, j, none⟩ := by cases j <;> simp [Addr.add]
      rw [e, hB1.cell j]
      exact hu) (by omega) (by simp [wc, Value.oneCell'])
  have IC := Lib.hid (ins_cells t HL.out hi (by omega) rfl rfl ▸ hs2)
  have O2 := Lib.hid (((Only.refl (fun b => (Value.slice (some ⟨g, off, none⟩) n c).ownBlock = some b) w).drew.trans ho1 (fun b _ h => by simpa [Value.ownBlock] using h)).trans ho2 (fun b _ h => by simpa [Value.ownBlock] using h))
  have R1 := Lib.hid hr1
  have R2 := Lib.hid hr2
  have LN : Hid ((l.take i ++ t :: l.drop i).length = n + 1) := by show _ = _; rw [List.length_append, List.length_take, List.length_cons, List.length_drop, HL.out]; omega
  clear hr1 hr2 hs1 hs2 ho1 ho2 hx hs hB hB1
  go_enter Try.func28, Try.ntmps28
  go_wp2_with (simp only [hov])
  have g1 : IntKind.i64.wrap ((i : Int) + 1) = i + 1 := IntWalk.i64_in _ (by omega)
  have g2 : (0 : Int) ≤ (i : Int) + 1 := by omega
  have g3 : ((i : Int) + 1).toNat = i + 1 := by omega
  have g4 : (i : Int) + 1 ≤ (n : Int) + 1 := by omega
  have g5 : (i : Int) ≤ (n : Int) + 1 := by omega
  go_region_law (with_reducible refine step_copy_run rfl (.tmp 73) (.tmp 76) 22 22 rfl _ _ (by simp [Act.eval, Act.put]) (by simp [Act.eval, Act.put]) R1.out ?_)
  clear g1 g2 g3 g4
  all_goals
    go_wp2_with ((with_reducible refine wpList_copy_run (o := ⟨some 82, _, _, _, _, _⟩) _ rfl (.tmp 80) (.tmp 81) 22 22 rfl _ _ ?_ ?_ R2.out ?_); (focus rfl); (focus rfl))
    go_ret
    exact ⟨some ⟨g, off, none⟩, c, by rw [LN.out]; rfl, by rw [LN.out]; exact IC.out, O2.out, fun x hx => .inl (by simpa [Value.ownBlock] using hx)⟩
set_option maxRecDepth 100000 in
set_option maxHeartbeats 400000 in
/-- Insert within, where there is no room. -/
theorem insert_grow (w : World) (g off n i : Nat) (l : List Wt) (t : Wt) (B : Nat) (hs : Slc w 30 3 (.slice (some ⟨g, off, none⟩) n n) n (flatW l)) (hn : n ≤ 63) (hi : i < n) (hB : Blk w B 30 (wc t)) :
    Calls Try.prog 28 #[.slice (some ⟨g, off, none⟩) n n, .int .i64 i, .slice (some ⟨B, 0, none⟩) 1 1] w (InsPost w (some ⟨g, off, none⟩) n n (l.take i ++ t :: l.drop i)) := by
  have HL := Lib.hid hs.wlen
  have f1 : ((i : Int) == n) = false := beq_eq_false_iff_ne.2 (by omega)
  have f1' : (i == n) = false := beq_eq_false_iff_ne.2 (by omega)
  have f2 : decide ((n : Int) < (n : Int) + 1) = true := decide_eq_true (by omega)
  have f3 : ¬ n = i := by omega
  obtain ⟨i0, hi0, hz0, hz1, hz2⟩ := info_parts infoW
  have front := hs.front3 (m := i) (by omega) (by omega)
  obtain ⟨A', c', w1, zs, hr1, hzl, -, hs1, hb1⟩ := run_zeros_slc (P := Try.prog) front 22 3 22 i0 _ .i64 .i64 24 Try.underlying22 Try.underlying3 hi0 hz0 hz1 hz2 rfl (by omega) (n + 1 - i) (by omega) (by omega) (by omega) (by omega)
  have ek : ((n + 1 - i : Nat) : Int) = (n : Int) + 1 - i := by omega
  have en : i + (n + 1 - i) = n + 1 := by omega
  rw [en] at hr1 hs1
  rw [ek] at hr1
  obtain ⟨A9, c9, e9, hc9⟩ := hs1.shape
  injection e9 with q1 q2 e9
  subst e9
  clear q1 q2
  have f4 : ¬ c' = i := by omega
  have f5 : ¬ c' = i + 1 := by omega
  have hB1 := hB.below hb1 hB.lt
  obtain ⟨w2, hr2, hs2, ho2⟩ := run_copy_slc (P := Try.prog) hs1 22 22 3 Try.underlying22 sizeW (by omega) i (n + 1 - i) (c' - i) ⟨B, 0, none⟩ 1 1 (wc t) 1
    (by simp only [Nat.min_def]; split <;> omega) rfl (fun j u hu => by
      have e : (⟨B, 0, none⟩ : Addr).add j = ⟨B, j, none⟩ := by cases j <;> simp [Addr.add]
      rw [e, hB1.cell j]
      exact hu) (by omega) (by simp [wc, Value.oneCell'])
  rw [Nat.zero_add] at hr2
  have hsw := (hs.below hb1 (fun g hg => hs.lt hg)).only ho2 (fun x hx e => by have := hs.lt hx; simp [Value.ownBlock] at e; omega)
  obtain ⟨w3, hr3, hs3, ho3⟩ := run_copy_slc (P := Try.prog) hs2.drew 22 22 3 Try.underlying22 sizeW (by omega) (i + 1) (n + 1 - (i + 1)) (c' - (i + 1)) ⟨g, off + i * 3, none⟩ (n - i) (n - i) (flatW (l.drop i)) (n - i)
    (by simp only [Nat.min_def]; split <;> omega) (by rw [flatW_len, List.length_drop, HL.out]) (fun j u hu => by
      rw [Addr.add_lit]
      rw [← flatW_drop, List.getElem?_drop] at hu
      obtain ⟨g', off', c', e, -, -, -, hc, -⟩ := hsw.drew.at_ (by omega)
      simp only [Value.slice.injEq, Option.some.injEq, Addr.mk.injEq] at e
      obtain ⟨⟨rfl, rfl, -⟩, -, rfl⟩ := e
      have := hc _ _ hu
      rw [← Nat.add_assoc] at this
      exact this) (by omega) (flatW_cell _)
  rw [Nat.zero_add] at hr3
  have IC := Lib.hid (grow_cells t HL.out hi hzl rfl rfl rfl ▸ hs3)
  have B3 : Hid (Below w.heap.size w w3) := by
    have o1 := ho2.below (B := w.heap.size) hb1.size (fun b hb e => by simp [Value.ownBlock] at e; omega)
    have o2 := ho3.below (B := w.heap.size) (by have := ho2.size; have := hb1.size; simp; omega) (fun b hb e => by simp [Value.ownBlock] at e; omega)
    exact (hb1.trans o1).trans (((Below.refl w.heap.size w2).drew).trans o2)
  have R1 := Lib.hid hr1
  have R2 := Lib.hid hr2
  have R3 := Lib.hid hr3
  have LN : Hid ((l.take i ++ t :: l.drop i).length = n + 1) := by show _ = _; rw [List.length_append, List.length_take, List.length_cons, List.length_drop, HL.out]; omega
  clear hr1 hr2 hr3 hs1 hs2 hs3 ho2 ho3 hs hB hB1 hsw front hb1 hzl en ek
  have hc9' : (n : Int) + 1 ≤ c' := by omega
  go_enter Try.func28, Try.ntmps28
  go_wp2_with (first
    | (at_builtin; refine Lib.wpList_append_run _ rfl (.tmp 34) (.tmp 39) 22 3 rfl _ _ rfl rfl _ _ R1.out ?_)
    | ((with_reducible refine wpList_copy_run (o := ⟨some 45, _, _, _, _, _⟩) _ rfl (.tmp 43) (.tmp 44) 22 22 rfl _ _ ?_ ?_ R2.out ?_); (focus rfl); (focus rfl)))
  have g1 : IntKind.i64.wrap ((i : Int) + 1) = i + 1 := IntWalk.i64_in _ (by omega)
  have g2 : (0 : Int) ≤ (i : Int) + 1 := by omega
  have g3 : ((i : Int) + 1).toNat = i + 1 := by omega
  have g4 : (i : Int) + 1 ≤ (n : Int) + 1 := by omega
  have g5 : (i : Int) ≤ (n : Int) := by omega
  go_region_law (refine step_copy_run rfl (.tmp 50) (.tmp 53) 22 22 rfl _ _ (by simp [Act.eval, Act.put]) (by simp [Act.eval, Act.put]) R3.out ?_)
  clear g1 g2 g3 g4
  all_goals
    go_wp2_with fail
    go_ret
    exact ⟨some ⟨w.heap.size, 0, none⟩, c', by rw [LN.out]; rfl, by rw [LN.out]; exact IC.out, Only.of_below B3.out, fun x hx => .inr (by simp [Value.ownBlock] at hx; omega)⟩
/-- slices.Insert of one request, which lies in a block of its own. -/
theorem insert_any (w : World) (A : Option Addr) (n c i : Nat) (l : List Wt) (t : Wt) (B : Nat) (hs : Slc w 30 3 (.slice A n c) n (flatW l)) (hn : n ≤ 63) (hi : i ≤ n) (hB : Blk w B 30 (wc t)) (hne : (Value.slice A n c).ownBlock ≠ some B) :
    Calls Try.prog 28 #[.slice A n c, .int .i64 i, .slice (some ⟨B, 0, none⟩) 1 1] w (InsPost w A n c (l.take i ++ t :: l.drop i)) := by
  have hl := hs.wlen
  by_cases h : i = n
  · subst h
    rw [List.take_of_length_le (by omega), List.drop_of_length_le (by omega)]
    exact insert_end w A i c l t B hs hn hB
  · obtain ⟨g, off, c', e, hc, -, -, -, -⟩ := hs.at_ (by omega)
    injection e with e1 _ e3
    subst e1 e3
    by_cases hr : n + 1 ≤ c
    · exact insert_room w g off n c i l t B hs hn (by omega) hr hB (fun e => hne (by simp [Value.ownBlock, e]))
    · obtain rfl : c = n := by omega
      exact insert_grow w g off c i l t B hs hn (by omega) hB
end Go.Proofs.Ytinpaplpgoljpaa
