/- Layer 18 (order): the document's queue: Drop, Next, Take. -/
import Derived.Test.YtinpaplpgoljpaaOrderRB
namespace Go.Proofs.Ytinpaplpgoljpaa
open Go.RowKit
set_option linter.unusedVariables false
set_option linter.unusedSimpArgs false
/-- A part of a slice, as a source. -/
theorem srcPart {w : World} {g off n c i m : Nat} {l : List Wt} (h : Slc w 30 3 (.slice (some ⟨g, off, none⟩) n c) n (flatW l)) (him : i + m ≤ n) : Src w 3 (some ⟨g, off + i * 3, none⟩) m (flatW ((l.drop i).take m)) := by
  have hl := h.wlen
  refine ⟨?_, ?_⟩
  · rw [flatW_len, List.length_take, List.length_drop, hl, Nat.min_eq_left (by omega)]
  · rcases Nat.eq_zero_or_pos m with e | e
    · exact .inl e
    · refine .inr ⟨_, rfl, fun j u hu => ?_⟩
      obtain ⟨g', off', c', ev, -, -, -, hc, -⟩ := h.at_ (by omega)
      simp only [Value.slice.injEq, Option.some.injEq, Addr.mk.injEq] at ev
      obtain ⟨⟨rfl, rfl, -⟩, -, -⟩ := ev
      rw [Addr.add_lit, Nat.add_assoc]
      refine hc _ _ ?_
      rw [← flatW_take, List.getElem?_take] at hu
      split at hu
      · rw [← flatW_drop, List.getElem?_drop] at hu; exact hu
      · cases hu
theorem srcPart0 {w : World} {g off n c m : Nat} {l : List Wt} (h : Slc w 30 3 (.slice (some ⟨g, off, none⟩) n c) n (flatW l)) (him : m ≤ n) : Src w 3 (some ⟨g, off, none⟩) m (flatW (l.take m)) := by
  have := srcPart (i := 0) h (by omega : 0 + m ≤ n)
  simpa using this
def SD (r : Nat) (v : Value) (h : Int) (d : Bool) (W : World) : Prop := Blk W r 45 [v, .int .i64 h, .bool d]
set_option maxRecDepth 100000 in
set_option maxHeartbeats 2000000 in
theorem rdrop_any {w : World} {R : Qp} {l : List Wt} {h : Int} {d : Bool} (k : IsR w R l h d) (id : Int) :
    Calls Try.prog 19 #[.pointer (some ⟨R.q, 0, none⟩), .int .i64 id] w fun e w' => e = .returned (.int .i64 (dropF l id).1) ∧ StepR w w' R (dropF l id).2 h d := by
  have KH := Lib.hid k
  have FI := rfind_any k id
  have hq := k.blk.lt
  have hlen := k.len
  rcases idxB_cases (fun x => x.id == id) l with ⟨e, -⟩ | ⟨i, e, hi⟩
  · have AE : Hid (dropF l id = (6, l)) := by show _ = _; unfold dropF; rw [if_pos (by rw [e]; omega)]
    rw [e] at FI
    have P := Lib.hid FI
    clear k e FI
    go_enter Try.func19, Try.ntmps19
    go_wp2_with (go_at_call 32; (with_reducible refine Calls.mono P.out ?_); rintro e w1 ⟨rfl, rfl⟩)
    go_ret
    rw [AE.out]
    exact ⟨rfl, .same KH.out (Below.refl _ _)⟩
  · have AE : Hid (dropF l id = (0, l.eraseIdx i)) := by show _ = _; unfold dropF; rw [if_neg (by rw [e]; omega), e]; rfl
    rw [e] at FI
    have P := Lib.hid FI
    have LI : (l.take i ++ l.drop (i + 1)).length ≤ 64 := by rw [List.length_append, List.length_take, List.length_drop]; omega
    have LN : (l.take i ++ l.drop (i + 1)).length = i + (l.length - (i + 1)) := by rw [List.length_append, List.length_take, List.length_drop]; omega
    have hs := k.row
    obtain ⟨g, off, c, ev, hcn, -, -, -, -⟩ := hs.at_ (by omega)
    have EV := Lib.hid ev
    rw [ev] at hs
    have hb := k.blk
    rw [ev] at hb
    have HSD : Hid (SD R.q (.slice (some ⟨g, off, none⟩) l.length c) h d w.drew) := hb.drew
    have SDB : ∀ W, Hid (Below w.heap.size w W → SD R.q (.slice (some ⟨g, off, none⟩) l.length c) h d W) := fun W o => hb.below o hq
    have HS := Lib.hid hs
    have HF := Lib.hid (flatW_cell l)
    obtain ⟨n, hn⟩ : ∃ n, l.length = n := ⟨_, rfl⟩
    rw [hn] at hi hlen LN HSD HS SDB hcn
    have HN := Lib.hid hn
    have f2 : ¬ n = i := by omega
    have f3 : ¬ c = i := by omega
    have f5 : (i : Int) + 1 ≤ n := by omega
    have f6 : ((i : Int) + 1).toNat = i + 1 := by omega
    have f7 : (0 : Int) ≤ (i : Int) + 1 := by omega
    have f9 : (i : Int) ≤ n := by omega
    have f10 : (i : Int) ≤ c := by omega
    have f11 : (n : Int) ≤ c := by omega
    have g1 : IntKind.i64.wrap ((i : Int) + 1) = i + 1 := IntWalk.i64_in _ (by omega)
    obtain ⟨i0, hi0, hz0, hz1, hz2⟩ := info_parts infoW
    have FIN : ∀ A4 n4 c4 w2 w3, Below w.heap.size w w2 → n4 = i + (n - (i + 1)) → Slc w3 30 3 (.slice A4 n4 c4) n4 (flatW (l.take i ++ l.drop (i + 1))) → Only (fun _ => False) w2 w3 → (∃ g, (Value.slice A4 n4 c4).ownBlock = some g ∧ w.heap.size ≤ g) → StepR w (w3.setCell ⟨R.q, 0, none⟩ (.slice A4 n4 c4)) R (l.eraseIdx i) h d := fun A4 n4 c4 w2 w3 b hn4 hs4 o hg => by
      rw [List.eraseIdx_eq_take_drop_succ]
      exact add_step k b (by rw [hn4, LN]) LI hs4 (o.mono fun _ _ h => h.elim) (.inr hg)
    have FINH := Lib.hid FIN
    have LT := Lib.hid (show l.drop (i + 1) = (l.drop (i + 1)).take (n - (i + 1)) from (List.take_of_length_le (by rw [List.length_drop, hn]; omega)).symm)
    have LFI := Lib.hid (flatW_cell (l.take i))
    have LFD := Lib.hid (flatW_cell ((l.drop (i + 1)).take (n - (i + 1))))
    have FA := Lib.hid (flatW_app (l.take i) (l.drop (i + 1)))
    clear k e FI hs ev hb LI LN hn FIN
    by_cases hci : c = i + 1
    · obtain rfl : n = c := by omega
      clear g1
      have g1 : IntKind.i64.wrap ((i : Int) + 1) = n := by rw [IntWalk.i64_in _ (by omega)]; omega
      have e0 : n - (i + 1) = 0 := by omega
      have f1 : ((i : Int) == (n : Int)) = false := beq_eq_false_iff_ne.2 (by omega)
      have f1' : (i == n) = false := beq_eq_false_iff_ne.2 (by omega)
      have f1'' : ((n : Int) == (i : Int)) = false := beq_eq_false_iff_ne.2 (by omega)
      have E0 := Lib.hid e0
      clear f5 f6 f7 hci e0
      go_enter Try.func19, Try.ntmps19
      go_wp2_with (go_at_call 32; (with_reducible refine Calls.mono P.out ?_); rintro e w1 ⟨rfl, rfl⟩)
      refine wp_region_zone (SD R.q (.slice (some ⟨g, off, none⟩) n n) h d) (fun j => decide (j < 19)) (by kernel_rfl) ?_
      refine wpAnyZ_move (i := 0) (v := ?_) rfl (by kernel_rfl) (by kernel_rfl) (by kernel_rfl) (fun _ _ _ h => h) (Or.inl ⟨by rfl, ?_⟩) ?_
      (rotate_left 1; (focus (intro W; go_simp; try with_reducible rfl)))
      try simp only [Act.put, List.setIfInBounds_toArray, List.set_cons_zero, List.set_cons_succ, List.getElem_toArray, List.getElem_cons_succ, List.getElem_cons_zero]
      refine wpAnyZ_move (i := 2) (v := ?_) rfl (by kernel_rfl) (by kernel_rfl) (by kernel_rfl) (fun _ _ _ h => h) (Or.inl ⟨by rfl, ?_⟩) ?_
      (rotate_left 1; (focus (intro W; go_simp; try with_reducible rfl)))
      try simp only [Act.put, List.setIfInBounds_toArray, List.set_cons_zero, List.set_cons_succ, List.getElem_toArray, List.getElem_cons_succ, List.getElem_cons_zero]
      refine wpAnyZ_move (i := 3) (v := ?_) rfl (by kernel_rfl) (by kernel_rfl) (by kernel_rfl) (fun _ _ _ h => h) (Or.inl ⟨by rfl, ?_⟩) ?_
      (rotate_left 1; (focus (intro W; go_simp; try with_reducible rfl)))
      try simp only [Act.put, List.setIfInBounds_toArray, List.set_cons_zero, List.set_cons_succ, List.getElem_toArray, List.getElem_cons_succ, List.getElem_cons_zero]
      refine wpAnyZ_move (i := 4) (v := ?_) rfl (by kernel_rfl) (by kernel_rfl) (by kernel_rfl) (fun _ _ _ h => h) (Or.inl ⟨by rfl, ?_⟩) ?_
      (rotate_left 1; (focus (intro W; go_simp; try with_reducible rfl)))
      try simp only [Act.put, List.setIfInBounds_toArray, List.set_cons_zero, List.set_cons_succ, List.getElem_toArray, List.getElem_cons_succ, List.getElem_cons_zero]
      refine wpAnyZ_take (i := 5) (v := ?_) rfl (by kernel_rfl) (by kernel_rfl) (by kernel_rfl) (by kernel_rfl) (fun _ _ _ h => h) (Or.inl ⟨by rfl, ?_⟩) HSD.out ?_
      (rotate_left 1; (focus (intro W hS; have y0 := Blk.cell hS 0; have yl := Blk.lt hS; go_simp; try with_reducible rfl)))
      try simp only [Act.put, List.setIfInBounds_toArray, List.set_cons_zero, List.set_cons_succ, List.getElem_toArray, List.getElem_cons_succ, List.getElem_cons_zero]
      refine wpAnyZ_move (i := 6) (v := ?_) rfl (by kernel_rfl) (by kernel_rfl) (by kernel_rfl) (fun _ _ _ h => h) (Or.inl ⟨by rfl, ?_⟩) ?_
      (rotate_left 1; (focus (intro W; go_simp; try with_reducible rfl)))
      try simp only [Act.put, List.setIfInBounds_toArray, List.set_cons_zero, List.set_cons_succ, List.getElem_toArray, List.getElem_cons_succ, List.getElem_cons_zero]
      refine wpAnyZ_move (i := 7) (v := ?_) rfl (by kernel_rfl) (by kernel_rfl) (by kernel_rfl) (fun _ _ _ h => h) (Or.inl ⟨by rfl, ?_⟩) ?_
      (rotate_left 1; (focus (intro W; go_simp; try with_reducible rfl)))
      try simp only [Act.put, List.setIfInBounds_toArray, List.set_cons_zero, List.set_cons_succ, List.getElem_toArray, List.getElem_cons_succ, List.getElem_cons_zero]
      refine wpAnyZ_move (i := 9) (v := ?_) rfl (by kernel_rfl) (by kernel_rfl) (by kernel_rfl) (fun _ _ _ h => h) (Or.inl ⟨by rfl, ?_⟩) ?_
      (rotate_left 1; (focus (intro W; go_simp; try with_reducible rfl)))
      try simp only [Act.put, List.setIfInBounds_toArray, List.set_cons_zero, List.set_cons_succ, List.getElem_toArray, List.getElem_cons_succ, List.getElem_cons_zero]
      refine wpAnyZ_move (i := 10) (v := ?_) rfl (by kernel_rfl) (by kernel_rfl) (by kernel_rfl) (fun _ _ _ h => h) (Or.inl ⟨by rfl, ?_⟩) ?_
      (rotate_left 1; (focus (intro W; go_simp; try with_reducible rfl)))
      try simp only [Act.put, List.setIfInBounds_toArray, List.set_cons_zero, List.set_cons_succ, List.getElem_toArray, List.getElem_cons_succ, List.getElem_cons_zero]
      refine wpAnyZ_move (i := 11) (v := ?_) rfl (by kernel_rfl) (by kernel_rfl) (by kernel_rfl) (fun _ _ _ h => h) (Or.inl ⟨by rfl, ?_⟩) ?_
      (rotate_left 1; (focus (intro W; go_simp; try with_reducible rfl)))
      try simp only [Act.put, List.setIfInBounds_toArray, List.set_cons_zero, List.set_cons_succ, List.getElem_toArray, List.getElem_cons_succ, List.getElem_cons_zero]
      refine wpAnyZ_take (i := 12) (v := ?_) rfl (by kernel_rfl) (by kernel_rfl) (by kernel_rfl) (by kernel_rfl) (fun _ _ _ h => h) (Or.inl ⟨by rfl, ?_⟩) HSD.out ?_
      (rotate_left 1; (focus (intro W hS; have y0 := Blk.cell hS 0; have yl := Blk.lt hS; go_simp; try with_reducible rfl)))
      try simp only [Act.put, List.setIfInBounds_toArray, List.set_cons_zero, List.set_cons_succ, List.getElem_toArray, List.getElem_cons_succ, List.getElem_cons_zero]
      refine wpAnyZ_move (i := 13) (v := ?_) rfl (by kernel_rfl) (by kernel_rfl) (by kernel_rfl) (fun _ _ _ h => h) (Or.inl ⟨by rfl, ?_⟩) ?_
      (rotate_left 1; (focus (intro W; go_simp; try with_reducible rfl)))
      try simp only [Act.put, List.setIfInBounds_toArray, List.set_cons_zero, List.set_cons_succ, List.getElem_toArray, List.getElem_cons_succ, List.getElem_cons_zero]
      refine wpAnyZ_move (i := 14) (v := ?_) rfl (by kernel_rfl) (by kernel_rfl) (by kernel_rfl) (fun _ _ _ h => h) (Or.inl ⟨by rfl, ?_⟩) ?_
      (rotate_left 1; (focus (intro W; go_simp; try with_reducible rfl)))
      try simp only [Act.put, List.setIfInBounds_toArray, List.set_cons_zero, List.set_cons_succ, List.getElem_toArray, List.getElem_cons_succ, List.getElem_cons_zero]
      refine wpAnyZ_move (i := 15) (v := ?_) rfl (by kernel_rfl) (by kernel_rfl) (by kernel_rfl) (fun _ _ _ h => h) (Or.inl ⟨by rfl, ?_⟩) ?_
      (rotate_left 1; (focus (intro W; go_simp; try with_reducible rfl)))
      try simp only [Act.put, List.setIfInBounds_toArray, List.set_cons_zero, List.set_cons_succ, List.getElem_toArray, List.getElem_cons_succ, List.getElem_cons_zero]
      refine wpAnyZ_one (i := 1) (by kernel_rfl) rfl (fun K hK => ?_)
      go_simp
      refine hK.out _ _ (fun _ _ => ((SDB _).out ((Below.refl _ _).drew.alloc (Nat.le_refl _) _))) ?_
      clear hK K
      refine wpAnyZ_one (i := 8) (by kernel_rfl) rfl (fun K hK => ?_)
      refine step_append_slc _ rfl (.tmp 12) (.tmp 18) _ rfl 30 i0 _ 3 24 Try.underlying22 hi0 hz0 hz1 hz2 rfl (by omega) (.slice (some ⟨w1.heap.size, 0, none⟩) 0 0) 0 [] rfl (Slc.new w1.drew 30 3) (some ⟨g, off, none⟩) i n (flatW (l.take i)) rfl ((srcPart0 HS.out.drew (by omega)).alloc _) LFI.out (by omega) (by simp only [maxLen]; omega) ?_
      intro v2 w2 hs2 ho2 hat2
      obtain ⟨A2, c2, e2, -⟩ := hs2.shape
      subst e2
      have b2 : Below w1.heap.size w1 w2 := Below.onlyF ((Below.refl _ _).drew.alloc (Nat.le_refl _) _) ho2 (fun g h => by simp [Value.ownBlock] at h; omega)
      have B2 := Lib.hid b2
      have HS2 := Lib.hid (show Slc w2 30 3 (.slice A2 i c2) i (flatW (l.take i)) by simpa using hs2)
      have AT2 := Lib.hid (show ∃ g, (Value.slice A2 i c2).ownBlock = some g ∧ w1.heap.size ≤ g by
        rw [Nat.zero_add] at hat2
        rcases hat2 with h | h
        · exact ⟨_, h.trans rfl, Nat.le_refl _⟩
        · exact ⟨_, h, by simp⟩)
      rw [Nat.zero_add]
      clear hs2 ho2 hat2 b2
      try go_simp
      refine hK.out _ _ (fun _ _ => (SDB _).out B2.out) ?_
      clear hK K
      refine wpAnyZ_one (i := 16) (by kernel_rfl) rfl (fun K hK => ?_)
      refine step_append_slc _ rfl (.tmp 19) (.tmp 26) _ rfl 30 i0 _ 3 24 Try.underlying22 hi0 hz0 hz1 hz2 rfl (by omega) (.slice A2 i c2) i (flatW (l.take i)) rfl HS2.out (some ⟨g, off, none⟩) 0 0 (flatW ((l.drop (i + 1)).take (n - (i + 1)))) rfl ⟨by rw [flatW_len, List.length_take, E0.out]; omega, .inl rfl⟩ LFD.out (by omega) (by simp only [maxLen]; omega) ?_
      intro v3 w3 hs3 ho3 hat3
      obtain ⟨A3, c3, e3, -⟩ := hs3.shape
      subst e3
      have b3 : Below w1.heap.size w1 w3 := Below.onlyF B2.out ho3 (fun g h => by obtain ⟨g', e, hg⟩ := AT2.out; rw [e] at h; injection h with h; omega)
      rw [← LT.out, ← FA.out] at hs3
      have sd := (SDB _).out b3
      have FN := Lib.hid (FINH.out _ _ _ _ _ b3 (by rw [E0.out]) hs3 (Only.refl _ _) (by
        rcases hat3 with h | h
        · obtain ⟨g', e, hg⟩ := AT2.out; exact ⟨g', h.trans e, hg⟩
        · exact ⟨_, h, B2.out.size⟩))
      have q0 : w3.frozen? ⟨R.q, 0, none⟩ = false := Blk.free sd 0
      have q1 := Blk.cell sd 0
      have ql := Blk.lt sd
      have SDH := Lib.hid sd
      clear hs3 ho3 hat3 b3 sd
      try go_simp
      refine hK.out _ _ (fun _ _ => SDH.out) ?_
      clear hK K
      refine wpAnyZ_move (i := 17) (v := ?_) rfl (by kernel_rfl) (by kernel_rfl) (by kernel_rfl) (fun _ _ _ h => h) (Or.inl ⟨by rfl, ?_⟩) ?_
      (rotate_left 1; (focus (intro W; go_simp; try with_reducible rfl)))
      try simp only [Act.put, List.setIfInBounds_toArray, List.set_cons_zero, List.set_cons_succ, List.getElem_toArray, List.getElem_cons_succ, List.getElem_cons_zero]
      refine wpAnyZ_move (i := 18) (v := ?_) rfl (by kernel_rfl) (by kernel_rfl) (by kernel_rfl) (fun _ _ _ h => h) (Or.inl ⟨by rfl, ?_⟩) ?_
      (rotate_left 1; (focus (intro W; go_simp; try with_reducible rfl)))
      try simp only [Act.put, List.setIfInBounds_toArray, List.set_cons_zero, List.set_cons_succ, List.getElem_toArray, List.getElem_cons_succ, List.getElem_cons_zero]
      refine wpAnyZ_one (i := 19) (by kernel_rfl) rfl (fun K hK => ?_)
      go_simp
      refine hK.out _ _ (fun h => absurd h (by decide)) ?_
      clear hK K
      refine wpAnyZ_done (by kernel_rfl) ?_ _
      go_wp2_with fail
      go_ret
      rw [AE.out]
      exact ⟨rfl, FN.out⟩
    · have hci2 : ¬ i + 1 = c := fun e => hci e.symm
      have f12 : ((i : Int) + 1 == (c : Int)) = false := beq_eq_false_iff_ne.2 (by omega)
      go_enter Try.func19, Try.ntmps19
      go_wp2_with (go_at_call 32; (with_reducible refine Calls.mono P.out ?_); rintro e w1 ⟨rfl, rfl⟩)
      refine wp_region_zone (SD R.q (.slice (some ⟨g, off, none⟩) n c) h d) (fun j => decide (j < 19)) (by kernel_rfl) ?_
      refine wpAnyZ_move (i := 0) (v := ?_) rfl (by kernel_rfl) (by kernel_rfl) (by kernel_rfl) (fun _ _ _ h => h) (Or.inl ⟨by rfl, ?_⟩) ?_
      (rotate_left 1; (focus (intro W; go_simp; try with_reducible rfl)))
      try simp only [Act.put, List.setIfInBounds_toArray, List.set_cons_zero, List.set_cons_succ, List.getElem_toArray, List.getElem_cons_succ, List.getElem_cons_zero]
      refine wpAnyZ_move (i := 2) (v := ?_) rfl (by kernel_rfl) (by kernel_rfl) (by kernel_rfl) (fun _ _ _ h => h) (Or.inl ⟨by rfl, ?_⟩) ?_
      (rotate_left 1; (focus (intro W; go_simp; try with_reducible rfl)))
      try simp only [Act.put, List.setIfInBounds_toArray, List.set_cons_zero, List.set_cons_succ, List.getElem_toArray, List.getElem_cons_succ, List.getElem_cons_zero]
      refine wpAnyZ_move (i := 3) (v := ?_) rfl (by kernel_rfl) (by kernel_rfl) (by kernel_rfl) (fun _ _ _ h => h) (Or.inl ⟨by rfl, ?_⟩) ?_
      (rotate_left 1; (focus (intro W; go_simp; try with_reducible rfl)))
      try simp only [Act.put, List.setIfInBounds_toArray, List.set_cons_zero, List.set_cons_succ, List.getElem_toArray, List.getElem_cons_succ, List.getElem_cons_zero]
      refine wpAnyZ_move (i := 4) (v := ?_) rfl (by kernel_rfl) (by kernel_rfl) (by kernel_rfl) (fun _ _ _ h => h) (Or.inl ⟨by rfl, ?_⟩) ?_
      (rotate_left 1; (focus (intro W; go_simp; try with_reducible rfl)))
      try simp only [Act.put, List.setIfInBounds_toArray, List.set_cons_zero, List.set_cons_succ, List.getElem_toArray, List.getElem_cons_succ, List.getElem_cons_zero]
      refine wpAnyZ_take (i := 5) (v := ?_) rfl (by kernel_rfl) (by kernel_rfl) (by kernel_rfl) (by kernel_rfl) (fun _ _ _ h => h) (Or.inl ⟨by rfl, ?_⟩) HSD.out ?_
      (rotate_left 1; (focus (intro W hS; have y0 := Blk.cell hS 0; have yl := Blk.lt hS; go_simp; try with_reducible rfl)))
      try simp only [Act.put, List.setIfInBounds_toArray, List.set_cons_zero, List.set_cons_succ, List.getElem_toArray, List.getElem_cons_succ, List.getElem_cons_zero]
      refine wpAnyZ_move (i := 6) (v := ?_) rfl (by kernel_rfl) (by kernel_rfl) (by kernel_rfl) (fun _ _ _ h => h) (Or.inl ⟨by rfl, ?_⟩) ?_
      (rotate_left 1; (focus (intro W; go_simp; try with_reducible rfl)))
      try simp only [Act.put, List.setIfInBounds_toArray, List.set_cons_zero, List.set_cons_succ, List.getElem_toArray, List.getElem_cons_succ, List.getElem_cons_zero]
      refine wpAnyZ_move (i := 7) (v := ?_) rfl (by kernel_rfl) (by kernel_rfl) (by kernel_rfl) (fun _ _ _ h => h) (Or.inl ⟨by rfl, ?_⟩) ?_
      (rotate_left 1; (focus (intro W; go_simp; try with_reducible rfl)))
      try simp only [Act.put, List.setIfInBounds_toArray, List.set_cons_zero, List.set_cons_succ, List.getElem_toArray, List.getElem_cons_succ, List.getElem_cons_zero]
      refine wpAnyZ_move (i := 9) (v := ?_) rfl (by kernel_rfl) (by kernel_rfl) (by kernel_rfl) (fun _ _ _ h => h) (Or.inl ⟨by rfl, ?_⟩) ?_
      (rotate_left 1; (focus (intro W; go_simp; try with_reducible rfl)))
      try simp only [Act.put, List.setIfInBounds_toArray, List.set_cons_zero, List.set_cons_succ, List.getElem_toArray, List.getElem_cons_succ, List.getElem_cons_zero]
      refine wpAnyZ_move (i := 10) (v := ?_) rfl (by kernel_rfl) (by kernel_rfl) (by kernel_rfl) (fun _ _ _ h => h) (Or.inl ⟨by rfl, ?_⟩) ?_
      (rotate_left 1; (focus (intro W; go_simp; try with_reducible rfl)))
      try simp only [Act.put, List.setIfInBounds_toArray, List.set_cons_zero, List.set_cons_succ, List.getElem_toArray, List.getElem_cons_succ, List.getElem_cons_zero]
      refine wpAnyZ_move (i := 11) (v := ?_) rfl (by kernel_rfl) (by kernel_rfl) (by kernel_rfl) (fun _ _ _ h => h) (Or.inl ⟨by rfl, ?_⟩) ?_
      (rotate_left 1; (focus (intro W; go_simp; try with_reducible rfl)))
      try simp only [Act.put, List.setIfInBounds_toArray, List.set_cons_zero, List.set_cons_succ, List.getElem_toArray, List.getElem_cons_succ, List.getElem_cons_zero]
      refine wpAnyZ_take (i := 12) (v := ?_) rfl (by kernel_rfl) (by kernel_rfl) (by kernel_rfl) (by kernel_rfl) (fun _ _ _ h => h) (Or.inl ⟨by rfl, ?_⟩) HSD.out ?_
      (rotate_left 1; (focus (intro W hS; have y0 := Blk.cell hS 0; have yl := Blk.lt hS; go_simp; try with_reducible rfl)))
      try simp only [Act.put, List.setIfInBounds_toArray, List.set_cons_zero, List.set_cons_succ, List.getElem_toArray, List.getElem_cons_succ, List.getElem_cons_zero]
      refine wpAnyZ_move (i := 13) (v := ?_) rfl (by kernel_rfl) (by kernel_rfl) (by kernel_rfl) (fun _ _ _ h => h) (Or.inl ⟨by rfl, ?_⟩) ?_
      (rotate_left 1; (focus (intro W; go_simp; try with_reducible rfl)))
      try simp only [Act.put, List.setIfInBounds_toArray, List.set_cons_zero, List.set_cons_succ, List.getElem_toArray, List.getElem_cons_succ, List.getElem_cons_zero]
      refine wpAnyZ_move (i := 14) (v := ?_) rfl (by kernel_rfl) (by kernel_rfl) (by kernel_rfl) (fun _ _ _ h => h) (Or.inl ⟨by rfl, ?_⟩) ?_
      (rotate_left 1; (focus (intro W; go_simp; try with_reducible rfl)))
      try simp only [Act.put, List.setIfInBounds_toArray, List.set_cons_zero, List.set_cons_succ, List.getElem_toArray, List.getElem_cons_succ, List.getElem_cons_zero]
      refine wpAnyZ_move (i := 15) (v := ?_) rfl (by kernel_rfl) (by kernel_rfl) (by kernel_rfl) (fun _ _ _ h => h) (Or.inl ⟨by rfl, ?_⟩) ?_
      (rotate_left 1; (focus (intro W; go_simp; try with_reducible rfl)))
      try simp only [Act.put, List.setIfInBounds_toArray, List.set_cons_zero, List.set_cons_succ, List.getElem_toArray, List.getElem_cons_succ, List.getElem_cons_zero]
      refine wpAnyZ_one (i := 1) (by kernel_rfl) rfl (fun K hK => ?_)
      go_simp
      refine hK.out _ _ (fun _ _ => ((SDB _).out ((Below.refl _ _).drew.alloc (Nat.le_refl _) _))) ?_
      clear hK K
      refine wpAnyZ_one (i := 8) (by kernel_rfl) rfl (fun K hK => ?_)
      refine step_append_slc _ rfl (.tmp 12) (.tmp 18) _ rfl 30 i0 _ 3 24 Try.underlying22 hi0 hz0 hz1 hz2 rfl (by omega) (.slice (some ⟨w1.heap.size, 0, none⟩) 0 0) 0 [] rfl (Slc.new w1.drew 30 3) (some ⟨g, off, none⟩) i c (flatW (l.take i)) rfl ((srcPart0 HS.out.drew (by omega)).alloc _) LFI.out (by omega) (by simp only [maxLen]; omega) ?_
      intro v2 w2 hs2 ho2 hat2
      obtain ⟨A2, c2, e2, -⟩ := hs2.shape
      subst e2
      have b2 : Below w1.heap.size w1 w2 := Below.onlyF ((Below.refl _ _).drew.alloc (Nat.le_refl _) _) ho2 (fun g h => by simp [Value.ownBlock] at h; omega)
      have B2 := Lib.hid b2
      have HS2 := Lib.hid (show Slc w2 30 3 (.slice A2 i c2) i (flatW (l.take i)) by simpa using hs2)
      have AT2 := Lib.hid (show ∃ g, (Value.slice A2 i c2).ownBlock = some g ∧ w1.heap.size ≤ g by
        rw [Nat.zero_add] at hat2
        rcases hat2 with h | h
        · exact ⟨_, h.trans rfl, Nat.le_refl _⟩
        · exact ⟨_, h, by simp⟩)
      rw [Nat.zero_add]
      clear hs2 ho2 hat2 b2
      try go_simp
      refine hK.out _ _ (fun _ _ => (SDB _).out B2.out) ?_
      clear hK K
      refine wpAnyZ_one (i := 16) (by kernel_rfl) rfl (fun K hK => ?_)
      refine step_append_slc _ rfl (.tmp 19) (.tmp 26) _ rfl 30 i0 _ 3 24 Try.underlying22 hi0 hz0 hz1 hz2 rfl (by omega) (.slice A2 i c2) i (flatW (l.take i)) rfl HS2.out (some ⟨g, off + (i + 1) * 3, none⟩) (n - (i + 1)) (c - (i + 1)) (flatW ((l.drop (i + 1)).take (n - (i + 1)))) rfl (srcPart (HS.out.below B2.out (fun g hg => HS.out.lt hg)) (by omega)) LFD.out (by omega) (by simp only [maxLen]; omega) ?_
      intro v3 w3 hs3 ho3 hat3
      obtain ⟨A3, c3, e3, -⟩ := hs3.shape
      subst e3
      have b3 : Below w1.heap.size w1 w3 := Below.onlyF B2.out ho3 (fun g h => by obtain ⟨g', e, hg⟩ := AT2.out; rw [e] at h; injection h with h; omega)
      rw [← LT.out, ← FA.out] at hs3
      have sd := (SDB _).out b3
      have FN := Lib.hid (FINH.out _ _ _ _ _ b3 rfl hs3 (Only.refl _ _) (by
        rcases hat3 with h | h
        · obtain ⟨g', e, hg⟩ := AT2.out; exact ⟨g', h.trans e, hg⟩
        · exact ⟨_, h, B2.out.size⟩))
      have q0 : w3.frozen? ⟨R.q, 0, none⟩ = false := Blk.free sd 0
      have q1 := Blk.cell sd 0
      have ql := Blk.lt sd
      have SDH := Lib.hid sd
      clear hs3 ho3 hat3 b3 sd
      try go_simp
      refine hK.out _ _ (fun _ _ => SDH.out) ?_
      clear hK K
      refine wpAnyZ_move (i := 17) (v := ?_) rfl (by kernel_rfl) (by kernel_rfl) (by kernel_rfl) (fun _ _ _ h => h) (Or.inl ⟨by rfl, ?_⟩) ?_
      (rotate_left 1; (focus (intro W; go_simp; try with_reducible rfl)))
      try simp only [Act.put, List.setIfInBounds_toArray, List.set_cons_zero, List.set_cons_succ, List.getElem_toArray, List.getElem_cons_succ, List.getElem_cons_zero]
      refine wpAnyZ_move (i := 18) (v := ?_) rfl (by kernel_rfl) (by kernel_rfl) (by kernel_rfl) (fun _ _ _ h => h) (Or.inl ⟨by rfl, ?_⟩) ?_
      (rotate_left 1; (focus (intro W; go_simp; try with_reducible rfl)))
      try simp only [Act.put, List.setIfInBounds_toArray, List.set_cons_zero, List.set_cons_succ, List.getElem_toArray, List.getElem_cons_succ, List.getElem_cons_zero]
      refine wpAnyZ_one (i := 19) (by kernel_rfl) rfl (fun K hK => ?_)
      go_simp
      refine hK.out _ _ (fun h => absurd h (by decide)) ?_
      clear hK K
      refine wpAnyZ_done (by kernel_rfl) ?_ _
      go_wp2_with fail
      go_ret
      rw [AE.out]
      exact ⟨rfl, FN.out⟩
def SN (r : Nat) (d : Bool) (W : World) : Prop := W.cell? ⟨r, 2, none⟩ = some (.bool d) ∧ r < W.heap.size
/-- What Next answers. -/
def NextSpec (l : List Wt) (h : Int) (d : Bool) (k : Int) (dn : Bool) : Prop :=
  ∃ D, (∃ x ∈ l, x.dead = D) ∧ (∀ x ∈ l, D ≤ x.dead) ∧ ((PickSpec l l.length D h d k ∧ 0 ≤ k ∧ dn = d) ∨ (PickSpec l l.length D h d (-1) ∧ PickSpec l l.length D h (!d) k ∧ dn = !d))
theorem rnext_none {w : World} {R : Qp} {h : Int} {d : Bool} (k : IsR w R [] h d) :
    Calls Try.prog 21 #[.pointer (some ⟨R.q, 0, none⟩)] w fun e w' => e = .returned (.tuple #[.int .i64 (-1), .bool false]) ∧ Below w.heap.size w w' := by
  have c0 : w.cell? ⟨R.q, 0, none⟩ = some R.v := k.blk.cell 0
  have hq := k.blk.lt
  obtain ⟨A, c, ev, -⟩ := k.row.shape
  rw [ev] at c0
  simp only [List.length_nil] at c0
  clear k ev
  go_enter Try.func21, Try.ntmps21
  go_wp2_with fail
  go_ret2
  exact ⟨rfl, Below.refl _ _⟩
def RelN (n : Nat) (l : List Wt) (dv iv : Value) : Prop := ∃ (i : Nat) (D : Int), iv = .int .i64 i ∧ dv = .int .u64 D ∧ i ≤ n ∧ (∃ x ∈ l, x.dead = D) ∧ ∀ (j : Nat) y, j < i → l[j]? = some y → D ≤ y.dead
set_option maxRecDepth 100000 in
set_option maxHeartbeats 2000000 in
theorem rnext_any {w : World} {R : Qp} {l : List Wt} {h : Int} {d : Bool} (k : IsR w R l h d) (h0 : 0 < l.length) :
    Calls Try.prog 21 #[.pointer (some ⟨R.q, 0, none⟩)] w fun e w' => (∃ b dn, e = .returned (.tuple #[.int .i64 b, .bool dn]) ∧ NextSpec l h d b dn) ∧ Below w.heap.size w w' := by
  have KH := Lib.hid k
  have PA := fun W (b : Below w.heap.size w W) D dn => Lib.hid (pick_any (k.below b) D dn)
  have c0 : w.cell? ⟨R.q, 0, none⟩ = some R.v := k.blk.cell 0
  have c2 : w.cell? ⟨R.q, 2, none⟩ = some (.bool d) := k.blk.cell 2
  have hq := k.blk.lt
  obtain ⟨A, c, ev, -⟩ := k.row.shape
  have hs := k.row
  rw [ev] at c0 hs
  have HS := Lib.hid hs
  have hn := k.len
  obtain ⟨n, hnl⟩ : ∃ n, n = l.length := ⟨_, rfl⟩
  rw [← hnl] at c0 hn h0
  have HL := Lib.hid hnl
  obtain ⟨z, hz⟩ : ∃ z, l[0]? = some z := ⟨_, List.getElem?_eq_getElem (by omega)⟩
  obtain ⟨g, off, c', ev2, -, hlt, u0, u1, u2⟩ := hs.wat hz
  simp only [Value.slice.injEq] at ev2
  obtain ⟨rfl, -, -⟩ := ev2
  have HZ := Lib.hid (show ∃ x ∈ l, x.dead = z.dead from ⟨z, List.mem_of_getElem? hz, rfl⟩)
  have u1 : w.cell? ⟨g, off + 1, none⟩ = some (.int .u64 z.dead) := by simpa using u1
  have e0 : ((n : Int) == 0) = false := beq_eq_false_iff_ne.2 (by omega)
  have e1 : (0 : Int) < (n : Int) := by omega
  clear k ev hs hnl hz u0 u2
  go_enter Try.func21, Try.ntmps21
  go_wp2_with fail
  go_loop [4, 5] (fun dv iv => Hid (RelN n l dv iv)) (fun _ iv => (n - intOf iv).toNat)
  case atStart => exact ⟨0, z.dead, rfl, rfl, by omega, HZ.out, fun j y hj => by omega⟩
  case round =>
    obtain ⟨i, D, rfl, rfl, hi, hex, hmin⟩ := hrel
    have HE := Lib.hid hex
    have HM := Lib.hid hmin
    clear hex hmin
    by_cases hin : i < n
    · have hin2 : (i : Int) < n := by omega
      obtain ⟨x, hx⟩ : ∃ x, l[i]? = some x := ⟨_, List.getElem?_eq_getElem (by have := HL.out; omega)⟩
      obtain ⟨g', off', c', ev, -, hlt', v0, v1, v2⟩ := HS.out.wat hx
      simp only [Value.slice.injEq, Option.some.injEq, Addr.mk.injEq] at ev
      obtain ⟨⟨rfl, rfl, -⟩, -, -⟩ := ev
      have g1 : IntKind.i64.wrap ((i : Int) + 1) = i + 1 := IntWalk.i64_in _ (by omega)
      have HX := Lib.hid hx
      have stp : ∀ E, E ≤ D → E ≤ x.dead → Hid (∀ (j : Nat) y, j < i + 1 → l[j]? = some y → E ≤ y.dead) := fun E h1 h2 j y hj hy => by
        by_cases e : j = i
        · subst e
          have := HX.out
          rw [hy] at this; injection this with this; rw [this]; exact h2
        · have := HM.out j y (by omega) hy; omega
      have HXM := Lib.hid (List.mem_of_getElem? hx)
      clear hx v0 v2
      by_cases h1 : x.dead < D
      · have f1 : decide (x.dead < D) = true := decide_eq_true h1
        have ST := stp x.dead (by omega) (by omega)
        clear h1 stp
        go_wp2_with fail
        go_round
        case rel => exact ⟨i + 1, x.dead, by go_num, rfl, by omega, ⟨x, HXM.out, rfl⟩, ST.out⟩
        case measure => simp [intOf]; omega
      · have f1 : decide (x.dead < D) = false := decide_eq_false h1
        have ST := stp D (by omega) (by omega)
        clear h1 stp
        go_wp2_with fail
        go_round
        case rel => exact ⟨i + 1, D, by go_num, rfl, by omega, HE.out, ST.out⟩
        case measure => simp [intOf]; omega
    · obtain rfl : i = n := by omega
      have hin2 : ¬ (i : Int) < i := by omega
      have HM2 : Hid (∀ x ∈ l, D ≤ x.dead) := fun x hx => by
        obtain ⟨j, hj, e⟩ := List.mem_iff_getElem.1 hx
        exact HM.out j x (by have := HL.out; omega) (by rw [← e]; exact List.getElem?_eq_getElem hj)
      go_wp2_with fail
      go_at_call 34
      (with_reducible refine Calls.mono (PA _ (Below.refl _ _) _ _).out ?_)
      rintro e w1 ⟨⟨b, rfl, ps⟩, b1⟩
      have PS := Lib.hid ps
      have B1 := Lib.hid b1
      clear ps b1
      have k2 : w1.cell? ⟨R.q, 2, none⟩ = some (.bool d) := (B1.out.cell (p := ⟨R.q, 2, none⟩) hq).trans c2
      have hq1 := Nat.lt_of_lt_of_le hq B1.out.size
      by_cases hb : 0 ≤ b
      · have f1 : decide (0 ≤ b) = true := decide_eq_true hb
        have SP := Lib.hid (show NextSpec l h d b d from ⟨D, HE.out, HM2.out, .inl ⟨PS.out, hb, rfl⟩⟩)
        clear hb
        go_wp2_with fail
        go_quiet (fail)
        go_wp2_with fail
        go_ret2
        exact ⟨⟨_, _, rfl, SP.out⟩, Below.drewN' B1.out _⟩
      · have f1 : decide (0 ≤ b) = false := decide_eq_false hb
        have P1 : Hid (PickSpec l l.length D h d (-1)) := by
          show PickSpec _ _ _ _ _ _
          rcases PS.out with ⟨e, p⟩ | ⟨m, x, e, -⟩
          · exact .inl ⟨rfl, p⟩
          · omega
        have SP := fun b' (p : PickSpec l l.length D h (!d) b') => Lib.hid (show NextSpec l h d b' (!d) from ⟨D, HE.out, HM2.out, .inr ⟨P1.out, p, rfl⟩⟩)
        have HSD : Hid (SN R.q d w1.drew) := ⟨k2, hq1⟩
        have SNH := Lib.hid (show ∀ W, Below w1.drew.heap.size w1.drew W → SN R.q d W from fun W o => ⟨(o.cell (p := ⟨R.q, 2, none⟩) hq1).trans k2, Nat.lt_of_lt_of_le hq1 o.size⟩)
        clear hb
        go_wp2_with fail
        refine wp_region_zone (SN R.q d) (fun j => true) (by kernel_rfl) ?_
        refine wpAnyZ_move (i := 0) (v := ?_) rfl (by kernel_rfl) (by kernel_rfl) (by kernel_rfl) (fun _ _ _ h => h) (Or.inl ⟨by rfl, ?_⟩) ?_
        (rotate_left 1; (focus (intro W; go_simp; try with_reducible rfl)))
        try simp only [Act.put, List.setIfInBounds_toArray, List.set_cons_zero, List.set_cons_succ, List.getElem_toArray, List.getElem_cons_succ, List.getElem_cons_zero]
        refine wpAnyZ_move (i := 1) (v := ?_) rfl (by kernel_rfl) (by kernel_rfl) (by kernel_rfl) (fun _ _ _ h => h) (Or.inl ⟨by rfl, ?_⟩) ?_
        (rotate_left 1; (focus (intro W; go_simp; try with_reducible rfl)))
        try simp only [Act.put, List.setIfInBounds_toArray, List.set_cons_zero, List.set_cons_succ, List.getElem_toArray, List.getElem_cons_succ, List.getElem_cons_zero]
        refine wpAnyZ_move (i := 2) (v := ?_) rfl (by kernel_rfl) (by kernel_rfl) (by kernel_rfl) (fun _ _ _ h => h) (Or.inl ⟨by rfl, ?_⟩) ?_
        (rotate_left 1; (focus (intro W; go_simp; try with_reducible rfl)))
        try simp only [Act.put, List.setIfInBounds_toArray, List.set_cons_zero, List.set_cons_succ, List.getElem_toArray, List.getElem_cons_succ, List.getElem_cons_zero]
        refine wpAnyZ_move (i := 3) (v := ?_) rfl (by kernel_rfl) (by kernel_rfl) (by kernel_rfl) (fun _ _ _ h => h) (Or.inl ⟨by rfl, ?_⟩) ?_
        (rotate_left 1; (focus (intro W; go_simp; try with_reducible rfl)))
        try simp only [Act.put, List.setIfInBounds_toArray, List.set_cons_zero, List.set_cons_succ, List.getElem_toArray, List.getElem_cons_succ, List.getElem_cons_zero]
        refine wpAnyZ_move (i := 4) (v := ?_) rfl (by kernel_rfl) (by kernel_rfl) (by kernel_rfl) (fun _ _ _ h => h) (Or.inl ⟨by rfl, ?_⟩) ?_
        (rotate_left 1; (focus (intro W; go_simp; try with_reducible rfl)))
        try simp only [Act.put, List.setIfInBounds_toArray, List.set_cons_zero, List.set_cons_succ, List.getElem_toArray, List.getElem_cons_succ, List.getElem_cons_zero]
        refine wpAnyZ_take (i := 5) (v := ?_) rfl (by kernel_rfl) (by kernel_rfl) (by kernel_rfl) (by kernel_rfl) (fun _ _ _ h => h) (Or.inl ⟨by rfl, ?_⟩) HSD.out ?_
        (rotate_left 1; (focus (intro W hS; obtain ⟨y0, yl⟩ := hS; go_simp; try with_reducible rfl)))
        try simp only [Act.put, List.setIfInBounds_toArray, List.set_cons_zero, List.set_cons_succ, List.getElem_toArray, List.getElem_cons_succ, List.getElem_cons_zero]
        refine wpAnyZ_move (i := 6) (v := ?_) rfl (by kernel_rfl) (by kernel_rfl) (by kernel_rfl) (fun _ _ _ h => h) (Or.inl ⟨by rfl, ?_⟩) ?_
        (rotate_left 1; (focus (intro W; go_simp; try with_reducible rfl)))
        try simp only [Act.put, List.setIfInBounds_toArray, List.set_cons_zero, List.set_cons_succ, List.getElem_toArray, List.getElem_cons_succ, List.getElem_cons_zero]
        refine wpAnyZ_move (i := 8) (v := ?_) rfl (by kernel_rfl) (by kernel_rfl) (by kernel_rfl) (fun _ _ _ h => h) (Or.inl ⟨by rfl, ?_⟩) ?_
        (rotate_left 1; (focus (intro W; go_simp; try with_reducible rfl)))
        try simp only [Act.put, List.setIfInBounds_toArray, List.set_cons_zero, List.set_cons_succ, List.getElem_toArray, List.getElem_cons_succ, List.getElem_cons_zero]
        refine wpAnyZ_move (i := 9) (v := ?_) rfl (by kernel_rfl) (by kernel_rfl) (by kernel_rfl) (fun _ _ _ h => h) (Or.inl ⟨by rfl, ?_⟩) ?_
        (rotate_left 1; (focus (intro W; go_simp; try with_reducible rfl)))
        try simp only [Act.put, List.setIfInBounds_toArray, List.set_cons_zero, List.set_cons_succ, List.getElem_toArray, List.getElem_cons_succ, List.getElem_cons_zero]
        refine wpAnyZ_move (i := 10) (v := ?_) rfl (by kernel_rfl) (by kernel_rfl) (by kernel_rfl) (fun _ _ _ h => h) (Or.inl ⟨by rfl, ?_⟩) ?_
        (rotate_left 1; (focus (intro W; go_simp; try with_reducible rfl)))
        try simp only [Act.put, List.setIfInBounds_toArray, List.set_cons_zero, List.set_cons_succ, List.getElem_toArray, List.getElem_cons_succ, List.getElem_cons_zero]
        refine wpAnyZ_take (i := 11) (v := ?_) rfl (by kernel_rfl) (by kernel_rfl) (by kernel_rfl) (by kernel_rfl) (fun _ _ _ h => h) (Or.inl ⟨by rfl, ?_⟩) HSD.out ?_
        (rotate_left 1; (focus (intro W hS; obtain ⟨y0, yl⟩ := hS; go_simp; try with_reducible rfl)))
        try simp only [Act.put, List.setIfInBounds_toArray, List.set_cons_zero, List.set_cons_succ, List.getElem_toArray, List.getElem_cons_succ, List.getElem_cons_zero]
        refine wpAnyZ_move (i := 12) (v := ?_) rfl (by kernel_rfl) (by kernel_rfl) (by kernel_rfl) (fun _ _ _ h => h) (Or.inl ⟨by rfl, ?_⟩) ?_
        (rotate_left 1; (focus (intro W; go_simp; try with_reducible rfl)))
        try simp only [Act.put, List.setIfInBounds_toArray, List.set_cons_zero, List.set_cons_succ, List.getElem_toArray, List.getElem_cons_succ, List.getElem_cons_zero]
        refine wpAnyZ_one (i := 7) (by kernel_rfl) rfl (fun K hK => ?_)
        go_simp
        go_wp2_with (go_at_call 34; (with_reducible refine Calls.mono (PA _ B1.out.drew _ _).out ?_); rintro e w2 ⟨⟨b', rfl, ps⟩, b2⟩; have SP2 := SP _ ps; have SN2 := Lib.hid (SNH.out _ b2); have B2 := Lib.hid (Below.next B1.out.drew b2); clear ps b2)
        refine hK.out _ _ (fun _ _ => SN2.out) ?_
        clear hK K
        refine wpAnyZ_move (i := 13) (v := ?_) rfl (by kernel_rfl) (by kernel_rfl) (by kernel_rfl) (fun _ _ _ h => h) (Or.inl ⟨by rfl, ?_⟩) ?_
        (rotate_left 1; (focus (intro W; go_simp; try with_reducible rfl)))
        try simp only [Act.put, List.setIfInBounds_toArray, List.set_cons_zero, List.set_cons_succ, List.getElem_toArray, List.getElem_cons_succ, List.getElem_cons_zero]
        refine wpAnyZ_move (i := 14) (v := ?_) rfl (by kernel_rfl) (by kernel_rfl) (by kernel_rfl) (fun _ _ _ h => h) (Or.inl ⟨by rfl, ?_⟩) ?_
        (rotate_left 1; (focus (intro W; go_simp; try with_reducible rfl)))
        try simp only [Act.put, List.setIfInBounds_toArray, List.set_cons_zero, List.set_cons_succ, List.getElem_toArray, List.getElem_cons_succ, List.getElem_cons_zero]
        refine wpAnyZ_done (by kernel_rfl) ?_ _
        go_wp2_with fail
        go_ret2
        exact ⟨⟨_, _, rfl, SP2.out⟩, B2.out⟩
theorem rtake_none {w : World} {R : Qp} {h : Int} {d : Bool} (k : IsR w R [] h d) :
    Calls Try.prog 20 #[.pointer (some ⟨R.q, 0, none⟩)] w fun e w' => e = .returned (.tuple #[.agg #[.int .i64 0, .int .u64 0, .int .i64 0], .int .i64 5]) ∧ StepR w w' R [] h d := by
  have b1 : Below w.heap.size w (w.alloc (.cells #[.int .i64 0, .int .u64 0, .int .i64 0] 30)) := (Below.refl _ _).alloc (Nat.le_refl _) _
  have res := Blk.new w 30 [.int .i64 0, .int .u64 0, .int .i64 0]
  have N := Lib.hid (rnext_none (k.below b1))
  have BW := Lib.hid b1
  have RES := Lib.hid res
  have KH := Lib.hid k
  clear k b1 res
  go_enter Try.func20, Try.ntmps20
  go_wp2_with (first
    | (go_at_call 21; (with_reducible refine Calls.mono N.out ?_); rintro e w1 ⟨rfl, b1⟩; have R1 := Lib.hid (RES.out.below b1 RES.out.lt); have r0 := R1.out.cell 0; have r1 := R1.out.cell 1; have r2 := R1.out.cell 2; have f0 := R1.out.free 0; have f1 := R1.out.free 1; have f2 := R1.out.free 2; have rl := R1.out.lt; have B1 := Lib.hid (Below.next BW.out b1); clear b1))
  (try simp only [Exit.inBlock, Exit.then])
  refine bodyPost_ret (ret_cell rfl _ rfl (((R1.out.put 0 _).put 1 _).put 2 _) Try.underlying30 rfl (by kernel_rfl)) rfl ?_
  have X := fun v1 v2 v3 => ((Below.setCell B1.out (p := ⟨w.heap.size, 0, none⟩) (Nat.le_refl _) v1).setCell (p := ⟨w.heap.size, 1, none⟩) (Nat.le_refl _) v2).setCell (p := ⟨w.heap.size, 2, none⟩) (Nat.le_refl _) v3
  exact ⟨rfl, .same KH.out (X _ _ _)⟩
set_option maxHeartbeats 2000000 in
theorem rtake_any {w : World} {R : Qp} {l : List Wt} {h : Int} {d : Bool} (k : IsR w R l h d) (h0 : 0 < l.length) {x1 x2 x3 : Int} {dn : Bool} (hN : ∀ b dn', NextSpec l h d b dn' → dn' = dn ∧ ∃ i : Nat, b = i ∧ l[i]? = some ⟨x1, x2, x3⟩) :
    Calls Try.prog 20 #[.pointer (some ⟨R.q, 0, none⟩)] w fun e w' => e = .returned (.tuple #[.agg #[.int .i64 x1, .int .u64 x2, .int .i64 x3], .int .i64 0]) ∧ StepR w w' R (dropF l x1).2 x3 dn := by
  have b1 : Below w.heap.size w (w.alloc (.cells #[.int .i64 0, .int .u64 0, .int .i64 0] 30)) := (Below.refl _ _).alloc (Nat.le_refl _) _
  have res := Blk.new w 30 [.int .i64 0, .int .u64 0, .int .i64 0]
  have N := Lib.hid (rnext_any (k.below b1) h0)
  have BW := Lib.hid b1
  have RES := Lib.hid res
  have KH := Lib.hid k
  have HNX := Lib.hid hN
  have DR : ∀ W id, Hid (Below w.heap.size w W → Calls Try.prog 19 #[.pointer (some ⟨R.q, 0, none⟩), .int .i64 id] W fun e w' => e = .returned (.int .i64 (dropF l id).1) ∧ StepR W w' R (dropF l id).2 h d) := fun W id b => rdrop_any (k.below b) id
  clear k b1 res hN
  go_enter Try.func20, Try.ntmps20
  go_wp2_with fail
  go_at_call 21
  (with_reducible refine Calls.mono N.out ?_)
  rintro e w1 ⟨⟨b, dn', rfl, ns⟩, b1⟩
  obtain ⟨rfl, i, rfl, hx⟩ := HNX.out _ _ ns
  have R1 := Lib.hid (RES.out.below b1 RES.out.lt)
  have U1 := Lib.hid (Blk.new w1 30 [.int .i64 x1, .int .u64 x2, .int .i64 x3])
  have B1 := Lib.hid (Below.next BW.out b1)
  have B2 := Lib.hid (B1.out.alloc B1.out.size (.cells #[.int .i64 x1, .int .u64 x2, .int .i64 x3] 30))
  have k1 := KH.out.below B1.out
  obtain ⟨g, off, c, ev, -, hlt, u0, u1, u2⟩ := k1.row.wat hx
  have q0 : w1.cell? ⟨R.q, 0, none⟩ = some R.v := k1.blk.cell 0
  rw [ev] at q0
  have hq := k1.blk.lt
  have hil : (i : Int) < (l.length : Int) := by have := (List.getElem?_eq_some_iff.1 hx).1; omega
  have d0 : decide ((i : Int) < 0) = false := decide_eq_false (by omega)
  have d0' : ¬ (i : Int) < 0 := by omega
  simp only at u0 u1 u2
  clear ns b1 k1 ev hx
  go_wp2_with (first
    | (go_at_call 19; (with_reducible refine Calls.mono ((DR _ _).out B2.out) ?_); rintro e w3 ⟨rfl, v3, k3, o3, n3⟩; have hql := KH.out.lt (.inl rfl); have s1 := B1.out.size; have s2 := B2.out.size; have R3 := Lib.hid ((R1.out.alloc (.cells #[.int .i64 x1, .int .u64 x2, .int .i64 x3] 30)).only o3 (fun e => Nat.lt_irrefl _ (KH.out.lt e))); have U3 := Lib.hid (U1.out.only o3 (fun e => Nat.lt_irrefl _ (Nat.lt_of_lt_of_le (KH.out.lt e) s1))); have q1 : w3.cell? ⟨R.q, 1, none⟩ = some (.int .i64 h) := k3.blk.cell 1; have q2 : w3.cell? ⟨R.q, 2, none⟩ = some (.bool d) := k3.blk.cell 2; have p1 : w3.frozen? ⟨R.q, 1, none⟩ = false := k3.blk.free 1; have p2 : w3.frozen? ⟨R.q, 2, none⟩ = false := k3.blk.free 2; have ql3 : R.q < w3.heap.size := k3.blk.lt; have r0 := R3.out.cell 0; have r1 := R3.out.cell 1; have r2 := R3.out.cell 2; have f0 := R3.out.free 0; have f1 := R3.out.free 1; have f2 := R3.out.free 2; have rl := R3.out.lt; have u0 := U3.out.cell 0; have u1 := U3.out.cell 1; have u2 := U3.out.cell 2; have ul := U3.out.lt; have nq1 : ¬ R.q = w.heap.size := (by omega); have nq1' : ¬ w.heap.size = R.q := (by omega); have nq2 : ¬ R.q = w1.heap.size := (by omega); have nq2' : ¬ w1.heap.size = R.q := (by omega); have K3 := Lib.hid k3; have O3 := Lib.hid o3; have N3 := Lib.hid n3; clear k3 o3 n3 s1 s2))
  (try simp only [Exit.inBlock, Exit.then])
  have nres : v3.ownBlock ≠ some w.heap.size := fun e => by
    rcases N3.out _ e with e | e
    · exact Nat.lt_irrefl _ (KH.out.lt (.inr e))
    · have := B1.out.size; simp at e; omega
  have nq : v3.ownBlock ≠ some R.q := K3.out.row.ne K3.out.blk (by decide)
  refine bodyPost_ret (ret_cell rfl _ rfl (((((R3.out.far (p := ⟨R.q, 1, none⟩) nq1' _).far (p := ⟨R.q, 2, none⟩) nq1' _).put 0 _).put 1 _).put 2 _) Try.underlying30 rfl (by kernel_rfl)) rfl ?_
  refine ⟨rfl, v3, ⟨((((K3.out.blk.put 1 _).put 2 _).far (p := ⟨w.heap.size, 0, none⟩) nq1 _).far (p := ⟨w.heap.size, 1, none⟩) nq1 _).far (p := ⟨w.heap.size, 2, none⟩) nq1 _, ((((K3.out.row.far (p := ⟨R.q, 1, none⟩) nq _).far (p := ⟨R.q, 2, none⟩) nq _).far (p := ⟨w.heap.size, 0, none⟩) nres _).far (p := ⟨w.heap.size, 1, none⟩) nres _).far (p := ⟨w.heap.size, 2, none⟩) nres _, K3.out.len⟩, ?_, fun g e => ?_⟩
  · have O := (Only.of_below (F := R.all) B2.out).trans O3.out (fun _ _ h => h)
    exact ((((O.setCell (p := ⟨R.q, 1, none⟩) (fun _ => .inl rfl) _).setCell (p := ⟨R.q, 2, none⟩) (fun _ => .inl rfl) _).setCell (p := ⟨w.heap.size, 0, none⟩) (fun e => absurd e (Nat.lt_irrefl _)) _).setCell (p := ⟨w.heap.size, 1, none⟩) (fun e => absurd e (Nat.lt_irrefl _)) _).setCell (p := ⟨w.heap.size, 2, none⟩) (fun e => absurd e (Nat.lt_irrefl _)) _
  · exact (N3.out g e).imp_right (fun e => Nat.le_trans B2.out.size e)
end Go.Proofs.Ytinpaplpgoljpaa
