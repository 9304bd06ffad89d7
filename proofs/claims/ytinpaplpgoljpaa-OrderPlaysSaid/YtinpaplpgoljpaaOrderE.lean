/- Layer 18 (order): slices.Delete of one request. -/
import Derived.Test.YtinpaplpgoljpaaOrderD
namespace Go.Proofs.Ytinpaplpgoljpaa
open Go.RowKit
set_option linter.unusedVariables false
set_option linter.unusedSimpArgs false
theorem zeroW (w : World) : (zeroValue 30).run Try.prog w = .ok (.agg #[.int .i64 0, .int .u64 0, .int .i64 0]) w := by kernel_rfl
theorem del_cells {l : List Wt} {n i : Nat} (hl : l.length = n) (hi : i < n) {Z X1 X2 : List Value} (h1 : X1 = (flatW l).take (i * 3) ++ flatW (l.drop (i + 1)) ++ (flatW l).drop (i * 3 + (flatW (l.drop (i + 1))).length))
    (h2 : X2 = X1.take ((n - 1) * 3) ++ Z ++ X1.drop ((n - 1) * 3 + Z.length)) : X2.take ((n - 1) * 3) = flatW (l.take i ++ l.drop (i + 1)) := by
  have e1 : (flatW (l.drop (i + 1))).length = (n - 1 - i) * 3 := by rw [flatW_len, List.length_drop, hl]; congr 1; omega
  have e2 : ((flatW l).take (i * 3) ++ flatW (l.drop (i + 1))).length = (n - 1) * 3 := by
    rw [List.length_append, e1, List.length_take, flatW_len, hl, Nat.min_eq_left (by omega)]; omega
  have e3 : X1.take ((n - 1) * 3) = (flatW l).take (i * 3) ++ flatW (l.drop (i + 1)) := by rw [h1, ← e2, List.take_left']; rfl
  have e4 : (X1.take ((n - 1) * 3)).length = (n - 1) * 3 := by rw [e3, e2]
  rw [h2, List.append_assoc, List.take_left' e4, e3, flatW_take, flatW_app]
set_option maxRecDepth 100000 in
set_option maxHeartbeats 400000 in
/-- slices.Delete of the request i. -/
theorem delete_any (w : World) (A : Option Addr) (n c i : Nat) (l : List Wt) (hs : Slc w 30 3 (.slice A n c) n (flatW l)) (hn : n ≤ 64) (hi : i < n) :
    Calls Try.prog 29 #[.slice A n c, .int .i64 i, .int .i64 ((i : Int) + 1)] w (InsPost w A n c (l.take i ++ l.drop (i + 1))) := by
  have HL := Lib.hid hs.wlen
  obtain ⟨g, off, c', e, hcn, -, -, -, -⟩ := hs.at_ (by omega)
  injection e with e1 _ e3
  subst e1 e3
  have hmx : (c : Int) ≤ 9223372036854775807 := by
    rcases hs.2 with ⟨e, -⟩ | ⟨g', off', c', cs, e, hh, hc, hx, -, -⟩
    · cases e
    · injection e with e1 e2 e3
      subst e3
      simp only [maxLen] at hx; omega
  obtain ⟨i0, hi0, hz0, hz1, hz2⟩ := info_parts infoW
  have hsrc : ∀ (a : Addr), (¬ c = i + 1 → a = ⟨g, off + (i + 1) * 3, none⟩) → ∀ (j : Nat) (v : Value), (flatW (l.drop (i + 1)))[j]? = some v → w.drew.cell? (a.add j) = some v := fun a ha j u hu => by
    have hne : ¬ c = i + 1 := fun e => by
      rw [List.drop_of_length_le (by have := HL.out; omega)] at hu
      simp [flatW] at hu
    rw [ha hne, Addr.add_lit]
    rw [← flatW_drop, List.getElem?_drop] at hu
    obtain ⟨g', off', c', e, -, -, -, hc, -⟩ := hs.drew.at_ (by omega)
    simp only [Value.slice.injEq, Option.some.injEq, Addr.mk.injEq] at e
    obtain ⟨⟨rfl, rfl, -⟩, -, rfl⟩ := e
    have := hc _ _ hu
    rw [← Nat.add_assoc] at this
    exact this
  have run : ∀ (a : Addr) (mc : Nat), (¬ c = i + 1 → a = ⟨g, off + (i + 1) * 3, none⟩) → ∃ w1 w2, (Builtin.append_ #[22, 22] 22 #[.slice (some ⟨g, off, none⟩) i c, .slice (some a) (n - (i + 1)) mc]).run Try.prog w.drew = .ok (.slice (some ⟨g, off, none⟩) (n - 1) c) w1 ∧
      (∀ ty, (Builtin.clear_ #[22] ty #[.slice (some ⟨g, off + (n - 1) * 3, none⟩) (n - (n - 1)) (c - (n - 1))]).run Try.prog w1 = .ok (.tuple #[]) w2) ∧
      InsPost w (some ⟨g, off, none⟩) n c (l.take i ++ l.drop (i + 1)) (.returned (.slice (some ⟨g, off, none⟩) (n - 1) c)) w2 := by
    intro a mc ha
    obtain ⟨w1, hr1, hs1, ho1⟩ := run_append_cut (P := Try.prog) hs.drew 22 22 i0 Try.underlying22 hi0 hz1 i a (n - (i + 1)) mc (flatW (l.drop (i + 1)))
      (by rw [flatW_len, List.length_drop, HL.out]) (hsrc a ha) (flatW_cell _) (by omega)
    have h1 : n - (n - 1) = 1 := by omega
    obtain ⟨w2, zs, hr2, hzl, hs2, ho2⟩ := run_clear_slc (P := Try.prog) hs1 22 _ Try.underlying22 zeroW rfl (by simp [Value.cells, Value.oneCell']) (n - 1) (n - (n - 1)) (c - (n - 1)) (by omega) (by omega)
    have hf := hs2.front3 (m := n - 1) (by omega) (by omega)
    rw [del_cells HL.out hi rfl rfl] at hf
    have LN : (l.take i ++ l.drop (i + 1)).length = n - 1 := by rw [List.length_append, List.length_take, List.length_drop, HL.out]; omega
    have en : i + (n - (i + 1)) = n - 1 := by omega
    rw [en] at hr1
    refine ⟨w1, w2, hr1, hr2, some ⟨g, off, none⟩, c, by rw [LN], by rw [LN]; exact hf, ((Only.refl (fun b => (Value.slice (some ⟨g, off, none⟩) n c).ownBlock = some b) w).drew.trans ho1 (fun b _ h => by simpa [Value.ownBlock] using h)).trans ho2 (fun b _ h => by simpa [Value.ownBlock] using h), fun x hx => .inl (by simpa [Value.ownBlock] using hx)⟩
  have f1 : ((i : Int) == (i : Int) + 1) = false := beq_eq_false_iff_ne.2 (by omega)
  have f1' : ((i : Int) + 1 == (i : Int)) = false := beq_eq_false_iff_ne.2 (by omega)
  have f2 : ¬ n = i := by omega
  have f3 : ¬ c = i := by omega
  have f4 : ¬ c = n - 1 := by omega
  have f5 : (i : Int) + 1 ≤ n := by omega
  have f6 : ((i : Int) + 1).toNat = i + 1 := by omega
  have f7 : (0 : Int) ≤ (i : Int) + 1 := by omega
  have f8 : (i : Int) ≤ (i : Int) + 1 := by omega
  have f9 : (i : Int) ≤ n := by omega
  have g1 : ((n - 1 : Nat) : Int) ≤ n := by omega
  have g2 : (n : Int) ≤ c := by omega
  have g3 : (i : Int) ≤ c := by omega
  have g4 : ((n - 1 : Nat) : Int) ≤ c := by omega
  clear hs hsrc hi0 hz0 hz1 hz2
  by_cases hci : c = i + 1
  · obtain ⟨k, hk⟩ : ∃ k, i + 1 = k := ⟨_, rfl⟩
    obtain ⟨w1, w2, hr1, hr2, hp⟩ := run ⟨g, off, none⟩ 0 (fun h => absurd hci h)
    rw [hk] at hr1
    obtain rfl : n = k := by omega
    obtain rfl : c = n := by omega
    rw [show (i : Int) + 1 = c by omega]
    have f1 : ((i : Int) == (c : Int)) = false := beq_eq_false_iff_ne.2 (by omega)
    have f1' : (i == c) = false := beq_eq_false_iff_ne.2 (by omega)
    have f1'' : ((c : Int) == (i : Int)) = false := beq_eq_false_iff_ne.2 (by omega)
    rw [Nat.sub_self] at hr1
    have R1 := Lib.hid hr1
    have R2 := Lib.hid hr2
    have HP := Lib.hid hp
    clear hr1 hr2 hp run hk hci f5 f6 f7 f8
    have f8 : (i : Int) ≤ c := by omega
    go_enter Try.func29, Try.ntmps29
    go_wp2_with fail
    go_region_law (refine step_append_run2 rfl (.tmp 22) (.tmp 25) 22 22 rfl _ _ (by simp [Act.eval, Act.put]) (by simp [Act.eval, Act.put]) R1.out ?_)
    go_wp2_with (simp only [R2.out])
    go_ret
    exact HP.out
  · have hci2 : ¬ i + 1 = c := fun e => hci e.symm
    obtain ⟨w1, w2, hr1, hr2, hp⟩ := run ⟨g, off + (i + 1) * 3, none⟩ (c - (i + 1)) (fun _ => rfl)
    have R1 := Lib.hid hr1
    have R2 := Lib.hid hr2
    have HP := Lib.hid hp
    clear hr1 hr2 hp run
    go_enter Try.func29, Try.ntmps29
    go_wp2_with fail
    go_region_law (refine step_append_run2 rfl (.tmp 22) (.tmp 25) 22 22 rfl _ _ (by simp [Act.eval, Act.put]) (by simp [Act.eval, Act.put]) R1.out ?_)
    go_wp2_with (simp only [R2.out])
    go_ret
    exact HP.out
end Go.Proofs.Ytinpaplpgoljpaa
