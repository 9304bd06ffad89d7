/- Layer 18 (order): requests, how one stands to another one; May, compare. -/
import Derived.Test.YtinpaplpgoljpaaMem
import Derived.Test.YtinpaplpgoljpaaSlc
import Derived.Test.YtinpaplpgoljpaaStill
import Derived.Deep.QuietTactic
import Derived.BigQuiet
import Derived.StillTailTactics
import Derived.Deep.RegionLaw
import Derived.Deep.RegionWith
import Derived.Deep.RegionHeld3
namespace Go.Proofs.Ytinpaplpgoljpaa
open Go.RowKit
set_option linter.unusedVariables false
set_option linter.unusedSimpArgs false
/-- A request: its number, its time, its track. -/
structure Wt where
  id : Int
  dead : Int
  track : Int
deriving DecidableEq
def wc (x : Wt) : List Value := [.int .i64 x.id, .int .u64 x.dead, .int .i64 x.track]
def wv (x : Wt) : Value := .agg #[.int .i64 x.id, .int .u64 x.dead, .int .i64 x.track]
def flatW : List Wt → List Value
  | [] => []
  | x :: r => .int .i64 x.id :: .int .u64 x.dead :: .int .i64 x.track :: flatW r
theorem flatW_len (l : List Wt) : (flatW l).length = l.length * 3 := by induction l with
  | nil => rfl
  | cons e r ih => simp [flatW, ih]; omega
theorem flatW_app (l k : List Wt) : flatW (l ++ k) = flatW l ++ flatW k := by induction l with
  | nil => rfl
  | cons e r ih => simp [flatW, ih]
theorem flatW_at (l : List Wt) : ∀ (i : Nat) (e : Wt), l[i]? = some e → (flatW l)[i * 3]? = some (.int .i64 e.id) ∧ (flatW l)[i * 3 + 1]? = some (.int .u64 e.dead) ∧ (flatW l)[i * 3 + 2]? = some (.int .i64 e.track) := by
  induction l with
  | nil => intro i e h; simp at h
  | cons x r ih =>
    intro i e h
    cases i with
    | zero => simp at h; subst h; simp [flatW]
    | succ i =>
      rw [List.getElem?_cons_succ] at h
      obtain ⟨a, b, c⟩ := ih i e h
      rw [show (i + 1) * 3 = i * 3 + 1 + 1 + 1 by omega]
      exact ⟨by simpa [flatW] using a, by simpa [flatW] using b, by simpa [flatW] using c⟩
/-- The cells of the element i. -/
theorem Slc.wat {w : World} {v : Value} {n : Nat} {l : List Wt} (h : Slc w 30 3 v n (flatW l)) {i : Nat} {x : Wt} (hx : l[i]? = some x) : ∃ g off c, v = .slice (some ⟨g, off, none⟩) n c ∧ n ≤ c ∧ g < w.heap.size ∧
    w.cell? ⟨g, off + i * 3, none⟩ = some (.int .i64 x.id) ∧ w.cell? ⟨g, off + i * 3 + 1, none⟩ = some (.int .u64 x.dead) ∧ w.cell? ⟨g, off + i * 3 + 2, none⟩ = some (.int .i64 x.track) := by
  have hn : 0 < n := by
    have h1 := h.1
    rw [flatW_len] at h1
    have := (List.getElem?_eq_some_iff.1 hx).1
    omega
  obtain ⟨g, off, c, e, hc, -, hl, hcell, -⟩ := h.at_ hn
  obtain ⟨a, b, d⟩ := flatW_at l i x hx
  exact ⟨g, off, c, e, hc, hl, hcell _ _ a, by rw [show off + i * 3 + 1 = off + (i * 3 + 1) by omega]; exact hcell _ _ b, by rw [show off + i * 3 + 2 = off + (i * 3 + 2) by omega]; exact hcell _ _ d⟩
theorem Slc.wlen {w : World} {v : Value} {n : Nat} {l : List Wt} (h : Slc w 30 3 v n (flatW l)) : l.length = n := by
  have h1 := h.1
  rw [flatW_len] at h1
  omega
/-- Whether a request may be. -/
def mayW (x : Wt) : Bool := decide (0 ≤ x.id ∧ x.id ≤ 65535 ∧ x.dead < 4611686018427387904 ∧ 0 ≤ x.track ∧ x.track ≤ 1048576)
/-- How one stands to another one. -/
def cmpI (a b : Int) : Int := if a < b then -1 else if b < a then 1 else 0
def cmpW (a b : Wt) : Int := if cmpI a.dead b.dead ≠ 0 then cmpI a.dead b.dead else if cmpI a.track b.track ≠ 0 then cmpI a.track b.track else cmpI a.id b.id
theorem nanU_any (a : Int) (w : World) : Calls Try.prog 47 #[.int .u64 a] w fun e w' => e = .returned (.bool false) ∧ w' = w := by
  go_enter Try.func47, Try.ntmps47
  go_wp2
  go_ret
  exact ⟨by simp, rfl⟩
theorem nanI_any (a : Int) (w : World) : Calls Try.prog 48 #[.int .i64 a] w fun e w' => e = .returned (.bool false) ∧ w' = w := by
  go_enter Try.func48, Try.ntmps48
  go_wp2
  go_ret
  exact ⟨by simp, rfl⟩
theorem cmpU_any (a b : Int) (w : World) : Calls Try.prog 40 #[.int .u64 a, .int .u64 b] w fun e w' => e = .returned (.int .i64 (cmpI a b)) ∧ w' = w := by
  unfold cmpI
  by_cases h1 : a < b
  · rw [if_pos h1]
    have d1 : decide (a < b) = true := decide_eq_true h1
    go_enter Try.func40, Try.ntmps40
    go_wp2_with (go_at_call 47; (with_reducible refine Calls.mono (nanU_any _ _) ?_); rintro e w' ⟨rfl, rfl⟩)
    go_ret
    exact ⟨rfl, rfl⟩
  · rw [if_neg h1]
    have d1 : decide (a < b) = false := decide_eq_false h1
    by_cases h2 : b < a
    · rw [if_pos h2]
      have d2 : decide (b < a) = true := decide_eq_true h2
      go_enter Try.func40, Try.ntmps40
      go_wp2_with (go_at_call 47; (with_reducible refine Calls.mono (nanU_any _ _) ?_); rintro e w' ⟨rfl, rfl⟩)
      go_ret
      exact ⟨rfl, rfl⟩
    · rw [if_neg h2]
      have d2 : decide (b < a) = false := decide_eq_false h2
      go_enter Try.func40, Try.ntmps40
      go_wp2_with (go_at_call 47; (with_reducible refine Calls.mono (nanU_any _ _) ?_); rintro e w' ⟨rfl, rfl⟩)
      go_ret
      exact ⟨rfl, rfl⟩
theorem cmpI_any (a b : Int) (w : World) : Calls Try.prog 41 #[.int .i64 a, .int .i64 b] w fun e w' => e = .returned (.int .i64 (cmpI a b)) ∧ w' = w := by
  unfold cmpI
  by_cases h1 : a < b
  · rw [if_pos h1]
    have d1 : decide (a < b) = true := decide_eq_true h1
    go_enter Try.func41, Try.ntmps41
    go_wp2_with (go_at_call 48; (with_reducible refine Calls.mono (nanI_any _ _) ?_); rintro e w' ⟨rfl, rfl⟩)
    go_ret
    exact ⟨rfl, rfl⟩
  · rw [if_neg h1]
    have d1 : decide (a < b) = false := decide_eq_false h1
    by_cases h2 : b < a
    · rw [if_pos h2]
      have d2 : decide (b < a) = true := decide_eq_true h2
      go_enter Try.func41, Try.ntmps41
      go_wp2_with (go_at_call 48; (with_reducible refine Calls.mono (nanI_any _ _) ?_); rintro e w' ⟨rfl, rfl⟩)
      go_ret
      exact ⟨rfl, rfl⟩
    · rw [if_neg h2]
      have d2 : decide (b < a) = false := decide_eq_false h2
      go_enter Try.func41, Try.ntmps41
      go_wp2_with (go_at_call 48; (with_reducible refine Calls.mono (nanI_any _ _) ?_); rintro e w' ⟨rfl, rfl⟩)
      go_ret
      exact ⟨rfl, rfl⟩
/-- The first one that isn't zero. -/
def orL : List Int → Int
  | [] => 0
  | x :: r => if x ≠ 0 then x else orL r
theorem orL_drop (l : List Int) (i : Nat) (x : Int) (h : l[i]? = some x) : orL (l.drop i) = if x ≠ 0 then x else orL (l.drop (i + 1)) := by
  rw [List.drop_eq_getElem_cons (List.getElem?_eq_some_iff.1 h).1, (List.getElem?_eq_some_iff.1 h).2]
  rfl
set_option maxHeartbeats 1000000 in
theorem or_any (w : World) (A : Addr) (hA : A.spot = none) (n c : Nat) (l : List Int) (hl : l.length = n) (hn : n ≤ 1000) (hc : ∀ i x, l[i]? = some x → w.cell? ⟨A.block, A.off + i, none⟩ = some (.int .i64 x)) :
    Calls Try.prog 39 #[.slice (some A) n c] w fun e w' => e = .returned (.int .i64 (orL l)) ∧ w' = w := by
  obtain ⟨g, off, sp⟩ := A
  simp only at hA hc
  subst hA
  have HC := Lib.hid hc
  have HL := Lib.hid hl
  clear hc hl
  go_enter Try.func39, Try.ntmps39
  go_wp2_with fail
  go_loop [8] (fun iv => ∃ i : Nat, iv = .int .i64 i ∧ i ≤ n ∧ Hid (orL l = orL (l.drop i))) (fun iv => (n - intOf iv).toNat)
  case atStart => exact ⟨0, rfl, by omega, rfl⟩
  case round =>
    obtain ⟨i, rfl, hi, ho⟩ := hrel
    by_cases hin : i < n
    · have hin2 : (i : Int) < n := by omega
      obtain ⟨x, hx⟩ : ∃ x, l[i]? = some x := ⟨_, List.getElem?_eq_getElem (by have := HL.out; omega)⟩
      have c0 := HC.out i x hx
      have OD := Lib.hid (orL_drop l i x hx)
      clear hx
      by_cases z : x = 0
      · subst z
        have OE : Hid (orL l = orL (l.drop (i + 1))) := by show _ = _; rw [ho.out, OD.out, if_neg (by simp)]
        go_wp2_with fail
        go_round
        case rel => exact ⟨i + 1, by go_num, by omega, OE⟩
        case measure => simp [intOf]; omega
      · have d1 : (x != 0) = true := bne_iff_ne.2 z
        have OE : Hid (orL l = x) := by show _ = _; rw [ho.out, OD.out, if_pos z]
        clear z
        go_wp2_with fail
        go_ret
        exact ⟨ret1 OE.out.symm, rfl⟩
    · obtain rfl : i = n := by omega
      have hin2 : ¬ (i : Int) < i := by omega
      have OE : Hid (orL l = 0) := by show _ = _; rw [ho.out, List.drop_of_length_le (by have := HL.out; omega)]; rfl
      go_wp2_with fail
      go_ret
      exact ⟨ret1 OE.out.symm, rfl⟩
theorem tmay_any (t : Int) (w : World) : Calls Try.prog 31 #[.int .u64 t] w fun e w' => e = .returned (.bool (decide (t < 4611686018427387904))) ∧ w' = w := by
  go_enter Try.func31, Try.ntmps31
  go_wp2_with fail
  go_ret
  exact ⟨rfl, rfl⟩
theorem cmpW_or (a b : Wt) : orL [cmpI a.dead b.dead, cmpI a.track b.track, cmpI a.id b.id] = cmpW a b := by
  unfold cmpW orL orL orL orL
  by_cases h1 : cmpI a.dead b.dead ≠ 0
  · rw [if_pos h1, if_pos h1]
  · rw [if_neg h1, if_neg h1]
    by_cases h2 : cmpI a.track b.track ≠ 0
    · rw [if_pos h2, if_pos h2]
    · rw [if_neg h2, if_neg h2]
      split
      · rfl
      · rename_i h3; simp at h3; exact h3.symm
theorem or3 {W : World} {B : Nat} {x y z : Int} (k : Blk W B 3 [.int .i64 x, .int .i64 y, .int .i64 z]) : Calls Try.prog 39 #[.slice (some ⟨B, 0, none⟩) 3 3] W fun e w' => e = .returned (.int .i64 (orL [x, y, z])) ∧ w' = W := by
  refine or_any _ ⟨B, 0, none⟩ rfl 3 3 [x, y, z] rfl (by omega) fun i u hu => ?_
  have := k.cell (0 + i)
  rw [this, Nat.zero_add]
  match i, hu with
  | 0, hu => simpa using hu
  | 1, hu => simpa using hu
  | 2, hu => simpa using hu
set_option maxHeartbeats 2000000 in
theorem comp_any (a b : Wt) (w : World) : Calls Try.prog 27 #[wv a, wv b] w fun e w' => e = .returned (.int .i64 (cmpW a b)) ∧ Below w.heap.size w w' := by
  unfold wv
  have E := Lib.hid (cmpW_or a b)
  have OR := fun W B (k : Blk W B 3 [.int .i64 (cmpI a.dead b.dead), .int .i64 (cmpI a.track b.track), .int .i64 (cmpI a.id b.id)]) => Lib.hid (or3 k)
  generalize cmpW a b = r at *
  generalize orL [cmpI a.dead b.dead, cmpI a.track b.track, cmpI a.id b.id] = r2 at *
  have C1 := fun W => Lib.hid (cmpU_any a.dead b.dead W)
  have C2 := fun W => Lib.hid (cmpI_any a.track b.track W)
  have C3 := fun W => Lib.hid (cmpI_any a.id b.id W)
  generalize cmpI a.dead b.dead = x1 at *
  generalize cmpI a.track b.track = x2 at *
  generalize cmpI a.id b.id = x3 at *
  obtain ⟨a1, a2, a3⟩ := a
  obtain ⟨b1, b2, b3⟩ := b
  simp only at C1 C2 C3
  have K3 := Blk.new ((w.alloc (.cells #[.int .i64 a1, .int .u64 a2, .int .i64 a3] 30)).alloc (.cells #[.int .i64 b1, .int .u64 b2, .int .i64 b3] 30)) 3 [.int .i64 x1, .int .i64 x2, .int .i64 x3]
  simp only [World.size_alloc] at K3
  have KH := Lib.hid K3
  clear K3
  go_enter Try.func27, Try.ntmps27
  go_wp2_with fail
  go_region_held3 (fun W => W.cell? ⟨w.heap.size, 0, none⟩ = some (.int .i64 a1) ∧ W.cell? ⟨w.heap.size, 1, none⟩ = some (.int .u64 a2) ∧ W.cell? ⟨w.heap.size, 2, none⟩ = some (.int .i64 a3) ∧ W.cell? ⟨w.heap.size + 1, 0, none⟩ = some (.int .i64 b1) ∧ W.cell? ⟨w.heap.size + 1, 1, none⟩ = some (.int .u64 b2) ∧ W.cell? ⟨w.heap.size + 1, 2, none⟩ = some (.int .i64 b3)) (go_keep)
    (first
      | (go_at_call 40; (with_reducible refine Calls.mono (C1 _).out ?_); rintro e w' ⟨rfl, rfl⟩)
      | (go_at_call 41; (with_reducible refine Calls.mono (C2 _).out ?_); rintro e w' ⟨rfl, rfl⟩)
      | (go_at_call 41; (with_reducible refine Calls.mono (C3 _).out ?_); rintro e w' ⟨rfl, rfl⟩)
      | (go_at_call 39; (with_reducible refine Calls.mono (OR _ _ (Blk.drew KH.out)).out ?_); rintro e w' ⟨rfl, rfl⟩))
  all_goals
    go_wp2
    go_ret
    exact ⟨ret1 E.out, ((((Below.refl _ _).alloc (Nat.le_refl _) _).alloc (by simp) _).alloc (by simp; omega) _).drew⟩
set_option maxHeartbeats 1000000 in
theorem mayw_any (x : Wt) (w : World) : Calls Try.prog 14 #[wv x] w fun e w' => e = .returned (.bool (mayW x)) ∧ Below w.heap.size w w' := by
  obtain ⟨a, b, c⟩ := x
  unfold wv
  simp only
  have T := fun W => Lib.hid (tmay_any b W)
  have fin : ∀ n, Below w.heap.size w ((w.alloc (.cells #[.int .i64 a, .int .u64 b, .int .i64 c] 30)).drewN n) := fun n => Below.drewN' ((Below.refl _ _).alloc (Nat.le_refl _) _) n
  have FIN := Lib.hid fin
  clear fin
  have go : ∀ r : Bool, (mayW ⟨a, b, c⟩ = r) → Hid (mayW ⟨a, b, c⟩ = r) := fun r h => h
  by_cases h1 : 0 ≤ a
  · have d1 : decide (0 ≤ a) = true := decide_eq_true h1
    by_cases h2 : a ≤ 65535
    · have d2 : decide (a ≤ 65535) = true := decide_eq_true h2
      by_cases h3 : b < 4611686018427387904
      · have d3 : decide (b < 4611686018427387904) = true := decide_eq_true h3
        rw [d3] at T
        by_cases h4 : 0 ≤ c
        · have d4 : decide (0 ≤ c) = true := decide_eq_true h4
          by_cases h5 : c ≤ 1048576
          · have d5 : decide (c ≤ 1048576) = true := decide_eq_true h5
            have E := go true (decide_eq_true ⟨h1, h2, h3, h4, h5⟩)
            (clear go; go_enter Try.func14, Try.ntmps14; go_wp2_with (go_at_call 31; (with_reducible refine Calls.mono (T _).out ?_); rintro e w' ⟨rfl, rfl⟩); go_ret; exact ⟨retb E.out.symm, FIN.out 0⟩)
          · have d5 : decide (c ≤ 1048576) = false := decide_eq_false h5
            have E := go false (decide_eq_false fun h => h5 h.2.2.2.2)
            (clear go; go_enter Try.func14, Try.ntmps14; go_wp2_with (go_at_call 31; (with_reducible refine Calls.mono (T _).out ?_); rintro e w' ⟨rfl, rfl⟩); go_ret; exact ⟨retb E.out.symm, FIN.out 0⟩)
        · have d4 : decide (0 ≤ c) = false := decide_eq_false h4
          have E := go false (decide_eq_false fun h => h4 h.2.2.2.1)
          (clear go; go_enter Try.func14, Try.ntmps14; go_wp2_with (go_at_call 31; (with_reducible refine Calls.mono (T _).out ?_); rintro e w' ⟨rfl, rfl⟩); go_ret; exact ⟨retb E.out.symm, FIN.out 0⟩)
      · have d3 : decide (b < 4611686018427387904) = false := decide_eq_false h3
        rw [d3] at T
        have E := go false (decide_eq_false fun h => h3 h.2.2.1)
        (clear go; go_enter Try.func14, Try.ntmps14; go_wp2_with (go_at_call 31; (with_reducible refine Calls.mono (T _).out ?_); rintro e w' ⟨rfl, rfl⟩); go_ret; exact ⟨retb E.out.symm, FIN.out 0⟩)
    · have d2 : decide (a ≤ 65535) = false := decide_eq_false h2
      have E := go false (decide_eq_false fun h => h2 h.2.1)
      (clear go; go_enter Try.func14, Try.ntmps14; go_wp2_with (go_at_call 31; (with_reducible refine Calls.mono (T _).out ?_); rintro e w' ⟨rfl, rfl⟩); go_ret; exact ⟨retb E.out.symm, FIN.out 0⟩)
  · have d1 : decide (0 ≤ a) = false := decide_eq_false h1
    have E := go false (decide_eq_false fun h => h1 h.1)
    (clear go; go_enter Try.func14, Try.ntmps14; go_wp2_with (go_at_call 31; (with_reducible refine Calls.mono (T _).out ?_); rintro e w' ⟨rfl, rfl⟩); go_ret; exact ⟨retb E.out.symm, FIN.out 0⟩)
end Go.Proofs.Ytinpaplpgoljpaa
