/- Layer 13 (irq): whether all lines may be, as the reference says it; lists of lines. -/
import Derived.Test.YtbdhmjlbogjkoaaIrqArg
import Derived.Test.YtbdhmjlbogjkoaaIrqLawB
namespace Go.Proofs.Ytbdhmjlbogjkoaa
open Go.RowKit
set_option linter.unusedVariables false
set_option linter.unusedSimpArgs false
def allI (n : Nat) (L : Nat → Lp) : Prop := 1 ≤ n ∧ n ≤ 16 ∧ ∀ i, i < n → mayI (L i) = true
def AllPost (w : World) (n : Nat) (L : Nat → Lp) (e : Ending) (w' : World) : Prop := ∃ r, e = .returned (.bool r) ∧ (r = true ↔ allI n L) ∧ Below w.heap.size w w'
def RelAll (w : World) (n : Nat) (L : Nat → Lp) (iv : Value) (wr : World) : Prop := ∃ i : Nat, iv = .int .i64 i ∧ i ≤ n ∧ (∀ j, j < i → mayI (L j) = true) ∧ Below w.heap.size w wr
set_option maxHeartbeats 1000000 in
theorem rall_any (w : World) (A : Option Addr) (n cap : Nat) (L : Nat → Lp) (hA : Hid (Lns w A n L)) (hL : Hid (∀ i, i < n → (L i).rng)) (hn : n ≤ 140737488351232) :
    Calls Try.prog 18 #[.slice A n cap] w (AllPost w n L) := by
  go_enter Try.func18, Try.ntmps18
  go_wp2_with fail
  go_loopw [3] (fun iv wr => Hid (RelAll w n L iv wr)) (fun iv _ => n - (intOf iv).toNat)
  case atStart => exact ⟨0, rfl, by omega, fun j h => by omega, Below.refl _ _⟩
  case round =>
    obtain ⟨i, rfl, hi, hall, hbel⟩ := hrel
    have BEL := Lib.hid hbel
    have HALL := Lib.hid hall
    by_cases hin : i < n
    · have hi2 : (i : Int) < n := by omega
      obtain ⟨ab, ao, rfl, hlt, c0, c1, c2, c3, c4, c5⟩ := hA.out i hin
      have q := fun j => hbel.cell (p := ⟨ab, j, none⟩) hlt
      have q0 := (q _).trans c0
      have q1 := (q _).trans c1
      have q2 := (q _).trans c2
      have q3 := (q _).trans c3
      have q4 := (q _).trans c4
      have q5 := (q _).trans c5
      have CM := fun W => Lib.hid (rmay13_any (L i) (hL.out i hin) W)
      have HMI : ∀ b, mayI (L i) = b → Hid (mayI (L i) = b) := fun b h => Lib.hid h
      clear c0 c1 c2 c3 c4 c5 q hbel hall
      cases hm : mayI (L i) with
      | false =>
        rw [hm] at CM
        have HM := Lib.hid hm
        clear hm HMI
        go_wp2_with (go_at_call 10; (with_reducible refine Calls.mono (CM _).out ?_); rintro e w1 ⟨rfl, b1⟩; have B1 := Lib.hid b1; clear b1)
        go_ret
        exact ⟨false, rfl, ⟨(fun h => by cases h), fun h => by have := h.2.2 i hin; rw [HM.out] at this; cases this⟩, Below.next BEL.out B1.out⟩
      | true =>
        rw [hm] at CM
        have HM := Lib.hid hm
        clear hm HMI
        go_wp2_with (go_at_call 10; (with_reducible refine Calls.mono (CM _).out ?_); rintro e w1 ⟨rfl, b1⟩; have B1 := Lib.hid b1; clear b1)
        go_roundw
        case rel => exact ⟨i + 1, by go_num, by omega, fun j hj => by
          rcases Nat.lt_or_ge j i with h | h
          · exact HALL.out j h
          · rw [show j = i by omega]; exact HM.out, Below.next BEL.out B1.out⟩
        case measure => simp [intOf]; omega
    · have hi2 : ¬ (i : Int) < n := by omega
      obtain rfl : i = n := by omega
      clear hbel hall
      by_cases a1 : 1 ≤ i
      · have d1 : decide (1 ≤ (i : Int)) = true := decide_eq_true (by omega)
        by_cases a2 : i ≤ 16
        · have d2 : decide ((i : Int) ≤ 16) = true := decide_eq_true (by omega)
          go_wp2_with fail
          go_ret
          exact ⟨true, rfl, ⟨fun _ => ⟨a1, a2, HALL.out⟩, fun _ => rfl⟩, BEL.out⟩
        · have d2 : decide ((i : Int) ≤ 16) = false := decide_eq_false (by omega)
          go_wp2_with fail
          go_ret
          exact ⟨false, rfl, ⟨(fun h => by cases h), fun h => absurd h.2.1 a2⟩, BEL.out⟩
      · have d1 : decide (1 ≤ (i : Int)) = false := decide_eq_false (by omega)
        go_wp2_with fail
        go_ret
        exact ⟨false, rfl, ⟨(fun h => by cases h), fun h => absurd h.1 a1⟩, BEL.out⟩
/-- k times one rule. -/
def reps (l : Lp) : Nat → List Value
  | 0 => []
  | k + 1 => reps l k ++ lpCells l
theorem reps_length (l : Lp) (k : Nat) : (reps l k).length = k * 6 := by induction k with
  | zero => rfl
  | succ k ih => simp [reps, ih, lpCells]; omega
theorem reps_at (l : Lp) {k i j : Nat} (hi : i < k) (hj : j < 6) : (reps l k)[i * 6 + j]? = (lpCells l)[j]? := by
  induction k with
  | zero => omega
  | succ k ih =>
    unfold reps
    by_cases e : i < k
    · rw [List.getElem?_append_left (by rw [reps_length]; omega)]; exact ih e
    · obtain rfl : i = k := by omega
      rw [List.getElem?_append_right (by rw [reps_length]; omega), reps_length]
      congr 1
      omega
theorem lns_slc {w : World} {l : Lp} {n : Nat} {v : Value} (h : Slc w 24 6 v n (reps l n)) (hn : 0 < n) : ∃ A c, v = .slice A n c ∧ Lns w A n (fun _ => l) := by
  obtain ⟨g, off, c, rfl, hc, hm, hlt, hx, -⟩ := h.at_ hn
  refine ⟨_, c, rfl, fun i hi => ⟨g, off, rfl, hlt, ?_, ?_, ?_, ?_, ?_, ?_⟩⟩
  · exact hx (i * 6) _ (reps_at l hi (show 0 < 6 by omega))
  · exact hx (i * 6 + 1) _ (reps_at l hi (show 1 < 6 by omega))
  · exact hx (i * 6 + 2) _ (reps_at l hi (show 2 < 6 by omega))
  · exact hx (i * 6 + 3) _ (reps_at l hi (show 3 < 6 by omega))
  · exact hx (i * 6 + 4) _ (reps_at l hi (show 4 < 6 by omega))
  · exact hx (i * 6 + 5) _ (reps_at l hi (show 5 < 6 by omega))
theorem infoLn : (Try.prog.info? 24).map (fun i => (i.zero, i.size, i.bytes)) = some (some (.agg #[.int .i64 0, .int .u64 0, .int .i64 0, .int .u64 0, .int .i64 0, .int .u64 0]), 6, 48) := by kernel_rfl
theorem Src.block {w : World} {g : Nat} {t : TypeId} {cs : List Value} (k : Blk w g t cs) {size m : Nat} (h : cs.length = m * size) : Src w size (some ⟨g, 0, none⟩) m cs := by
  refine ⟨h, .inr ⟨_, rfl, fun j u hu => ?_⟩⟩
  have e : (⟨g, 0, none⟩ : Addr).add j = ⟨g, j, none⟩ := by cases j <;> simp [Addr.add]
  rw [e, k.cell j]
  exact hu
end Go.Proofs.Ytbdhmjlbogjkoaa
