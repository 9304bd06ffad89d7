/- Layer 13 (irq): a line among the arguments; numbers of windows. -/
import Derived.Test.YtbdhmjlbogjkoaaIrqAwake
import Derived.Test.YtbdhmjlbogjkoaaArgs
namespace Go.Proofs.Ytbdhmjlbogjkoaa
open Go.RowKit
set_option linter.unusedVariables false
set_option linter.unusedSimpArgs false
theorem allOk_cons {k : Option IntKind} {ks : List (Option IntKind)} {cs : List Value} (h : AllOk (k :: ks) cs) : ∃ c cs', cs = c :: cs' ∧ CellOk k c ∧ AllOk ks cs' := by
  cases cs with
  | nil => exact absurd h (by simp [AllOk])
  | cons c cs => exact ⟨c, cs, rfl, h.1, h.2⟩
theorem allOk_nil {cs : List Value} (h : AllOk [] cs) : cs = [] := by
  cases cs with
  | nil => rfl
  | cons c cs => exact absurd h (by simp [AllOk])
theorem lineOf {cs : List Value} (h : AllOk [some .i64, some .u64, some .i64, some .u64, some .i64, some .u64] cs) : ∃ l : Lp, cs = [.int .i64 l.c, .int .u64 l.h, .int .i64 l.d, .int .u64 l.q, .int .i64 l.s, .int .u64 l.z] ∧ l.rng := by
  obtain ⟨_, _, rfl, ⟨c, rfl, hc⟩, k1⟩ := allOk_cons h
  obtain ⟨_, _, rfl, ⟨hh, rfl, hh'⟩, k2⟩ := allOk_cons k1
  obtain ⟨_, _, rfl, ⟨d, rfl, hd⟩, k3⟩ := allOk_cons k2
  obtain ⟨_, _, rfl, ⟨q, rfl, hq⟩, k4⟩ := allOk_cons k3
  obtain ⟨_, _, rfl, ⟨s, rfl, hs⟩, k5⟩ := allOk_cons k4
  obtain ⟨_, _, rfl, ⟨z, rfl, hz⟩, k6⟩ := allOk_cons k5
  obtain rfl := allOk_nil k6
  exact ⟨⟨c, hh, d, q, s, z⟩, rfl, (bounds_i64 hc).1, (bounds_i64 hc).2, (bounds_u64 hh').1, (bounds_u64 hh').2, (bounds_i64 hd).1, (bounds_i64 hd).2, (bounds_u64 hq).1, (bounds_u64 hq).2, (bounds_i64 hs).1, (bounds_i64 hs).2, (bounds_u64 hz).1, (bounds_u64 hz).2⟩
theorem div_at (k z r : Int) (h0 : 0 ≤ r) (h1 : r < z) : (k * z + r) / z = k := by
  rw [Int.add_comm, Int.add_mul_ediv_right _ _ (by omega), Int.ediv_eq_zero_of_lt h0 h1]; omega
def lpCells (l : Lp) : List Value := [.int .i64 l.c, .int .u64 l.h, .int .i64 l.d, .int .u64 l.q, .int .i64 l.s, .int .u64 l.z]
theorem lns1 (w : World) (l : Lp) : Lns (w.alloc (.cells #[.int .i64 l.c, .int .u64 l.h, .int .i64 l.d, .int .u64 l.q, .int .i64 l.s, .int .u64 l.z] 24)) (some ⟨w.heap.size, 0, none⟩) 1 (fun _ => l) := by
  intro i hi
  obtain rfl : i = 0 := by omega
  have k := Blk.new w 24 (lpCells l)
  exact ⟨w.heap.size, 0, rfl, k.lt, k.cell 0, k.cell 1, k.cell 2, k.cell 3, k.cell 4, k.cell 5⟩
/-- A controller of one line. -/
theorem new1_any (l : Lp) (h : l.ok) (W : World) :
    Calls Try.prog 11 #[.slice (some ⟨W.heap.size, 0, none⟩) 1 1] (W.alloc (.cells #[.int .i64 l.c, .int .u64 l.h, .int .i64 l.d, .int .u64 l.q, .int .i64 l.s, .int .u64 l.z] 24)) fun e w' =>
      ∃ p, e = .returned (.tuple #[.pointer (some ⟨p, 0, none⟩), .int .i64 0]) ∧ Ctl w' (fun i => W.heap.size ≤ i) p [newL l] 0 ∧ Below W.heap.size W w' := by
  refine (newi_any _ (some ⟨W.heap.size, 0, none⟩) 1 1 (fun _ => l) (Lib.hid (lns1 W l)) (Lib.hid (fun _ _ => h)) (by omega) (by omega)).mono fun e w' hm => ?_
  obtain ⟨p, ds, h1, h2, h3, h4⟩ := hm
  have hz : W.heap.size ≤ (W.alloc (.cells #[.int .i64 l.c, .int .u64 l.h, .int .i64 l.d, .int .u64 l.q, .int .i64 l.s, .int .u64 l.z] 24)).heap.size := by simp
  exact ⟨p, h1, ⟨ds, h2, fun i hi => Nat.le_trans hz (h3 i hi), fun i hi => Nat.le_trans hz (Nat.le_trans h4.size hi)⟩, Below.next ((Below.refl _ _).alloc (Nat.le_refl _) _) h4⟩
theorem new1_at (l : Lp) (h : l.ok) (W : World) (B : Nat) (hB : W.heap.size = B) :
    Calls Try.prog 11 #[.slice (some ⟨B, 0, none⟩) 1 1] (W.alloc (.cells #[.int .i64 l.c, .int .u64 l.h, .int .i64 l.d, .int .u64 l.q, .int .i64 l.s, .int .u64 l.z] 24)) fun e w' =>
      ∃ p, e = .returned (.tuple #[.pointer (some ⟨p, 0, none⟩), .int .i64 0]) ∧ Ctl w' (fun i => B ≤ i) p [newL l] 0 ∧ Below W.heap.size W w' := by
  subst hB
  exact new1_any l h W
end Go.Proofs.Ytbdhmjlbogjkoaa
