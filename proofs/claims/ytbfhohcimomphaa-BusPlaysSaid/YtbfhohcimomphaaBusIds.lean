/- Layer 6 (bus): the list of those that want a slot; rows of numbers by functions; how often each one was stalled, number by number. -/
import Derived.Test.YtbfhohcimomphaaBusWin
import Derived.Test.YtbfhohcimomphaaBusAll
import Derived.Test.YtbfhohcimomphaaArgs
import Derived.Deep.OwnRows
namespace Go.Proofs.Ytbfhohcimomphaa
open Go.RowKit
set_option linter.unusedVariables false
set_option linter.unusedSimpArgs false
/-- The numbers below n that f tells, m times each. -/
def ids (m : Nat) (f : Nat → Bool) : Nat → List Int
  | 0 => []
  | n + 1 => ids m f n ++ if f n then List.replicate m (n : Int) else []
theorem ids_mem {m : Nat} (hm : 0 < m) {f : Nat → Bool} {n : Nat} {x : Int} : x ∈ ids m f n ↔ ∃ k : Nat, x = k ∧ k < n ∧ f k = true := by
  induction n with
  | zero => simp [ids]
  | succ n ih =>
    simp only [ids, List.mem_append, ih]
    constructor
    · rintro (⟨k, rfl, h1, h2⟩ | h)
      · exact ⟨k, rfl, by omega, h2⟩
      · split at h
        · rename_i hf
          exact ⟨n, List.eq_of_mem_replicate h, by omega, hf⟩
        · cases h
    · rintro ⟨k, rfl, h1, h2⟩
      by_cases e : k = n
      · subst e
        exact .inr (by rw [if_pos h2]; exact List.mem_replicate.2 ⟨by omega, rfl⟩)
      · exact .inl ⟨k, rfl, by omega, h2⟩
theorem ids_len (m : Nat) (f : Nat → Bool) (n : Nat) : (ids m f n).length ≤ m * n := by
  induction n with
  | zero => simp [ids]
  | succ n ih =>
    simp only [ids, List.length_append, Nat.mul_add, Nat.mul_one]
    split
    · simp; omega
    · simp; omega
theorem ids_wants {m : Nat} (hm : 0 < m) (f : Nat → Bool) (n : Nat) : wants (ids m f n) = fun k => decide (k < n) && f k := by
  funext k
  unfold wants
  rw [Bool.eq_iff_iff]
  simp only [decide_eq_true_eq, Bool.and_eq_true, ids_mem hm]
  constructor
  · rintro ⟨j, h1, h2, h3⟩
    obtain rfl : k = j := by omega
    exact ⟨h2, h3⟩
  · rintro ⟨h1, h2⟩; exact ⟨k, rfl, h1, h2⟩
theorem ids_ok {m : Nat} (hm : 0 < m) (f : Nat → Bool) (n : Nat) : okWants (ids m f n) n = true := by
  simp only [okWants, List.all_eq_true, decide_eq_true_eq]
  intro x hx
  obtain ⟨k, rfl, h1, -⟩ := (ids_mem hm).1 hx
  omega
/-- A row of n numbers of a kind. -/
def Fn (k : IntKind) (c : Nat → Int) (n : Nat) : List Value := (List.range n).map fun j => .int k (c j)
theorem Fn_len (k : IntKind) (c : Nat → Int) (n : Nat) : (Fn k c n).length = n := by simp [Fn]
theorem Fn_at (k : IntKind) (c : Nat → Int) {n j : Nat} (h : j < n) : (Fn k c n)[j]? = some (.int k (c j)) := by
  simp [Fn, List.getElem?_range h]
def upd (c : Nat → Int) (j : Nat) (x : Int) : Nat → Int := fun i => if i = j then x else c i
theorem Fn_set (k : IntKind) (c : Nat → Int) (n j : Nat) (x : Int) : (Fn k c n).set j (.int k x) = Fn k (upd c j x) n := by
  apply List.ext_getElem?
  intro i
  by_cases hi : i < n
  · rw [Fn_at _ _ hi]
    by_cases e : j = i
    · subst e
      rw [List.getElem?_set_self (by rw [Fn_len]; exact hi)]
      simp [upd]
    · rw [List.getElem?_set_ne e, Fn_at _ _ hi]
      simp [upd, show ¬ i = j from fun h => e h.symm]
  · rw [List.getElem?_eq_none (by simp [Fn]; omega), List.getElem?_eq_none (by simp [Fn]; omega)]
theorem Fn_congr (k : IntKind) {c d : Nat → Int} {n : Nat} (h : ∀ j, j < n → c j = d j) : Fn k c n = Fn k d n := by
  apply List.ext_getElem?
  intro i
  by_cases hi : i < n
  · rw [Fn_at _ _ hi, Fn_at _ _ hi, h i hi]
  · rw [List.getElem?_eq_none (by simp [Fn]; omega), List.getElem?_eq_none (by simp [Fn]; omega)]
theorem Fn_zero (k : IntKind) (n : Nat) : Fn k (fun _ => 0) n = List.replicate n (.int k 0) := by
  unfold Fn
  rw [List.map_const', List.length_range]
theorem made_Fn (k : IntKind) (n : Nat) : madeCells #[.int k 0] n = ⟨Fn k (fun _ => 0) n⟩ := by
  apply Array.ext'
  rw [toList_madeCells_one, Fn_zero]
theorem infoU64 : (Try.prog.info? 30).map (fun i => (i.zero, i.size, i.bytes)) = some (some (.int .u64 0), 1, 8) := by kernel_rfl
theorem infoInt : (Try.prog.info? 3).map (fun i => (i.zero, i.size, i.bytes)) = some (some (.int .i64 0), 1, 8) := by kernel_rfl
theorem stallB_spec (want : Nat → Bool) (id : Int) (S : List Int) (n : Nat) {j : Nat} {x : Int} (h : S[j]? = some x) :
    (stallB want id S n)[j]? = some (if j < n ∧ want j = true ∧ (j : Int) ≠ id then x + 1 else x) := by
  induction n with
  | zero => rw [if_neg (by omega)]; exact h
  | succ n ih =>
    unfold stallB
    by_cases e : n = j
    · subst e
      have h0 := stallB_at want id S (Nat.le_refl n)
      split
      · rename_i hc
        rw [List.getElem?_set_self (by rw [stallB_len]; exact (List.getElem?_eq_some_iff.1 h).1), h0, h, if_pos ⟨by omega, hc⟩]; rfl
      · rename_i hc
        rw [h0, h, if_neg (fun k => hc k.2)]
    · have e2 : (j < n + 1 ∧ want j = true ∧ (j : Int) ≠ id) ↔ (j < n ∧ want j = true ∧ (j : Int) ≠ id) := by
        constructor
        · rintro ⟨a, b⟩; exact ⟨by omega, b⟩
        · rintro ⟨a, b⟩; exact ⟨by omega, b⟩
      rw [show (if j < n + 1 ∧ want j = true ∧ (j : Int) ≠ id then x + 1 else x) = if j < n ∧ want j = true ∧ (j : Int) ≠ id then x + 1 else x from by
        by_cases q : j < n ∧ want j = true ∧ (j : Int) ≠ id
        · rw [if_pos q, if_pos (e2.2 q)]
        · rw [if_neg q, if_neg (fun k => q (e2.1 k))]]
      split
      · rw [List.getElem?_set_ne e]; exact ih
      · exact ih
theorem stallB_full (want : Nat → Bool) (id : Int) (S : List Int) (n : Nat) : (stallB want id S n).length = S.length := stallB_len want id S n
theorem allOk_cons {k : Option IntKind} {ks : List (Option IntKind)} {cs : List Value} (h : AllOk (k :: ks) cs) : ∃ c cs', cs = c :: cs' ∧ CellOk k c ∧ AllOk ks cs' := by
  cases cs with
  | nil => exact absurd h (by simp [AllOk])
  | cons c cs => exact ⟨c, cs, rfl, h.1, h.2⟩
theorem allOk_nil {cs : List Value} (h : AllOk [] cs) : cs = [] := by
  cases cs with
  | nil => rfl
  | cons c cs => exact absurd h (by simp [AllOk])
/-- Masters among the arguments. -/
theorem mpOf {cs : List Value} (h : AllOk [some .i64, some .i64, some .u64, some .u64] cs) : ∃ m : Mp, cs = [.int .i64 m.q, .int .i64 m.u, .int .u64 m.b, .int .u64 m.p] ∧ m.rng := by
  obtain ⟨_, _, rfl, ⟨q, rfl, wq⟩, k1⟩ := allOk_cons h
  obtain ⟨_, _, rfl, ⟨u, rfl, wu⟩, k2⟩ := allOk_cons k1
  obtain ⟨_, _, rfl, ⟨b, rfl, wb⟩, k3⟩ := allOk_cons k2
  obtain ⟨_, _, rfl, ⟨p, rfl, wp⟩, k4⟩ := allOk_cons k3
  obtain rfl := allOk_nil k4
  exact ⟨⟨q, u, b, p⟩, rfl, (bounds_i64 wq).1, (bounds_i64 wq).2, (bounds_i64 wu).1, (bounds_i64 wu).2, (bounds_u64 wb).1, (bounds_u64 wb).2, (bounds_u64 wp).1, (bounds_u64 wp).2⟩
theorem mps_of {w : World} {A : Option Addr} {n : Nat} {D : Nat → List Value} (h : Elems w [some .i64, some .i64, some .u64, some .u64] A n D) : ∃ L : List Mp, L.length = n ∧ Mps w A L ∧ ∀ m ∈ L, m.rng := by
  obtain ⟨M, hM⟩ : ∃ M : Nat → Mp, ∀ i, i < n → D i = [.int .i64 (M i).q, .int .i64 (M i).u, .int .u64 (M i).b, .int .u64 (M i).p] ∧ (M i).rng :=
    ⟨fun i => if hi : i < n then (mpOf (h i hi).1).choose else ⟨0, 0, 0, 0⟩, fun i hi => by simp only [hi, dif_pos]; exact (mpOf (h i hi).1).choose_spec⟩
  refine ⟨(List.range n).map M, by simp, fun i m hm => ?_, fun m hm => ?_⟩
  · have hi : i < n := by have := (List.getElem?_eq_some_iff.1 hm).1; simpa using this
    rw [List.getElem?_map, List.getElem?_range hi] at hm
    cases hm
    obtain ⟨b, off, e, hb, hc⟩ := rows_of h (by simp) i hi
    have k := fun j (hj : j < 4) => hc i j hi hj
    simp only [(hM i hi).1] at k
    refine ⟨b, off, e, hb, ?_, ?_, ?_, ?_⟩
    · exact k 0 (by omega)
    · exact k 1 (by omega)
    · exact k 2 (by omega)
    · exact k 3 (by omega)
  · obtain ⟨i, hi, rfl⟩ := List.mem_map.1 hm
    exact (hM i (by simpa using hi)).2
end Go.Proofs.Ytbfhohcimomphaa
