/- What layer 23 uses of package slices: Clone, Index, Contains, Reverse, of numbers; Clone and ContainsFunc of locks. -/
import Derived.Test.YthmcgbjkbcogkaaMem
import Derived.Test.YthmcgbjkbcogkaaSlc
import Derived.Deep.QuietTactic
import Derived.BigQuiet
import Derived.StillTailTactics
import Derived.Deep.RegionLaw
import Derived.Deep.RegionWith
import Derived.Lib.LazyBuf
namespace Go.Proofs.Ythmcgbjkbcogkaa
open Go.RowKit
set_option linter.unusedVariables false
set_option linter.unusedSimpArgs false
def ints (l : List Int) : List Value := l.map (Value.int .i64)
theorem ints_len (l : List Int) : (ints l).length = l.length := by simp [ints]
theorem ints_at {l : List Int} {i : Nat} {x : Int} (h : l[i]? = some x) : (ints l)[i]? = some (.int .i64 x) := by simp [ints, h]
theorem ints_cell (l : List Int) : ∀ u ∈ ints l, u.oneCell' = true := fun u hu => by
  simp [ints] at hu
  obtain ⟨a, -, rfl⟩ := hu
  rfl
theorem infoInt : (Try.prog.info? 3).map (fun i => (i.zero, i.size, i.bytes)) = some (some (.int .i64 0), 1, 8) := by kernel_rfl
theorem infoLock : (Try.prog.info? 42).map (fun i => (i.zero, i.size, i.bytes)) = some (some (.agg #[.int .i64 0]), 1, 8) := by kernel_rfl
/-- One element set. -/
theorem Slc.put {w : World} {e : TypeId} {v : Value} {n : Nat} {xs : List Value} (h : Slc w e 1 v n xs) {g off c : Nat} (hv : v = .slice (some ⟨g, off, none⟩) n c) {i : Nat} (hi : i < n) (u : Value) : Slc (w.setCell ⟨g, off + i, none⟩ u) e 1 v n (xs.set i u) := by
  obtain ⟨hl, h⟩ := h
  refine ⟨by simpa using hl, ?_⟩
  rcases h with ⟨h1, h2⟩ | ⟨g', off', c', cs, e1, hh, hc, hm, hsz, hx⟩
  · omega
  · rw [hv] at e1
    injection e1 with e1 e2 e3
    injection e1 with e1
    injection e1 with e4 e5 e6
    subst e4 e5 e3
    refine .inr ⟨g, off, c, cs.set! (off + i) u, hv, ?_, hc, hm, by simpa using hsz, fun j u' hu => ?_⟩
    · simp [World.setCell, Array.getElem?_modify, hh]
    · by_cases ej : i = j
      · subst ej
        rw [List.getElem?_set_self (by omega)] at hu
        simp at hu
        subst hu
        have hlt : off + i < cs.size := by omega
        simp [Array.set!, hlt]
      · rw [List.getElem?_set_ne ej] at hu
        have := hx j u' hu
        rw [Array.set!_eq_setIfInBounds, Array.getElem?_setIfInBounds_ne (by omega)]
        exact this
/-- Slices of other element types lie in other blocks. -/
theorem Slc.apart {w : World} {e e' : TypeId} {s s' : Nat} {v v' : Value} {n n' : Nat} {xs xs' : List Value} (h : Slc w e s v n xs) (h' : Slc w e' s' v' n' xs') (hne : e ≠ e') {g : Nat} (hg : v.ownBlock = some g) : v'.ownBlock ≠ some g := by
  rcases h.2 with ⟨rfl, _⟩ | ⟨g1, off, c, cs, rfl, hh, _⟩
  · simp [Value.ownBlock] at hg
  · rcases h'.2 with ⟨rfl, _⟩ | ⟨g2, off', c', cs', rfl, hh', _⟩
    · simp [Value.ownBlock]
    · intro he
      obtain rfl : g1 = g := by simpa [Value.ownBlock] using hg
      obtain rfl : g2 = g1 := by simpa [Value.ownBlock] using he
      rw [hh] at hh'
      injection hh' with hh'
      injection hh' with _ ht
      exact hne ht
set_option maxHeartbeats 1000000 in
theorem cloneI_any (w : World) (v : Value) (l : List Int) (n : Nat) (hs : Slc w 3 1 v n (ints l)) (hl : n ≤ 1000000) :
    Calls Try.prog 22 #[v] w fun e w' => ∃ A c, e = .returned (.slice A n c) ∧ Slc w' 3 1 (.slice A n c) n (ints l) ∧ Below w.heap.size w w' ∧ ∀ g, (Value.slice A n c).ownBlock = some g → w.heap.size ≤ g := by
  obtain ⟨A, c, rfl, hsrc⟩ := hs.src
  have hq : ∀ W, (binOp .eql 34 (.slice A n c) (.slice none 0 0)).run Try.prog W = .ok (.bool A.isNone) W := fun W => Go.run_eql_slice_nil W _ _ A n c (h := Try.underlying34)
  have HS := Lib.hid hs
  have SRC := Lib.hid hsrc
  clear hs hsrc
  cases A with
  | none =>
    go_enter Try.func22, Try.ntmps22
    go_wp2_with fail
    go_ret
    obtain ⟨hl1, h⟩ := HS.out
    rcases h with ⟨e, rfl⟩ | ⟨g, off, c', cs, e, -⟩
    · exact ⟨none, 0, rfl, ⟨hl1, .inl ⟨rfl, rfl⟩⟩, Below.refl _ _, fun g hg => by simp [Value.ownBlock] at hg⟩
    · injection e with e; cases e
  | some A =>
    obtain ⟨i0, hi0, hz0, hz1, hz2⟩ := info_parts infoInt
    have H1 := Lib.hid (ints_cell l)
    go_enter Try.func22, Try.ntmps22
    go_wp2_with (at_builtin; refine wpList_append_slc _ rfl (.tmp 5) (.tmp 6) _ rfl 3 i0 _ 1 8 Try.underlying34 hi0 hz0 hz1 hz2 rfl (by omega) (.slice (some ⟨w.heap.size, 0, none⟩) 0 0) 0 [] rfl (Slc.new w 3 1) (some A) n c (ints l) rfl (SRC.out.alloc _) H1.out (by omega) (by simp only [maxLen]; omega) ?_)
    intro v2 w2 hs2 ho2 hat2
    replace hs2 := (by simpa using hs2 : Slc w2 _ 1 v2 n (ints l))
    obtain ⟨A4, c4, e4, -⟩ := hs2.shape
    subst e4
    have H2 := Lib.hid hs2
    have O2 := Lib.hid ho2
    have A2 := Lib.hid hat2
    clear hs2 ho2 hat2
    go_wp2_with fail
    go_ret
    have o2 := O2.out.size
    simp only [World.size_alloc] at o2
    refine ⟨_, _, rfl, by simpa using H2.out, Below.trans ((Below.refl _ _).alloc (Nat.le_refl _) _) (O2.out.below (by simp) (fun i hi e => by simp [Value.ownBlock] at e; omega)), fun g hg => ?_⟩
    rcases A2.out with h | h <;> rw [h] at hg <;> simp [Value.ownBlock] at hg <;> omega
set_option maxHeartbeats 1000000 in
theorem cloneL_any (w : World) (A : Option Addr) (c : Nat) (l : List Int) (n : Nat) (hs : Src w 1 A n (ints l)) (h0 : 0 < n) (hl : n ≤ 1000000) :
    Calls Try.prog 21 #[.slice A n c] w fun e w' => ∃ A c, e = .returned (.slice A n c) ∧ Slc w' 42 1 (.slice A n c) n (ints l) ∧ Below w.heap.size w w' ∧ ∀ g, (Value.slice A n c).ownBlock = some g → w.heap.size ≤ g := by
  have hq : ∀ W, (binOp .eql 22 (.slice A n c) (.slice none 0 0)).run Try.prog W = .ok (.bool A.isNone) W := fun W => Go.run_eql_slice_nil W _ _ A n c (h := Try.underlying22)
  have SRC := Lib.hid hs
  clear hs
  cases A with
  | none =>
    rcases SRC.out.2 with h | ⟨ad, h, -⟩
    · omega
    · cases h
  | some A =>
    obtain ⟨i0, hi0, hz0, hz1, hz2⟩ := info_parts infoLock
    have H1 := Lib.hid (ints_cell l)
    go_enter Try.func21, Try.ntmps21
    go_wp2_with (at_builtin; refine wpList_append_slc _ rfl (.tmp 5) (.tmp 6) _ rfl 42 i0 _ 1 8 Try.underlying22 hi0 hz0 hz1 hz2 rfl (by omega) (.slice (some ⟨w.heap.size, 0, none⟩) 0 0) 0 [] rfl (Slc.new w 42 1) (some A) n c (ints l) rfl (SRC.out.alloc _) H1.out (by omega) (by simp only [maxLen]; omega) ?_)
    intro v2 w2 hs2 ho2 hat2
    replace hs2 := (by simpa using hs2 : Slc w2 _ 1 v2 n (ints l))
    obtain ⟨A4, c4, e4, -⟩ := hs2.shape
    subst e4
    have H2 := Lib.hid hs2
    have O2 := Lib.hid ho2
    have A2 := Lib.hid hat2
    clear hs2 ho2 hat2
    go_wp2_with fail
    go_ret
    have o2 := O2.out.size
    simp only [World.size_alloc] at o2
    refine ⟨_, _, rfl, by simpa using H2.out, Below.trans ((Below.refl _ _).alloc (Nat.le_refl _) _) (O2.out.below (by simp) (fun i hi e => by simp [Value.ownBlock] at e; omega)), fun g hg => ?_⟩
    rcases A2.out with h | h <;> rw [h] at hg <;> simp [Value.ownBlock] at hg <;> omega
/-- Where a number stands; -1: nowhere. -/
def idxP (l : List Int) (x : Int) : Int := match l.findIdx? (· == x) with
  | some i => i
  | none => -1
theorem idxP_at {l : List Int} {x : Int} {i : Nat} (h : l[i]? = some x) (hno : ∀ (j : Nat) y, j < i → l[j]? = some y → y ≠ x) : idxP l x = i := by
  obtain ⟨hi, e⟩ := List.getElem?_eq_some_iff.1 h
  unfold idxP
  rw [(List.findIdx?_eq_some_iff_getElem (p := (· == x))).2 ⟨hi, by simp [e], fun j hj => by simpa using hno j _ hj (List.getElem?_eq_getElem (by omega))⟩]
theorem idxP_no {l : List Int} {x : Int} (hno : ∀ (j : Nat) y, l[j]? = some y → y ≠ x) : idxP l x = -1 := by
  unfold idxP
  rw [List.findIdx?_eq_none_iff.2 (fun y hy => by obtain ⟨j, hj, e⟩ := List.mem_iff_getElem.1 hy; simpa using hno j y (by rw [← e]; exact List.getElem?_eq_getElem hj))]
theorem idxP_mem {l : List Int} {x : Int} : (0 ≤ idxP l x) ↔ x ∈ l := by
  unfold idxP
  cases e : l.findIdx? (· == x) with
  | none =>
    rw [List.findIdx?_eq_none_iff] at e
    constructor
    · intro h; simp only at h; omega
    · intro h; have := e x h; simp at this
  | some i =>
    obtain ⟨hi, h1, -⟩ := (List.findIdx?_eq_some_iff_getElem).1 e
    constructor
    · intro _; rw [← (eq_of_beq h1)]; exact List.getElem_mem hi
    · intro _; simp only; omega
set_option maxHeartbeats 1000000 in
theorem index_any (w : World) (A : Option Addr) (n c : Nat) (l : List Int) (x : Int) (hs : Slc w 3 1 (.slice A n c) n (ints l)) (hl : n ≤ 1000000) :
    Calls Try.prog 27 #[.slice A n c, .int .i64 x] w fun e w' => e = .returned (.int .i64 (idxP l x)) ∧ w = w' := by
  have HS := Lib.hid hs
  have hln : l.length = n := by have := hs.1; rw [ints_len] at this; omega
  have LN := Lib.hid hln
  clear hs hln
  go_enter Try.func27, Try.ntmps27
  go_wp2_with fail
  go_loop [8] (fun iv => ∃ i : Nat, iv = .int .i64 i ∧ i ≤ n ∧ Hid (∀ (j : Nat) y, j < i → l[j]? = some y → y ≠ x)) (fun iv => (n - intOf iv).toNat)
  case atStart => exact ⟨0, rfl, by omega, fun j y hj => by omega⟩
  case round =>
    obtain ⟨i, rfl, hi, hno⟩ := hrel
    by_cases hin : i < n
    · have hin2 : (i : Int) < n := by omega
      obtain ⟨g, off, c', hv, -, -, -, hcell, -⟩ := HS.out.at_ (by omega)
      injection hv with hv1 hv2 hv3
      subst hv1 hv3
      obtain ⟨y, hy⟩ : ∃ y, l[i]? = some y := ⟨_, List.getElem?_eq_getElem (by have := LN.out; omega)⟩
      have c0 := hcell i _ (ints_at hy)
      have HY := Lib.hid hy
      clear hcell hy hv2
      by_cases e : x = y
      · have e1 : (x == y) = true := beq_iff_eq.2 e
        have R := Lib.hid (idxP_at (by rw [e]; exact HY.out) hno.out)
        clear e
        go_wp2_with fail
        go_ret
        exact ⟨ret1 R.out.symm, rfl⟩
      · have e1 : (x == y) = false := beq_eq_false_iff_ne.2 e
        go_wp2_with fail
        go_round
        case rel =>
          refine ⟨i + 1, by go_num, by omega, fun j z hj hz => ?_⟩
          by_cases h : j = i
          · subst h
            rw [HY.out] at hz
            injection hz with hz
            subst hz
            exact fun e2 => e e2.symm
          · exact hno.out j z (by omega) hz
        case measure => simp [intOf]; omega
    · obtain rfl : i = n := by omega
      have hin2 : ¬ (i : Int) < i := by omega
      have R := Lib.hid (idxP_no (l := l) (x := x) (fun j y hy => hno.out j y (by have := (List.getElem?_eq_some_iff.1 hy).1; have := LN.out; omega) hy))
      go_wp2_with fail
      go_ret
      exact ⟨ret1 R.out.symm, rfl⟩
theorem contains_any (w : World) (A : Option Addr) (n c : Nat) (l : List Int) (x : Int) (hs : Slc w 3 1 (.slice A n c) n (ints l)) (hl : n ≤ 1000000) {r : Bool} (hr : r = decide (x ∈ l)) :
    Calls Try.prog 29 #[.slice A n c, .int .i64 x] w fun e w' => e = .returned (.bool r) ∧ w = w' := by
  have D := Lib.hid (index_any w A n c l x hs hl)
  have R : Hid (decide (0 ≤ idxP l x) = r) := by rw [hr]; exact decide_eq_decide.2 idxP_mem
  generalize idxP l x = q at *
  clear hs hr
  go_enter Try.func29, Try.ntmps29
  go_wp2_with (go_at_call 27; (with_reducible refine Calls.mono D.out ?_); rintro e w' ⟨rfl, rfl⟩)
  go_ret
  exact ⟨retb R.out, rfl⟩
/-- The list, its first i and last i elements exchanged. -/
def revF (l : List Int) (i : Nat) : List Int := (List.range l.length).map fun k => if k < i ∨ l.length ≤ k + i then l.getD (l.length - 1 - k) 0 else l.getD k 0
theorem revF_len (l : List Int) (i : Nat) : (revF l i).length = l.length := by simp [revF]
theorem revF_at (l : List Int) (i k : Nat) (hk : k < l.length) : (revF l i)[k]? = some (if k < i ∨ l.length ≤ k + i then l.getD (l.length - 1 - k) 0 else l.getD k 0) := by
  unfold revF
  rw [List.getElem?_map, List.getElem?_range hk]
  rfl
theorem revF_zero (l : List Int) : revF l 0 = l := by
  apply List.ext_getElem?
  intro k
  by_cases hk : k < l.length
  · rw [revF_at l 0 k hk, if_neg (by omega), List.getElem?_eq_getElem hk]
    simp [List.getD, List.getElem?_eq_getElem hk]
  · rw [List.getElem?_eq_none (by rw [revF_len]; omega), List.getElem?_eq_none (by omega)]
theorem revF_end (l : List Int) (i : Nat) (h : l.length ≤ 2 * i + 1) : revF l i = l.reverse := by
  apply List.ext_getElem?
  intro k
  by_cases hk : k < l.length
  · rw [revF_at l i k hk, List.getElem?_reverse hk]
    by_cases h2 : k < i ∨ l.length ≤ k + i
    · rw [if_pos h2, List.getElem?_eq_getElem (by omega)]
      simp [List.getD, List.getElem?_eq_getElem (show l.length - 1 - k < l.length by omega)]
    · rw [if_neg h2, show l.length - 1 - k = k by omega, List.getElem?_eq_getElem hk]
      simp [List.getD, List.getElem?_eq_getElem hk]
  · rw [List.getElem?_eq_none (by rw [revF_len]; omega), List.getElem?_eq_none (by simp; omega)]
theorem revF_succ (l : List Int) (i : Nat) (h : 2 * i + 1 < l.length) : revF l (i + 1) = ((revF l i).set i (l.getD (l.length - 1 - i) 0)).set (l.length - 1 - i) (l.getD i 0) := by
  apply List.ext_getElem?
  intro k
  by_cases hk : k < l.length
  · rw [revF_at l (i + 1) k hk]
    by_cases e1 : k = l.length - 1 - i
    · subst e1
      rw [List.getElem?_set_self (by rw [List.length_set, revF_len]; exact hk), if_pos (by omega), show l.length - 1 - (l.length - 1 - i) = i by omega]
    · rw [List.getElem?_set_ne (fun e => e1 e.symm)]
      by_cases e2 : k = i
      · subst e2
        rw [List.getElem?_set_self (by rw [revF_len]; exact hk), if_pos (by omega)]
      · rw [List.getElem?_set_ne (fun e => e2 e.symm), revF_at l i k hk]
        by_cases e3 : k < i ∨ l.length ≤ k + i
        · rw [if_pos e3, if_pos (by omega)]
        · rw [if_neg e3, if_neg (by omega)]
  · rw [List.getElem?_eq_none (by rw [revF_len]; omega), List.getElem?_eq_none (by rw [List.length_set, List.length_set, revF_len]; omega)]
theorem ints_set (l : List Int) (i : Nat) (x : Int) : (ints l).set i (.int .i64 x) = ints (l.set i x) := by unfold ints; rw [List.map_set]
def RelV (w : World) (A : Option Addr) (n c : Nat) (l : List Int) (iv jv : Value) (wr : World) : Prop :=
  ∃ i : Nat, iv = .int .i64 i ∧ jv = .int .i64 ((n : Int) - 1 - i) ∧ 2 * i ≤ n ∧ Slc wr 3 1 (.slice A n c) n (ints (revF l i)) ∧ Only (fun g => (Value.slice A n c).ownBlock = some g) w wr
set_option maxHeartbeats 4000000 in
theorem reverse_any (w : World) (A : Option Addr) (n c : Nat) (l : List Int) (hs : Slc w 3 1 (.slice A n c) n (ints l)) (hl : n ≤ 1000000) :
    Calls Try.prog 28 #[.slice A n c] w fun e w' => e = .returned (.tuple #[]) ∧ Slc w' 3 1 (.slice A n c) n (ints l.reverse) ∧ Only (fun g => (Value.slice A n c).ownBlock = some g) w w' := by
  have HS := Lib.hid hs
  have hln : l.length = n := by have := hs.1; rw [ints_len] at this; omega
  have LN := Lib.hid hln
  clear hs hln
  go_enter Try.func28, Try.ntmps28
  go_wp2_with fail
  go_loopw [2, 3] (fun iv jv wr => Hid (RelV w A n c l iv jv wr)) (fun iv _ _ => (n - intOf iv).toNat)
  case atStart => exact ⟨0, rfl, by simp, by omega, by rw [revF_zero]; exact HS.out, Only.refl _ _⟩
  case round =>
    obtain ⟨i, rfl, rfl, hi, hsl, hon⟩ := hrel
    have SL := Lib.hid hsl
    have ON := Lib.hid hon
    clear hsl hon
    by_cases hin : 2 * i + 1 < n
    · obtain ⟨j, hj⟩ : ∃ j : Nat, i + j + 1 = n := ⟨n - 1 - i, by omega⟩
      have hjj : (n : Int) - 1 - i = j := by omega
      rw [hjj]
      obtain ⟨g, off, c', hv, -, -, hlt, hcell, hfr⟩ := SL.out.at_ (by omega)
      injection hv with hv1 hv2 hv3
      subst hv1 hv3
      have q1 := revF_at l i i (by have := LN.out; omega)
      have q2 := revF_at l i j (by have := LN.out; omega)
      rw [if_neg (by have := LN.out; omega)] at q1 q2
      have c0 := hcell i _ (ints_at q1)
      have c1 := hcell j _ (ints_at q2)
      have f0 := hfr (off + i)
      have f1 := hfr (off + j)
      have hij : (i : Int) < j := by omega
      have hi9 : (i : Int) < n := by omega
      have hj9 : (j : Int) < n := by omega
      have hne : i ≠ j := by omega
      have FR := Lib.hid hfr
      have JJ := Lib.hid hjj
      have HJ := Lib.hid hj
      clear q1 q2 hcell hfr hjj hj hv2
      generalize hx : l.getD i 0 = x at *
      generalize hy : l.getD j 0 = y at *
      have HX := Lib.hid hx
      have HY := Lib.hid hy
      clear hx hy
      go_wp2_with fail
      go_region
      all_goals
        go_wp2_with fail
      all_goals
        have p := ((SL.out.put (i := i) rfl (by omega) (.int .i64 y)).put (i := j) rfl (by omega) (.int .i64 x)).drew
        rw [ints_set, ints_set] at p
        have o := (((ON.out.setCell (p := ⟨g, off + i, none⟩) (fun _ => by simp [Value.ownBlock]) (.int .i64 y)).setCell (p := ⟨g, off + j, none⟩) (fun _ => by simp [Value.ownBlock]) (.int .i64 x))).drew
        have ej : l.length - 1 - i = j := by have := LN.out; have := HJ.out; omega
        refine ⟨⟨i + 1, by go_num, by have := HJ.out; rw [show (n : Int) - 1 - ((i + 1 : Nat) : Int) = (j : Int) - 1 by omega], by omega, ?_, o⟩, by simp [intOf]; omega⟩
        rw [revF_succ l i (by have := LN.out; omega), ej, HX.out, HY.out]
        exact p
    · have hij : ¬ (i : Int) < (n : Int) - 1 - i := by omega
      have R := Lib.hid (revF_end l i (by have := LN.out; omega))
      go_wp2_with fail
      refine bodyPost_end (results_none rfl _ _ _) rfl ?_
      exact ⟨rfl, by rw [← R.out]; exact SL.out, ON.out⟩
end Go.Proofs.Ythmcgbjkbcogkaa
