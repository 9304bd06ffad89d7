/- LockGone: who goes leaves all that it held free, the last one first, and isn't known; others' locks are as they were. No condition. -/
import Derived.Test.YthmcgbjkbcogkaaLockLaw
import Derived.Test.YthmcgbjkbcogkaaArg
import Derived.Test.YthmcgbjkbcogkaaRows
import Derived.ProofKit
import Derived.OpenShut
import Derived.ShutString
import Derived.ChangeOld
import Derived.Below
import Derived.SizedLaws
import Derived.Test.YthmcgbjkbcogkaaArgs
import Derived.Deep.QuietTactic
import Derived.BigQuiet
import Derived.IntWalk
namespace Go.Proofs.Ythmcgbjkbcogkaa
open Go.ChangeShapes Go.WideShapes Go.ChangeAt Go.RowKit
open Go.ChangeMaps (open_string shut_string)
set_option linter.unusedVariables false
set_option linter.unusedSimpArgs false
namespace lockGone
/-- The numbers below i at which P is b. -/
def hS (P : Nat → Bool) (b : Bool) : Nat → List Int
  | 0 => []
  | i + 1 => if P i = b then hS P b i ++ [(i : Int)] else hS P b i
theorem mem_hS (P : Nat → Bool) (b : Bool) : ∀ (i : Nat) (x : Int), x ∈ hS P b i ↔ ∃ j : Nat, x = j ∧ j < i ∧ P j = b := by
  intro i
  induction i with
  | zero => intro x; simp [hS]
  | succ i ih =>
    intro x
    unfold hS
    by_cases h : P i = b
    · rw [if_pos h, List.mem_append, ih]
      constructor
      · rintro (⟨j, e, h1, h2⟩ | h3)
        · exact ⟨j, e, by omega, h2⟩
        · exact ⟨i, List.mem_singleton.1 h3, by omega, h⟩
      · rintro ⟨j, e, h1, h2⟩
        by_cases e2 : j = i
        · subst e2; exact .inr (List.mem_singleton.2 e)
        · exact .inl ⟨j, e, by omega, h2⟩
    · rw [if_neg h, ih]
      constructor
      · rintro ⟨j, e, h1, h2⟩; exact ⟨j, e, by omega, h2⟩
      · rintro ⟨j, e, h1, h2⟩
        by_cases e2 : j = i
        · subst e2; exact absurd h2 h
        · exact ⟨j, e, by omega, h2⟩
theorem len_hS (P : Nat → Bool) (b : Bool) : ∀ i, (hS P b i).length ≤ i := by
  intro i
  induction i with
  | zero => exact Nat.le_refl _
  | succ i ih =>
    unfold hS
    split
    · rw [List.length_append]; simp; exact ih
    · omega
def mG (P : Nat → Bool) (i : Nat) : Int → Option Mm := upd (upd m0 1 ⟨100, hS P true i⟩) 2 ⟨100, hS P false i⟩
theorem start1 : knowF m0 1 100 = (0, upd m0 1 ⟨100, []⟩) := by rfl
theorem start2 (P : Nat → Bool) : knowF (upd m0 1 ⟨100, []⟩) 2 100 = (0, mG P 0) := by rfl
theorem at1 (P : Nat → Bool) (i : Nat) : mG P i 1 = some ⟨100, hS P true i⟩ := by unfold mG; rw [upd_other (by omega), upd_self]
theorem at2 (P : Nat → Bool) (i : Nat) : mG P i 2 = some ⟨100, hS P false i⟩ := upd_self _ _ _
theorem atx (P : Nat → Bool) (i : Nat) (j : Int) (h1 : j ≠ 1) (h2 : j ≠ 2) : mG P i j = none := by unfold mG; rw [upd_other h2, upd_other h1]; rfl
/-- Who has lock x, as i were gone through. -/
theorem has (P : Nat → Bool) (i : Nat) (j : Int) (x : Int) (h : x ∈ heldM (mG P i j)) : (j = 1 ∧ x ∈ hS P true i) ∨ (j = 2 ∧ x ∈ hS P false i) := by
  by_cases h1 : j = 1
  · subst h1; rw [at1] at h; exact .inl ⟨rfl, h⟩
  · by_cases h2 : j = 2
    · subst h2; rw [at2] at h; exact .inr ⟨rfl, h⟩
    · rw [atx P i j h1 h2] at h; cases h
theorem step1 (P : Nat → Bool) (i : Nat) (h : P i = true) : upd (mG P i) 1 ⟨100, hS P true i ++ [(i : Int)]⟩ = mG P (i + 1) := by
  have e1 : hS P true (i + 1) = hS P true i ++ [(i : Int)] := if_pos h
  have e2 : hS P false (i + 1) = hS P false i := if_neg (by rw [h]; simp)
  unfold mG
  rw [e1, e2]
  funext j
  unfold upd
  by_cases h1 : j = 1
  · subst h1; rfl
  · by_cases h2 : j = 2
    · subst h2; rfl
    · rw [if_neg h1, if_neg h2, if_neg h2, if_neg h1, if_neg h1]
theorem step2 (P : Nat → Bool) (i : Nat) (h : P i = false) : upd (mG P i) 2 ⟨100, hS P false i ++ [(i : Int)]⟩ = mG P (i + 1) := by
  have e1 : hS P true (i + 1) = hS P true i := if_neg (by rw [h]; simp)
  have e2 : hS P false (i + 1) = hS P false i ++ [(i : Int)] := if_pos h
  unfold mG
  rw [e1, e2, upd_upd]
theorem free_yet (P : Nat → Bool) (i : Nat) : who (mG P i) i = none := who_no fun j hj => by
  rcases has P i j _ hj with ⟨-, h⟩ | ⟨-, h⟩ <;> (obtain ⟨k, e, h1, -⟩ := (mem_hS _ _ _ _).1 h; omega)
/-- The member that lock i is for. -/
def mb (P : Nat → Bool) (i : Nat) : Int := if P i = true then 1 else 2
theorem take1 {n : Nat} {U : Nat → Int} (G : Good n U) (P : Nat → Bool) {i : Nat} (h : i < n) : takeF (lst n U) (mG P i) (mb P i) i = (0, mG P (i + 1)) := by
  have hu := (G.2.2 i h).2
  unfold takeF mb
  rw [if_neg (by rw [lst_len]; omega)]
  cases hp : P i with
  | true =>
    rw [if_pos rfl, at1]
    simp only
    rw [if_neg (fun hx => by obtain ⟨k, e, h1, -⟩ := (mem_hS _ _ _ _).1 hx; omega), if_neg (by rw [getD_lst h]; omega), free_yet, if_neg (by simp), step1 P i hp]
  | false =>
    rw [if_neg (by simp), at2]
    simp only
    rw [if_neg (fun hx => by obtain ⟨k, e, h1, -⟩ := (mem_hS _ _ _ _).1 hx; omega), if_neg (by rw [getD_lst h]; omega), free_yet, if_neg (by simp), step2 P i hp]
theorem who_at (P : Nat → Bool) {i k : Nat} (h : i < k) : who (mG P k) i = some (if P i = true then 1 else 2) := by
  cases hp : P i with
  | true =>
    rw [if_pos rfl]
    refine who_is (by omega) (by rw [show ((1 : Nat) : Int) = 1 from rfl, at1]; exact (mem_hS _ _ _ _).2 ⟨i, rfl, h, hp⟩) fun j hj => ?_
    rcases has P k j _ hj with ⟨e, -⟩ | ⟨-, h2⟩
    · omega
    · obtain ⟨q, e, h1, h3⟩ := (mem_hS _ _ _ _).1 h2
      obtain rfl : i = q := by omega
      rw [hp] at h3; cases h3
  | false =>
    rw [if_neg (by simp)]
    refine who_is (by omega) (by rw [show ((2 : Nat) : Int) = 2 from rfl, at2]; exact (mem_hS _ _ _ _).2 ⟨i, rfl, h, hp⟩) fun j hj => ?_
    rcases has P k j _ hj with ⟨-, h2⟩ | ⟨e, -⟩
    · obtain ⟨q, e, h1, h3⟩ := (mem_hS _ _ _ _).1 h2
      obtain rfl : i = q := by omega
      rw [hp] at h3; cases h3
    · omega
theorem take2 {n : Nat} {U : Nat → Int} (G : Good n U) (P : Nat → Bool) {i : Nat} (h : i < n) : takeF (lst n U) (mG P (i + 1)) (3 - mb P i) i = (10, mG P (i + 1)) := by
  have hu := (G.2.2 i h).2
  unfold takeF mb
  rw [if_neg (by rw [lst_len]; omega)]
  cases hp : P i with
  | true =>
    rw [if_pos rfl, show (3 : Int) - 1 = 2 from rfl, at2]
    simp only
    rw [if_neg (fun hx => by obtain ⟨k, e, h1, h2⟩ := (mem_hS _ _ _ _).1 hx; obtain rfl : i = k := (by omega); rw [hp] at h2; cases h2), if_neg (by rw [getD_lst h]; omega), who_at P (by omega), if_pos (show (some _).isSome = true from rfl)]
  | false =>
    rw [if_neg (by simp), show (3 : Int) - 2 = 1 from rfl, at1]
    simp only
    rw [if_neg (fun hx => by obtain ⟨k, e, h1, h2⟩ := (mem_hS _ _ _ _).1 hx; obtain rfl : i = k := (by omega); rw [hp] at h2; cases h2), if_neg (by rw [getD_lst h]; omega), who_at P (by omega), if_pos (show (some _).isSome = true from rfl)]
/-- The keeper without member 1. -/
def mW (P : Nat → Bool) (n : Nat) : Int → Option Mm := without (mG P n) 1
theorem held1 (P : Nat → Bool) (n : Nat) : heldM (mG P n 1) = hS P true n := by rw [at1]; rfl
theorem hold3 (P : Nat → Bool) {i n : Nat} (h : i < n) : holderF (mW P n) i = if P i = true then (0, false) else (2, true) := by
  have key : ∀ j : Nat, (i : Int) ∈ heldM (mW P n j) → j = 2 ∧ P i = false := fun j hj => by
    unfold mW without at hj
    by_cases e : (j : Int) = 1
    · rw [if_pos e] at hj; cases hj
    · rw [if_neg e] at hj
      rcases has P n j _ hj with ⟨e2, -⟩ | ⟨e2, h2⟩
      · omega
      · obtain ⟨q, e3, h1, h3⟩ := (mem_hS _ _ _ _).1 h2
        obtain rfl : i = q := by omega
        exact ⟨by omega, h3⟩
  unfold holderF
  cases hp : P i with
  | true =>
    rw [if_pos rfl, who_no fun j hj => by have := (key j hj).2; rw [hp] at this; cases this]
  | false =>
    rw [if_neg (by simp), who_is (j := 2) (by omega) (by
      show (i : Int) ∈ heldM (without (mG P n) 1 2)
      unfold without
      rw [if_neg (by omega), at2]
      exact (mem_hS _ _ _ _).2 ⟨i, rfl, h, hp⟩) fun j hj => (key j hj).1]
    rfl
theorem gone1 (P : Nat → Bool) (n : Nat) : mW P n 1 = none := by unfold mW without; rw [if_pos rfl]
theorem prio1 (cs : List Int) (P : Nat → Bool) (n : Nat) : prioM cs (mW P n 1) = (0, 6) := by rw [gone1]; rfl
theorem held2 (P : Nat → Bool) (n : Nat) : heldM (mW P n 1) = [] := by rw [gone1]; rfl
theorem take3 {n : Nat} {U : Nat → Int} (h : 0 < n) (P : Nat → Bool) : takeF (lst n U) (mW P n) 1 0 = (6, mW P n) := by
  unfold takeF
  rw [if_neg (by rw [lst_len]; omega), gone1]
/-- Which locks are for member 1. -/
def inB (m : Nat) (V : Nat → Bool) (i : Nat) : Bool := decide (i < m) && V i
def fr (v : Value) : Nat → Prop := fun g => v.ownBlock = some g ∨ False
def Rel (w : World) (n p base : Nat) (U : Nat → Int) (P : Nat → Bool) (v iv : Value) (wr : World) : Prop :=
  ∃ i : Nat, iv = .int .i64 i ∧ i ≤ n ∧ Slc wr 3 1 v (hS P true i).length (ints (hS P true i)) ∧ (∀ g, v.ownBlock = some g → base ≤ g) ∧ Kept wr p (2 + 2 * i) base (fr v) (lst n U) (mG P i) ∧ base ≤ wr.heap.size ∧ Below w.heap.size w wr
def Rel2 (w5 : World) (L : Nat) (iv : Value) (wr : World) : Prop := ∃ j k : Nat, iv = .int .i64 j ∧ j ≤ L ∧ wr = w5.drewN k
def Rel3 (w : World) (n p N base : Nat) (U : Nat → Int) (P : Nat → Bool) (F : Nat → Prop) (iv : Value) (wr : World) : Prop :=
  ∃ j : Nat, iv = .int .i64 j ∧ j ≤ n ∧ Kept wr p N base F (lst n U) (mW P n) ∧ base ≤ wr.heap.size ∧ Below w.heap.size w wr
set_option maxRecDepth 100000 in
set_option maxHeartbeats 4000000 in
theorem walk2 (w : World) (A : Option Addr) (n c : Nat) (U : Nat → Int) (hs : Hid (IntsAt w .i64 A n U)) (hn : n ≤ 140737488351232) (B : Option Addr) (m d : Nat) (V : Nat → Bool) (hv : Hid (BoolsAt w B m V)) (hm : m ≤ 140737488351232) :
    Calls Try.prog 5 #[.slice A n c, .slice B m d] w fun e w' => e = .returned (.bool true) ∧ Below w.heap.size w w' := by
  have IB := fun W (b : Below w.heap.size w W) => Lib.hid (hs.out.below b)
  have MY := fun W h => Lib.hid (rmay23_any W A n c U h hn)
  go_enter Try.func5, Try.ntmps5
  go_wp2_with (first
    | (go_at_call 7; (with_reducible refine Calls.mono (awake_any _) ?_); rintro e w0 ⟨rfl, bel0⟩; have HB := Lib.hid bel0; clear bel0))
  go_at_call 8
  (with_reducible refine Calls.mono (MY _ (IB _ HB.out).out).out ?_); rintro e w1 ⟨r, rfl, hr, rfl⟩
  have HR := Lib.hid hr
  clear hr MY
  cases r with
  | false =>
    go_wp2_with fail
    go_ret
    exact ⟨rfl, HB.out⟩
  | true =>
    have G := Lib.hid (HR.out.1 rfl)
    have n16 := G.out.2.1
    by_cases hm16 : m ≤ 16
    · have d0 : decide (16 < (m : Int)) = false := decide_eq_false (by omega)
      have d0' : decide (16 < m) = false := decide_eq_false (by omega)
      have NW := fun W h => Lib.hid (new_k W A n c U h G.out)
      have K1 := fun W p B (k : Kept W p 0 B NF (lst n U) m0) (hb : B ≤ W.heap.size) => Lib.hid (start1 ▸ know_k k nf hb 1 100 (by omega) (by omega) (by omega))
      have K2 := fun W p B (k : Kept W p 1 B NF (lst n U) (upd m0 1 ⟨100, []⟩)) (hb : B ≤ W.heap.size) => Lib.hid (start2 (inB m V) ▸ know_k k nf hb 2 100 (by omega) (by omega) (by omega))
      go_wp2_with (first
        | (go_at_call 9; (with_reducible refine Calls.mono (NW _ (IB _ HB.out).out).out ?_); rintro e w2 ⟨p, rfl, k2, b2, hp⟩
           have KA := Lib.hid (show Kept w2 p 0 w0.heap.size NF (lst n U) m0 from k2)
           have SA := Lib.hid b2.size
           have HA := Lib.hid (Below.next HB.out b2)
           clear k2 b2 hp)
        | (go_at_call 11; (with_reducible refine Calls.mono (K1 _ _ _ KA.out SA.out).out ?_); rintro e w3 ⟨rfl, k3, o3⟩
           have KB := Lib.hid k3
           have SB := Lib.hid (Nat.le_trans SA.out o3.size)
           have HBB := Lib.hid (Below.onlyF HA.out o3 (fun i h => by have := h.1; have := HB.out.size; omega))
           clear k3 o3)
        | (go_at_call 11; (with_reducible refine Calls.mono (K2 _ _ _ KB.out SB.out).out ?_); rintro e w4 ⟨rfl, k4, o4⟩
           have KC := Lib.hid k4
           have SC := Lib.hid (Nat.le_trans SB.out o4.size)
           have HC := Lib.hid (Below.onlyF HBB.out o4 (fun i h => by have := h.1; have := HB.out.size; omega))
           clear k4 o4))
      go_loopw [7, 8] (fun v iv wr => Hid (Rel w n p w0.heap.size U (inB m V) v iv wr)) (fun _ iv _ => (n - intOf iv).toNat)
      case atStart => exact ⟨0, rfl, by omega, Slc.nil _ _ _, (fun g h => by simp [Value.ownBlock] at h), KC.out.re (fun g _ h => h.elim (fun h => by simp [Value.ownBlock] at h) id), SC.out, HC.out⟩
      case round =>
        clear KA SA HA KB SB HBB KC SC HC NW K1 K2
        obtain ⟨i, rfl, hi, si, oi, ki, zi, bi⟩ := hrel
        obtain ⟨Av, cv, ev, -⟩ := si.shape
        subst ev
        have SI := Lib.hid si
        have OI := Lib.hid oi
        have KI := Lib.hid ki
        have ZI := Lib.hid zi
        have BI := Lib.hid bi
        have LH := Lib.hid (len_hS (inB m V) true i)
        have FI := Lib.hid (fun g (h : fr (.slice Av (hS (inB m V) true i).length cv) g) => show g < wr.heap.size from h.elim (fun e => si.lt e) False.elim)
        clear si oi ki zi bi
        by_cases hin : i < n
        · have hin2 : (i : Int) < n := by omega
          by_cases him : i < m
          · have him2 : (i : Int) < m := by omega
            obtain ⟨b, off, rfl, hlt, hc⟩ := hv.out.at_ him
            have c0 := (BI.out.cell (p := ⟨b, off + i, none⟩) hlt).trans hc
            clear hc
            cases hV : V i with
            | true =>
            rw [hV] at c0
            have hP : inB m V i = true := by unfold inB; rw [hV, decide_eq_true him]; rfl
            have T1 : takeF (lst n U) (mG (inB m V) i) 1 i = (0, mG (inB m V) (i + 1)) := by have := take1 G.out (inB m V) hin; rwa [show mb (inB m V) i = 1 from if_pos hP] at this
            have T2 : takeF (lst n U) (mG (inB m V) (i + 1)) 2 i = (10, mG (inB m V) (i + 1)) := by have := take2 G.out (inB m V) hin; rwa [show mb (inB m V) i = 1 from if_pos hP, show (3 : Int) - 1 = 2 from rfl] at this
            have CT := fun W F (k : Kept W p (2 + 2 * i) w0.heap.size F (lst n U) (mG (inB m V) i)) hF (hb : w0.heap.size ≤ W.heap.size) => Lib.hid (T1 ▸ take_k k hF hb 1 i (by omega) (by omega))
            have CU := fun W F (k : Kept W p (2 + 2 * i + 1) w0.heap.size F (lst n U) (mG (inB m V) (i + 1))) hF (hb : w0.heap.size ≤ W.heap.size) => Lib.hid (T2 ▸ take_k k hF hb 2 i (by omega) (by omega))
            have EH : Hid (hS (inB m V) true (i + 1) = hS (inB m V) true i ++ [(i : Int)]) := if_pos hP
            obtain ⟨i0, hi0, hz0, hz1, hz2⟩ := info_parts infoInt
            obtain ⟨L, hL⟩ : ∃ L, (hS (inB m V) true i).length = L := ⟨_, rfl⟩
            have HL := Lib.hid hL
            have hl9 : L ≤ 16 := by have := LH.out; omega
            have SL := SI
            have KL := KI
            have OL := OI
            rw [hL] at SL KL OL ⊢
            clear T1 T2 hP hV hL SI KI OI FI
            go_wp2_with (first | (at_builtin; refine wpList_append_slc _ rfl (.tmp 58) (.tmp 60) _ rfl 3 i0 _ 1 8 Try.underlying34 hi0 hz0 hz1 hz2 rfl (by omega) (.slice Av L cv) L (ints (hS (inB m V) true i)) rfl (SL.out.alloc _) (some ⟨wr.heap.size, 0, none⟩) 1 1 [.int .i64 i] rfl (Src.one wr 3 (.int .i64 i)) (by simp [Value.oneCell']) (by omega) (by simp only [maxLen]; omega) ?_))
            intro v4 w4 s4 o4 a4
            obtain ⟨A4, c4, e4, -⟩ := s4.shape
            subst e4
            have K4 := Lib.hid (show Kept w4 p (2 + 2 * i) w0.heap.size (fr (.slice A4 (L + 1) c4)) (lst n U) (mG (inB m V) i) from ((KL.out.below ((Below.refl _ _).alloc (Nat.le_refl _) (.cells #[.int .i64 i] 3))).append (v' := .slice A4 (L + 1) c4) o4 (by rw [World.size_alloc]; exact a4)))
            have Z4 := Lib.hid (Nat.le_trans (Nat.le_trans ZI.out (by simp)) o4.size)
            have OB4 := Lib.hid (show ∀ g, (Value.slice A4 (L + 1) c4).ownBlock = some g → w0.heap.size ≤ g from fun g hg => by
              rcases a4 with e | e
              · exact OL.out g (e ▸ hg)
              · rw [e] at hg; injection hg with hg; have := ZI.out; omega)
            have B4 := Lib.hid (Below.onlyF (BI.out.alloc BI.out.size (.cells #[.int .i64 i] 3)) o4 (fun g hg => by have := OL.out g hg; have := HB.out.size; omega))
            have S4 := Lib.hid s4
            have F4 := Lib.hid (fun g (h : fr (.slice A4 (L + 1) c4) g) => show g < w4.heap.size from h.elim (fun e => s4.lt e) False.elim)
            clear s4 o4 a4
            go_wp2_with (first
              | (go_at_call 14; (with_reducible refine Calls.mono (CT _ _ K4.out F4.out Z4.out).out ?_); rintro e w5 ⟨rfl, k5, o5⟩
                 have K5 := Lib.hid k5
                 have Z5 := Lib.hid (Nat.le_trans Z4.out o5.size)
                 have B5 := Lib.hid (Below.onlyF B4.out o5 (fun i h => by have := h.1; have := HB.out.size; omega))
                 have S5 := Lib.hid (S4.out.only o5 (fun g hg f => f.2 (.inl hg)))
                 have F5 := Lib.hid (fun g (h : fr (.slice A4 (L + 1) c4) g) => Nat.lt_of_lt_of_le (F4.out g h) o5.size)
                 clear k5 o5)
              | (go_at_call 14; (with_reducible refine Calls.mono (CU _ _ K5.out F5.out Z5.out).out ?_); rintro e w6 ⟨rfl, k6, o6⟩
                 have K6 := Lib.hid k6
                 have Z6 := Lib.hid (Nat.le_trans Z5.out o6.size)
                 have B6 := Lib.hid (Below.onlyF B5.out o6 (fun i h => by have := h.1; have := HB.out.size; omega))
                 have S6 := Lib.hid (S5.out.only o6 (fun g hg f => f.2 (.inl hg)))
                 clear k6 o6))
            go_roundw
            case rel => exact ⟨i + 1, by go_num, by omega, by rw [EH.out, List.length_append, HL.out, ints_app]; exact S6.out, OB4.out, K6.out, Z6.out, B6.out⟩
            case measure => simp [intOf]; omega
            | false =>
            rw [hV] at c0
            have hP : inB m V i = false := by unfold inB; rw [hV]; simp
            have T1 : takeF (lst n U) (mG (inB m V) i) 2 i = (0, mG (inB m V) (i + 1)) := by have := take1 G.out (inB m V) hin; rwa [show mb (inB m V) i = 2 from if_neg (by rw [hP]; simp)] at this
            have T2 : takeF (lst n U) (mG (inB m V) (i + 1)) 1 i = (10, mG (inB m V) (i + 1)) := by have := take2 G.out (inB m V) hin; rwa [show mb (inB m V) i = 2 from if_neg (by rw [hP]; simp), show (3 : Int) - 2 = 1 from rfl] at this
            have CT := Lib.hid (T1 ▸ take_k KI.out FI.out ZI.out 2 i (by omega) (by omega))
            have CU := fun W (k : Kept W p (2 + 2 * i + 1) w0.heap.size (fr (.slice Av (hS (inB m V) true i).length cv)) (lst n U) (mG (inB m V) (i + 1))) hF (hb : w0.heap.size ≤ W.heap.size) => Lib.hid (T2 ▸ take_k k hF hb 1 i (by omega) (by omega))
            have EH : Hid (hS (inB m V) true (i + 1) = hS (inB m V) true i) := if_neg (by rw [hP]; simp)
            clear T1 T2 hP
            go_wp2_with (first
              | (go_at_call 14; (with_reducible refine Calls.mono CT.out ?_); rintro e w5 ⟨rfl, k5, o5⟩
                 have K5 := Lib.hid k5
                 have Z5 := Lib.hid (Nat.le_trans ZI.out o5.size)
                 have B5 := Lib.hid (Below.onlyF BI.out o5 (fun i h => by have := h.1; have := HB.out.size; omega))
                 have S5 := Lib.hid (SI.out.only o5 (fun g hg f => f.2 (.inl hg)))
                 have F5 := Lib.hid (fun g (h : fr (.slice Av (hS (inB m V) true i).length cv) g) => Nat.lt_of_lt_of_le (FI.out g h) o5.size)
                 clear k5 o5)
              | (go_at_call 14; (with_reducible refine Calls.mono (CU _ K5.out F5.out Z5.out).out ?_); rintro e w6 ⟨rfl, k6, o6⟩
                 have K6 := Lib.hid k6
                 have Z6 := Lib.hid (Nat.le_trans Z5.out o6.size)
                 have B6 := Lib.hid (Below.onlyF B5.out o6 (fun i h => by have := h.1; have := HB.out.size; omega))
                 have S6 := Lib.hid (S5.out.only o6 (fun g hg f => f.2 (.inl hg)))
                 clear k6 o6))
            go_roundw
            case rel => exact ⟨i + 1, by go_num, by omega, by rw [EH.out]; exact S6.out, OI.out, K6.out, Z6.out, B6.out⟩
            case measure => simp [intOf]; omega

          · have him2 : ¬ (i : Int) < m := by omega
            have hP : inB m V i = false := by unfold inB; rw [decide_eq_false him]; rfl
            have T1 : takeF (lst n U) (mG (inB m V) i) 2 i = (0, mG (inB m V) (i + 1)) := by have := take1 G.out (inB m V) hin; rwa [show mb (inB m V) i = 2 from if_neg (by rw [hP]; simp)] at this
            have T2 : takeF (lst n U) (mG (inB m V) (i + 1)) 1 i = (10, mG (inB m V) (i + 1)) := by have := take2 G.out (inB m V) hin; rwa [show mb (inB m V) i = 2 from if_neg (by rw [hP]; simp), show (3 : Int) - 2 = 1 from rfl] at this
            have CT := Lib.hid (T1 ▸ take_k KI.out FI.out ZI.out 2 i (by omega) (by omega))
            have CU := fun W (k : Kept W p (2 + 2 * i + 1) w0.heap.size (fr (.slice Av (hS (inB m V) true i).length cv)) (lst n U) (mG (inB m V) (i + 1))) hF (hb : w0.heap.size ≤ W.heap.size) => Lib.hid (T2 ▸ take_k k hF hb 1 i (by omega) (by omega))
            have EH : Hid (hS (inB m V) true (i + 1) = hS (inB m V) true i) := if_neg (by rw [hP]; simp)
            clear T1 T2 hP
            go_wp2_with (first
              | (go_at_call 14; (with_reducible refine Calls.mono CT.out ?_); rintro e w5 ⟨rfl, k5, o5⟩
                 have K5 := Lib.hid k5
                 have Z5 := Lib.hid (Nat.le_trans ZI.out o5.size)
                 have B5 := Lib.hid (Below.onlyF BI.out o5 (fun i h => by have := h.1; have := HB.out.size; omega))
                 have S5 := Lib.hid (SI.out.only o5 (fun g hg f => f.2 (.inl hg)))
                 have F5 := Lib.hid (fun g (h : fr (.slice Av (hS (inB m V) true i).length cv) g) => Nat.lt_of_lt_of_le (FI.out g h) o5.size)
                 clear k5 o5)
              | (go_at_call 14; (with_reducible refine Calls.mono (CU _ K5.out F5.out Z5.out).out ?_); rintro e w6 ⟨rfl, k6, o6⟩
                 have K6 := Lib.hid k6
                 have Z6 := Lib.hid (Nat.le_trans Z5.out o6.size)
                 have B6 := Lib.hid (Below.onlyF B5.out o6 (fun i h => by have := h.1; have := HB.out.size; omega))
                 have S6 := Lib.hid (S5.out.only o6 (fun g hg f => f.2 (.inl hg)))
                 clear k6 o6))
            go_roundw
            case rel => exact ⟨i + 1, by go_num, by omega, by rw [EH.out]; exact S6.out, OI.out, K6.out, Z6.out, B6.out⟩
            case measure => simp [intOf]; omega

        · obtain rfl : i = n := by omega
          have hin2 : ¬ (i : Int) < i := by omega
          have n0 := G.out.1
          have CG := Lib.hid (gone_k KI.out FI.out ZI.out 1 (by omega))
          rw [held1] at CG
          obtain ⟨L, hL⟩ : ∃ L, (hS (inB m V) true i).length = L := ⟨_, rfl⟩
          have HL := Lib.hid hL
          have hl9 : L ≤ 16 := by have := LH.out; omega
          have SL := SI
          rw [hL] at CG SL FI ⊢
          clear hL SI KI OI
          go_wp2_with (first
            | (go_at_call 16; (with_reducible refine Calls.mono CG.out ?_); rintro e w5 ⟨A5, c5, rfl, s5, p5, k5, o5⟩
               have K5 := Lib.hid k5
               have Z5 := Lib.hid (Nat.le_trans ZI.out o5.size)
               have B5 := Lib.hid (Below.onlyF BI.out o5 (fun i h => by have := h.1; have := HB.out.size; omega))
               have S5 := Lib.hid s5
               have T5 := Lib.hid (SL.out.only o5 (fun g hg f => f.2 (.inl hg)))
               clear s5 p5 k5 o5))
          go_loopw [11] (fun iv wr => Hid (Rel2 w5 L iv wr)) (fun iv _ => (L - intOf iv).toNat)
          case atStart => exact ⟨0, 0, rfl, by omega, rfl⟩
          case round =>
            obtain ⟨j, k, rfl, hj, rfl⟩ := hrel
            by_cases hjn : j < L
            · obtain ⟨jj, rfl⟩ : ∃ jj, L = j + jj + 1 := ⟨L - 1 - j, by omega⟩
              have hj2 : (j : Int) < ((j + jj + 1 : Nat) : Int) := by omega
              obtain ⟨g1, o1, x1, e1, -, -, l1, h1, -⟩ := S5.out.at_ (by omega)
              obtain ⟨g2, o2, x2, e2, -, -, l2, h2, -⟩ := T5.out.at_ (by omega)
              simp only [Value.slice.injEq] at e1 e2
              obtain ⟨rfl, -, -⟩ := e1
              obtain ⟨rfl, -, -⟩ := e2
              obtain ⟨x, hx⟩ : ∃ x, (hS (inB m V) true i)[jj]? = some x := ⟨_, List.getElem?_eq_getElem (by rw [HL.out]; omega)⟩
              have y1 := h1 j (.int .i64 x) (ints_at (by rw [List.getElem?_reverse (by rw [HL.out]; omega), HL.out, show j + jj + 1 - 1 - j = jj by omega]; exact hx))
              have y2 := h2 jj (.int .i64 x) (ints_at hx)
              clear h1 h2 hx
              have q1 : IntKind.i64.wrap ((↑(j + jj + 1) : Int) - 1) = j + jj := by rw [show (↑(j + jj + 1) : Int) - 1 = j + jj by omega]; exact IntWalk.i64_in _ (by omega)
              have q2 : IntKind.i64.wrap ((j : Int) + jj - j) = jj := by rw [show (j : Int) + jj - j = jj by omega]; exact IntWalk.i64_in _ (by omega)
              go_wp2_with fail
              go_quiet (fail)
              go_wp2_with fail
              exact ⟨⟨j + 1, _, by go_num, by omega, rfl⟩, by simp [intOf]; omega⟩
            · obtain rfl : j = L := by omega
              have hj2 : ¬ (j : Int) < j := by omega
              have K6 := Lib.hid ((K5.out.below (Below.drewN' (Below.refl _ _) k)).re (Far' := NF) (fun _ _ h => h.elim))
              have B6 := Lib.hid (Below.drewN' B5.out k)
              have Z6 := Lib.hid (show w0.heap.size ≤ (w5.drewN k).heap.size from Z5.out)
              go_wp2_with fail
              go_loopw [12] (fun iv wr => Hid (Rel3 w i p (2 + 2 * i + 1) w0.heap.size U (inB m V) NF iv wr)) (fun iv _ => (i - intOf iv).toNat)
              case atStart => exact ⟨0, rfl, by omega, K6.out, Z6.out, B6.out⟩
              case round =>
                clear K6 B6 Z6 S5 T5
                obtain ⟨j, rfl, hj, kj, zj, bj⟩ := hrel
                have KJ := Lib.hid kj
                have ZJ := Lib.hid zj
                have BJ := Lib.hid bj
                clear kj zj bj
                by_cases hin : j < i
                · have hin2 : (j : Int) < i := by omega
                  by_cases him : j < m
                  · have him2 : (j : Int) < m := by omega
                    obtain ⟨b, off, rfl, hlt, hc⟩ := hv.out.at_ him
                    have c0 := (BJ.out.cell (p := ⟨b, off + j, none⟩) hlt).trans hc
                    have hltj := Nat.lt_of_lt_of_le hlt BJ.out.size
                    clear hc
                    cases hV : V j with
                    | true =>
                    rw [hV] at c0
                    have hP : inB m V j = true := by unfold inB; rw [hV, decide_eq_true him]; rfl
                    have HO := Lib.hid (hold3 (inB m V) hin ▸ holder_k KJ.out j)
                    rw [hP] at HO
                    clear hP
                    go_wp2_with (first
                      | (go_at_call 17; (with_reducible refine Calls.mono HO.out ?_); rintro e w6 ⟨rfl, k6, b6⟩
                         have K6 := Lib.hid k6
                         have B6 := Lib.hid (Below.next BJ.out b6)
                         have Z6 := Lib.hid (Nat.le_trans ZJ.out b6.size)
                         have c1 := (b6.cell (p := ⟨b, off + j, none⟩) hltj).trans c0
                         clear k6 b6))
                    go_roundw
                    case rel => exact ⟨j + 1, by go_num, by omega, K6.out, Z6.out, B6.out⟩
                    case measure => simp [intOf]; omega

                    | false =>
                    rw [hV] at c0
                    have hP : inB m V j = false := by unfold inB; rw [hV]; simp
                    have HO := Lib.hid (hold3 (inB m V) hin ▸ holder_k KJ.out j)
                    rw [hP] at HO
                    clear hP
                    go_wp2_with (first
                      | (go_at_call 17; (with_reducible refine Calls.mono HO.out ?_); rintro e w6 ⟨rfl, k6, b6⟩
                         have K6 := Lib.hid k6
                         have B6 := Lib.hid (Below.next BJ.out b6)
                         have Z6 := Lib.hid (Nat.le_trans ZJ.out b6.size)
                         have c1 := (b6.cell (p := ⟨b, off + j, none⟩) hltj).trans c0
                         clear k6 b6))
                    go_roundw
                    case rel => exact ⟨j + 1, by go_num, by omega, K6.out, Z6.out, B6.out⟩
                    case measure => simp [intOf]; omega

                  · have him2 : ¬ (j : Int) < m := by omega
                    have hP : inB m V j = false := by unfold inB; rw [decide_eq_false him]; rfl
                    have HO := Lib.hid (hold3 (inB m V) hin ▸ holder_k KJ.out j)
                    rw [hP] at HO
                    clear hP
                    go_wp2_with (first
                      | (go_at_call 17; (with_reducible refine Calls.mono HO.out ?_); rintro e w6 ⟨rfl, k6, b6⟩
                         have K6 := Lib.hid k6
                         have B6 := Lib.hid (Below.next BJ.out b6)
                         have Z6 := Lib.hid (Nat.le_trans ZJ.out b6.size)
                         clear k6 b6))
                    go_roundw
                    case rel => exact ⟨j + 1, by go_num, by omega, K6.out, Z6.out, B6.out⟩
                    case measure => simp [intOf]; omega

                · obtain rfl : j = i := by omega
                  have hin2 : ¬ (j : Int) < j := by omega
                  have PR := Lib.hid (prio1 (lst j U) (inB m V) j ▸ prio_k KJ.out 1 (by omega))
                  have HE := Lib.hid (held_k KJ.out 1 (by omega))
                  rw [held2] at HE
                  have TK := fun W (k : Kept W p (2 + 2 * j + 1) w0.heap.size NF (lst j U) (mW (inB m V) j)) (hb : w0.heap.size ≤ W.heap.size) => Lib.hid (take3 n0 (inB m V) ▸ take_k k nf hb 1 0 (by omega) (by omega))
                  go_wp2_with (first
                    | (go_at_call 13; (with_reducible refine Calls.mono PR.out ?_); rintro e w6 ⟨rfl, rfl⟩)
                    | (go_at_call 10; (with_reducible refine Calls.mono HE.out ?_); rintro e w7 ⟨A7, c7, rfl, s7, k7, b7⟩
                       have K7 := Lib.hid k7
                       have Z7 := Lib.hid (Nat.le_trans ZJ.out b7.size)
                       have B7 := Lib.hid (Below.next BJ.out b7)
                       clear s7 k7 b7)
                    | (go_at_call 14; (with_reducible refine Calls.mono (TK _ K7.out Z7.out).out ?_); rintro e w8 ⟨rfl, k8, o8⟩
                       have B8 := Lib.hid (Below.onlyF B7.out o8 (fun i h => by have := h.1; have := HB.out.size; omega))
                       clear k8 o8))
                  go_ret
                  exact ⟨rfl, B8.out⟩
    · have d0 : decide (16 < (m : Int)) = true := decide_eq_true (by omega)
      have d0' : decide (16 < m) = true := decide_eq_true (by omega)
      go_wp2_with fail
      go_ret
      exact ⟨rfl, HB.out⟩
theorem walk (w : World) (A0 : Option Addr) (n0 cap0 : Nat) (D0 : Nat → List Value) (w0 : Elems w [some .i64] A0 n0 D0) (l0 : n0 * 8 ≤ 140737488351232) (A1 : Option Addr) (n1 cap1 : Nat) (D1 : Nat → List Value) (w1 : Elems w [none] A1 n1 D1) (l1 : n1 * 1 ≤ 140737488351232) :
    Calls Try.prog 5 #[.slice A0 n0 cap0, .slice A1 n1 cap1] w fun e w' => e = .returned (.bool true) ∧ Below w.heap.size w w' := by
  obtain ⟨U, hU, -⟩ := ints_of w0
  obtain ⟨V, hV⟩ := bools_of w1
  exact walk2 w A0 n0 cap0 U (Lib.hid hU) (by omega) A1 n1 cap1 V (Lib.hid hV) (by omega)
end lockGone
namespace lockGone
theorem own : ownKnob Try.prog.godebug = none := by kernel_rfl
set_option maxRecDepth 100000 in
theorem lifted (os : Os) (started : os.Started) (H : Type) (enc : TypeId × Value → H) :
    ReturnsInHanded {} Try.checked os 5 .any (Rows.lockGoneSpec.pre6 enc Try.prog Try.f5 Rows.lockGoneRow.domain false) (Rows.lockGoneSpec.post enc Try.prog Try.f5 false true false false) := by
  refine returnsInHanded_of_change_sized (C := Try.checked) own started (by kernel_rfl) Try.func5
    (ChangeSpec.witness6 (enc := enc) (C := Try.checked) false ⟨#[], #[.slice none 0 0, .slice none 0 0], []⟩ 8 (by kernel_rfl) (by kernel_rfl) (by kernel_rfl) (by kernel_rfl)) ?_
  intro W base args ds gs before hval0 hW hcnd hsz0 _
  have hsz : (DataW.weightsEach Try.prog (Try.f5.params.toList ++ Rows.lockGoneSpec.plain.varTypes Try.prog) (ds ++ gs)).all (· ≤ reachBytes) = true := hsz0
  have hval : ∀ (j : Nat) t v, Try.f5.params[j]? = some t → args[j]? = some v → Value.okWide Try.prog W .any base t v := hval0
  have hW' := hW
  obtain ⟨p, q, hA0, hV, rfl, hfz, hnd⟩ := hW
  have hA : DataW.TrodAll enc Try.prog W 0 (fun _ => true) true Try.f5.params.toList args.toList ds p := hA0
  rw [Try.params5] at hA hval hsz
  obtain ⟨v0, vs0, d0, ds0, p0, q0, hargs, rfl, rfl, h0, r0⟩ := trodAll_cons hA
  obtain ⟨v1, vs1, d1, ds1, p1, q1, rfl, rfl, rfl, h1, r1⟩ := trodAll_cons r0
  obtain ⟨rfl, rfl, rfl⟩ := trodAll_nil r1
  obtain rfl : args = #[v0, v1] := by cases args; simp_all
  obtain ⟨rfl, rfl⟩ := trodVars_none hV
  obtain ⟨A0, n0, cap0, D0, rfl, w0, m0, z0⟩ := arg_slice [some .i64] Try.underlying22 6 (by kernel_rfl) (by kernel_rfl) (hval 0 22 v0 rfl rfl) h0
  have l0 : n0 * Try.prog.bytesOf 42 ≤ reachBytes := by
    rcases z0 with ⟨_, e⟩ | ⟨es, sp, e, el⟩
    · subst e; simp
    · subst e; subst el; exact Nat.le_trans (Nat.mul_le_mul_right _ (Nat.le_add_right _ _)) (sized_slice hsz (j := 0) (t := 22) (e := 42) rfl rfl Try.underlying22)
  have b0 : Try.prog.bytesOf 42 = 8 := by kernel_rfl
  rw [b0] at l0
  simp only [reachBytes] at l0
  clear z0 b0
  obtain ⟨A1, n1, cap1, D1, rfl, w1, m1, z1⟩ := arg_slice [none] Try.underlying31 6 (by kernel_rfl) (by kernel_rfl) (hval 1 31 v1 rfl rfl) h1
  have l1 : n1 * Try.prog.bytesOf 4 ≤ reachBytes := by
    rcases z1 with ⟨_, e⟩ | ⟨es, sp, e, el⟩
    · subst e; simp
    · subst e; subst el; exact Nat.le_trans (Nat.mul_le_mul_right _ (Nat.le_add_right _ _)) (sized_slice hsz (j := 1) (t := 31) (e := 4) rfl rfl Try.underlying31)
  have b1 : Try.prog.bytesOf 4 = 1 := by kernel_rfl
  rw [b1] at l1
  simp only [reachBytes] at l1
  clear z1 b1
  clear hA0 hval0 hsz0 hsz
  refine (walk W A0 n0 cap0 D0 w0 l0 A1 n1 cap1 D1 w1 l1).mono fun e W' ⟨he, bel⟩ => ?_
  subst he
  exact ⟨_, rfl, _, _, _, [], _, [], hW', trodAll_mk1 (shut_bool Try.underlying4 _), (trodAll_cons_mk (Below.trod laidOut (by kernel_rfl) (of_decide_eq_true (by kernel_rfl)) h0 bel (fun x hx => by simpa using hW'.lt x (by simp [hx]))) (trodAll_cons_mk (Below.trod laidOut (by kernel_rfl) (of_decide_eq_true (by kernel_rfl)) h1 bel (fun x hx => by simpa using hW'.lt x (by simp [hx]))) trodAll_mk0)), rfl, bel.frame _, fun h => by cases h⟩
theorem over : Rows.lockGoneRow.holds Try.pinned (OpenSpec.ofChange Rows.lockGoneSpec) :=
  OpenClaim.holds_of_wide 5 Try.f5 rfl rfl rfl rfl rfl rfl rfl ⟨rfl, rfl, rfl, rfl, rfl⟩ rfl rfl rfl rfl rfl (by kernel_rfl) Try.func5 (by kernel_rfl)
    (of_decide_eq_true (by kernel_rfl)) (by unfold Func.isWrapper; first | (rw [if_pos (by decide +kernel)]; kernel_rfl) | (rw [if_neg (by decide +kernel)]; exact ⟨rfl, rfl⟩))
    (fun os started H enc _ => lifted os started H enc)
end lockGone
theorem lockGone_holds : Rows.LockGoneSaid := lockGone.over
#print axioms lockGone_holds
end Go.Proofs.Ythmcgbjkbcogkaa
