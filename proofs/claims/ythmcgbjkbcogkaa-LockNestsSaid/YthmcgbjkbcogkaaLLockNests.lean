/- LockNests: locks that one member takes are given back the other way round, and no other way; its urgency goes back step by step. No condition. -/
import Derived.Test.YthmcgbjkbcogkaaLockLaw
import Derived.Test.YthmcgbjkbcogkaaArg
import Derived.Test.YthmcgbjkbcogkaaRows
import Derived.ProofKit
import Derived.OpenShut
import Derived.ShutString
import Derived.ChangeOld
import Derived.Below
import Derived.SizedLaws
import Derived.Test.YthmcgbjkbcogkaaArgs
import Derived.Deep.QuietTactic
import Derived.BigQuiet
import Derived.IntWalk
namespace Go.Proofs.Ythmcgbjkbcogkaa
open Go.ChangeShapes Go.WideShapes Go.ChangeAt Go.RowKit
open Go.ChangeMaps (open_string shut_string)
set_option linter.unusedVariables false
set_option linter.unusedSimpArgs false
namespace lockNests
def mN (T : List Int) : Int → Option Mm := upd m0 5 ⟨100, T⟩
theorem at5 (T : List Int) : mN T 5 = some ⟨100, T⟩ := upd_self _ _ _
theorem start : knowF m0 5 100 = (0, mN []) := by rfl
theorem has (T : List Int) (j : Int) (x : Int) (h : x ∈ heldM (mN T j)) : x ∈ T := by
  unfold mN at h
  by_cases e : j = 5
  · rw [e, upd_self] at h; exact h
  · rw [upd_other e] at h; cases h
theorem take_in {n : Nat} {U : Nat → Int} {T : List Int} {l : Nat} (h : l < n) (hl : (l : Int) ∈ T) : takeF (lst n U) (mN T) 5 l = (7, mN T) := by
  unfold takeF
  rw [if_neg (by rw [lst_len]; omega), at5]
  simp only
  rw [if_pos hl]
theorem take_new {n : Nat} {U : Nat → Int} (G : Good n U) {T : List Int} {l : Nat} (h : l < n) (hl : ¬ (l : Int) ∈ T) : takeF (lst n U) (mN T) 5 l = (0, mN (T ++ [(l : Int)])) := by
  have hu := (G.2.2 l h).2
  unfold takeF
  rw [if_neg (by rw [lst_len]; omega), at5]
  simp only
  rw [if_neg hl, if_neg (by rw [getD_lst h]; omega), who_no (fun j hj => hl (has T j _ hj)), if_neg (by simp)]
  unfold mN
  rw [upd_upd]
theorem prioN (cs T : List Int) : prioM cs (mN T 5) = (prioL cs 100 T, 0) := by rw [at5]; rfl
theorem prio_app {n : Nat} {U : Nat → Int} {T : List Int} {l : Nat} (h : l < n) : prioL (lst n U) 100 (T ++ [(l : Int)]) = min (prioL (lst n U) 100 T) (U l) := by
  unfold prioL
  rw [List.foldl_append]
  show min _ ((lst n U).getD (l : Int).toNat 0) = _
  rw [getD_lst h]
theorem idx_at {T : List Int} (nd : T.Nodup) {j : Nat} {x : Int} (h : T[j]? = some x) : idxP T x = j := by
  refine idxP_at h fun k y hk hy e => ?_
  subst e
  obtain ⟨h1, e1⟩ := List.getElem?_eq_some_iff.1 h
  obtain ⟨h2, e2⟩ := List.getElem?_eq_some_iff.1 hy
  have := (List.pairwise_iff_getElem.1 nd) k j h2 h1 hk
  exact this (e2.trans e1.symm)
theorem back_mid {n : Nat} {U : Nat → Int} {T : List Int} (nd : T.Nodup) (hr : ∀ x ∈ T, 0 ≤ x ∧ x < n) {k j : Nat} (hk : k ≤ T.length) (hj : j + 1 < k) {x : Int} (hx : T[j]? = some x) : backF (lst n U) (mN (T.take k)) 5 x = (12, mN (T.take k)) := by
  have hx2 : (T.take k)[j]? = some x := by rw [List.getElem?_take, if_pos (by omega)]; exact hx
  have hi := idx_at ((List.take_sublist k T).nodup nd) hx2
  have hl : (T.take k).length = k := by rw [List.length_take]; omega
  have hb := hr x (List.mem_of_getElem? hx)
  unfold backF
  rw [if_neg (by rw [lst_len]; omega), at5]
  simp only
  rw [hi, hl, if_neg (by omega), if_pos (by omega)]
theorem back_last {n : Nat} {U : Nat → Int} {T : List Int} (nd : T.Nodup) (hr : ∀ x ∈ T, 0 ≤ x ∧ x < n) {k : Nat} (hk : k + 1 ≤ T.length) {x : Int} (hx : T[k]? = some x) : backF (lst n U) (mN (T.take (k + 1))) 5 x = (0, mN (T.take k)) := by
  have hx2 : (T.take (k + 1))[k]? = some x := by rw [List.getElem?_take, if_pos (by omega)]; exact hx
  have hi := idx_at ((List.take_sublist (k + 1) T).nodup nd) hx2
  have hl : (T.take (k + 1)).length = k + 1 := by rw [List.length_take]; omega
  have hb := hr x (List.mem_of_getElem? hx)
  unfold backF
  rw [if_neg (by rw [lst_len]; omega), at5]
  simp only
  rw [hi, hl, if_neg (by omega), if_neg (by omega), List.take_take, show min (k + 1 - 1) (k + 1) = k by omega]
  unfold mN
  rw [upd_upd]
/-- The urgencies, step by step. -/
def prs (cs T : List Int) : List Int := (List.range (T.length + 1)).map fun k => prioL cs 100 (T.take k)
theorem prs_len (cs T : List Int) : (prs cs T).length = T.length + 1 := by simp [prs]
theorem prs_at (cs T : List Int) {k : Nat} (h : k ≤ T.length) : (prs cs T)[k]? = some (prioL cs 100 (T.take k)) := by
  unfold prs
  rw [List.getElem?_map, List.getElem?_range (by omega)]
  rfl
theorem prs_app (cs T : List Int) (l : Int) : prs cs (T ++ [l]) = prs cs T ++ [prioL cs 100 (T ++ [l])] := by
  unfold prs
  rw [List.length_append, show T.length + [l].length + 1 = (T.length + 1) + 1 from rfl, List.range_succ (n := T.length + 1), List.map_append]
  congr 1
  · apply List.map_congr_left
    intro k hk
    have := List.mem_range.1 hk
    rw [List.take_append_of_le_length (by omega)]
  · show [prioL cs 100 ((T ++ [l]).take (T.length + 1))] = _
    rw [List.take_of_length_le (by simp)]
def fr (v u : Value) : Nat → Prop := fun g => v.ownBlock = some g ∨ u.ownBlock = some g
/-- What is kept as the locks are taken. -/
structure Inv (wr : World) (n p N base : Nat) (U : Nat → Int) (T : List Int) (v u : Value) : Prop where
  nd : T.Nodup
  hr : ∀ x ∈ T, 0 ≤ x ∧ x < n
  sv : Slc wr 3 1 v T.length (ints T)
  su : Slc wr 3 1 u (T.length + 1) (ints (prs (lst n U) T))
  ov : ∀ g, v.ownBlock = some g → base ≤ g
  ou : ∀ g, u.ownBlock = some g → base ≤ g
  ne : ∀ g, v.ownBlock = some g → u.ownBlock ≠ some g
  size : base ≤ wr.heap.size
theorem Inv.far {wr : World} {n p N base : Nat} {U : Nat → Int} {T : List Int} {v u : Value} (h : Inv wr n p N base U T v u) : ∀ g, fr v u g → g < wr.heap.size := fun g f => f.elim (fun e => h.sv.lt e) (fun e => h.su.lt e)
theorem Inv.only {wr w' : World} {n p N base : Nat} {U : Nat → Int} {T : List Int} {v u : Value} (h : Inv wr n p N base U T v u) (o : Only (fun g => base ≤ g ∧ ¬ fr v u g) wr w') : Inv w' n p N base U T v u :=
  ⟨h.nd, h.hr, h.sv.only o (fun g hg f => f.2 (.inl hg)), h.su.only o (fun g hg f => f.2 (.inr hg)), h.ov, h.ou, h.ne, Nat.le_trans h.size o.size⟩
theorem Inv.drewN {wr : World} {n p N base : Nat} {U : Nat → Int} {T : List Int} {v u : Value} (h : Inv wr n p N base U T v u) (k : Nat) : Inv (wr.drewN k) n p N base U T v u := ⟨h.nd, h.hr, h.sv.drewN k, h.su.drewN k, h.ov, h.ou, h.ne, h.size⟩
def Rel (w : World) (n p base : Nat) (U : Nat → Int) (v u iv : Value) (wr : World) : Prop :=
  ∃ (i : Nat) (T : List Int), iv = .int .i64 i ∧ i ≤ 30 ∧ T.length ≤ i ∧ Inv wr n p 0 base U T v u ∧ Kept wr p (1 + i) base (fr v u) (lst n U) (mN T) ∧ Below w.heap.size w wr
theorem take_mem {T : List Int} {j : Nat} {y : Int} (h : T[j]? = some y) (l : Int) : decide (l ∈ T.take (j + 1)) = (decide (l ∈ T.take j) || (y == l)) := by
  rw [List.take_add_one, h, Option.toList_some, Bool.eq_iff_iff]
  simp only [List.mem_append, List.mem_singleton, Bool.or_eq_true, decide_eq_true_eq, beq_iff_eq]
  exact ⟨fun h => h.imp id Eq.symm, fun h => h.imp id Eq.symm⟩
def RelM (T : List Int) (l L : Nat) (mv jv : Value) : Prop := ∃ j : Nat, jv = .int .i64 j ∧ j ≤ L ∧ mv = .bool (decide ((l : Int) ∈ T.take j))
def Rel2 (w : World) (n p base : Nat) (U : Nat → Int) (T : List Int) (v u iv : Value) (wr : World) : Prop :=
  ∃ (k : Nat), iv = .int .i64 ((k : Int) - 1) ∧ k ≤ T.length ∧ Inv wr n p 0 base U T v u ∧ Kept wr p (31 + 31 * (T.length - k)) base (fr v u) (lst n U) (mN (T.take k)) ∧ Below w.heap.size w wr
def Rel3 (w : World) (n p base : Nat) (U : Nat → Int) (T : List Int) (k : Nat) (v u jv : Value) (wr : World) : Prop :=
  ∃ (j : Nat), jv = .int .i64 j ∧ j + 1 ≤ k ∧ Inv wr n p 0 base U T v u ∧ Kept wr p (31 + 31 * (T.length - k) + j) base (fr v u) (lst n U) (mN (T.take k)) ∧ Below w.heap.size w wr
set_option maxRecDepth 100000 in
set_option maxHeartbeats 4000000 in
theorem walk2 (w : World) (A : Option Addr) (n c : Nat) (U : Nat → Int) (hs : Hid (IntsAt w .i64 A n U)) (hn : n ≤ 140737488351232) (B : Option Addr) (m d : Nat) (X : Nat → Int) (hv : Hid (IntsAt w .u8 B m X)) (hX : Hid (∀ i, i < m → 0 ≤ X i ∧ X i ≤ 255)) (hm : m ≤ 140737488351232) :
    Calls Try.prog 4 #[.slice A n c, .slice B m d] w fun e w' => e = .returned (.bool true) ∧ Below w.heap.size w w' := by
  have IB := fun W (b : Below w.heap.size w W) => Lib.hid (hs.out.below b)
  have MY := fun W h => Lib.hid (rmay23_any W A n c U h hn)
  go_enter Try.func4, Try.ntmps4
  go_wp2_with (first
    | (go_at_call 7; (with_reducible refine Calls.mono (awake_any _) ?_); rintro e w0 ⟨rfl, bel0⟩; have HB := Lib.hid bel0; clear bel0))
  go_at_call 8
  (with_reducible refine Calls.mono (MY _ (IB _ HB.out).out).out ?_); rintro e w1 ⟨r, rfl, hr, rfl⟩
  have HR := Lib.hid hr
  clear hr MY
  cases r with
  | false =>
    go_wp2_with fail
    go_ret
    exact ⟨rfl, HB.out⟩
  | true =>
    have G := Lib.hid (HR.out.1 rfl)
    have n16 := G.out.2.1
    have n1 := G.out.1
    have n1' : (0 : Int) < n := by omega
    by_cases hm16 : m ≤ 30
    · have d0 : decide (30 < (m : Int)) = false := decide_eq_false (by omega)
      have d0' : decide (30 < m) = false := decide_eq_false (by omega)
      have NW := fun W h => Lib.hid (new_k W A n c U h G.out)
      have K1 := fun W p B (k : Kept W p 0 B NF (lst n U) m0) (hb : B ≤ W.heap.size) => Lib.hid (start ▸ know_k k nf hb 5 100 (by omega) (by omega) (by omega))
      go_wp2_with (first
        | (go_at_call 9; (with_reducible refine Calls.mono (NW _ (IB _ HB.out).out).out ?_); rintro e w2 ⟨p, rfl, k2, b2, hp⟩
           have KA := Lib.hid (show Kept w2 p 0 w0.heap.size NF (lst n U) m0 from k2)
           have SA := Lib.hid b2.size
           have HA := Lib.hid (Below.next HB.out b2)
           clear k2 b2 hp)
        | (go_at_call 11; (with_reducible refine Calls.mono (K1 _ _ _ KA.out SA.out).out ?_); rintro e w3 ⟨rfl, k3, o3⟩
           have KB := Lib.hid k3
           have SB := Lib.hid (Nat.le_trans SA.out o3.size)
           have HBB := Lib.hid (Below.onlyF HA.out o3 (fun i h => by have := h.1; have := HB.out.size; omega))
           clear k3 o3))
      go_loopw [7, 8, 9] (fun v u iv wr => Hid (Rel w n p w0.heap.size U v u iv wr)) (fun _ _ iv _ => (30 - intOf iv).toNat)
      case atStart =>
        have k := Blk.new w3 3 [.int .i64 100]
        refine ⟨0, [], rfl, by omega, by simp, ⟨List.nodup_nil, fun x hx => by simp at hx, Slc.nil _ _ _, ?_, (fun g h => by simp [Value.ownBlock] at h), (fun g h => ?_), (fun g h => by simp [Value.ownBlock] at h), by have := SB.out; simp; omega⟩, ?_, HBB.out.alloc HBB.out.size _⟩
        · exact ⟨rfl, .inr ⟨w3.heap.size, 0, 1, #[.int .i64 100], rfl, k, Nat.le_refl _, by simp [maxLen], by simp, fun j u hu => by simpa [ints, prs, prioL] using hu⟩⟩
        · simp [Value.ownBlock] at h; have := SB.out; omega
        · refine Kept.below ?_ ((Below.refl _ _).alloc (Nat.le_refl _) _)
          exact KB.out.re fun g hg f => by
            rcases f with f | f
            · simp [Value.ownBlock] at f
            · simp [Value.ownBlock] at f; omega
      case round =>
        clear KA SA HA KB SB HBB NW K1
        obtain ⟨i, T, rfl, hi, hT, inv, ki, bi⟩ := hrel
        obtain ⟨Av, cv, ev, -⟩ := inv.sv.shape
        obtain ⟨Au, cu, eu, -⟩ := inv.su.shape
        subst ev eu
        obtain ⟨L, hL⟩ : ∃ L, T.length = L := ⟨_, rfl⟩
        have HL := Lib.hid hL
        rw [hL] at hT inv ki ⊢
        have IN := Lib.hid inv
        have KI := Lib.hid ki
        have BI := Lib.hid bi
        clear inv ki bi hL
        by_cases hin : i < m
        · have hin2 : (i : Int) < m := by omega
          obtain ⟨b, off, rfl, hlt, hc⟩ := hv.out.at_ hin
          have c0 := (BI.out.cell (p := ⟨b, off + i, none⟩) hlt).trans hc
          obtain ⟨x0, x1⟩ := hX.out i hin
          obtain ⟨x, hx⟩ : ∃ x, X i = x := ⟨_, rfl⟩
          rw [hx] at c0 x0 x1
          obtain ⟨l, hl⟩ : ∃ l : Nat, x % n = l := ⟨(x % n).toNat, by have := Int.emod_nonneg x (show (n : Int) ≠ 0 by omega); omega⟩
          have hln : l < n := by have := Int.emod_lt_of_pos x n1'; omega
          have HLL := Lib.hid hl
          have hlt' := Nat.lt_of_lt_of_le hlt BI.out.size
          clear hc hx hl
          by_cases hmine : (l : Int) ∈ T
          · have CT := Lib.hid (take_in (U := U) hln hmine ▸ take_k KI.out IN.out.far IN.out.size 5 l (by omega) (by omega))
            have HM := Lib.hid hmine
            clear hmine
            go_wp2_with fail
            rw [HLL.out]
            go_wp2_with (first
              | (go_at_call 14; (with_reducible refine Calls.mono CT.out ?_); rintro e w5 ⟨rfl, k5, o5⟩
                 have K5 := Lib.hid k5
                 have I5 := Lib.hid (IN.out.only o5)
                 have B5 := Lib.hid (Below.onlyF BI.out o5 (fun i h => by have := h.1; have := HB.out.size; omega))
                 clear k5 o5))
            go_loop [12, 13] (fun mv jv => Hid (RelM T l L mv jv)) (fun _ jv => (L - intOf jv).toNat)
            case atStart => exact ⟨0, rfl, by omega, by simp⟩
            case round =>
              obtain ⟨j, rfl, hj, rfl⟩ := hrel
              by_cases hjn : j < L
              · have hjn2 : (j : Int) < L := by omega
                obtain ⟨y, hy⟩ : ∃ y, T[j]? = some y := ⟨_, List.getElem?_eq_getElem (by rw [HL.out]; omega)⟩
                have TS := Lib.hid (take_mem hy l)
                by_cases hb : (l : Int) ∈ T.take j
                · have eb : decide ((l : Int) ∈ T.take j) = true := decide_eq_true hb
                  rw [eb]
                  have TS2 : Hid (decide ((l : Int) ∈ T.take (j + 1)) = true) := by rw [TS.out, eb]; rfl
                  clear hb eb TS hy
                  go_wp2_with fail
                  go_round
                  case rel => exact ⟨j + 1, by go_num, by omega, by rw [TS2.out]⟩
                  case measure => simp [intOf]; omega
                · have eb : decide ((l : Int) ∈ T.take j) = false := decide_eq_false hb
                  rw [eb]
                  obtain ⟨g9, o9, x9, e9, -, -, l9, h9, -⟩ := I5.out.sv.at_ (by rw [HL.out]; omega)
                  simp only [Value.slice.injEq] at e9
                  obtain ⟨rfl, -, -⟩ := e9
                  have y0 := h9 j _ (ints_at hy)
                  have TS2 : Hid (decide ((l : Int) ∈ T.take (j + 1)) = (y == (l : Int))) := by rw [TS.out, eb]; rfl
                  clear hb eb TS hy h9
                  by_cases hyl : y = l
                  · have e1 : (y == (l : Int)) = true := beq_iff_eq.2 hyl
                    rw [e1] at TS2
                    clear hyl
                    go_wp2_with fail
                    go_round
                    case rel => exact ⟨j + 1, by go_num, by omega, by rw [TS2.out]⟩
                    case measure => simp [intOf]; omega
                  · have e1 : (y == (l : Int)) = false := beq_eq_false_iff_ne.2 hyl
                    rw [e1] at TS2
                    clear hyl
                    go_wp2_with fail
                    go_round
                    case rel => exact ⟨j + 1, by go_num, by omega, by rw [TS2.out]⟩
                    case measure => simp [intOf]; omega
              · obtain rfl : j = L := by omega
                have hjn2 : ¬ (j : Int) < j := by omega
                have em : decide ((l : Int) ∈ T.take j) = true := decide_eq_true (by rw [List.take_of_length_le (by rw [HL.out]; omega)]; exact HM.out)
                rw [em]
                clear em
                go_wp2_with fail
                go_roundw
                case rel => exact ⟨i + 1, T, by go_num, by omega, by rw [HL.out]; omega, by rw [← HL.out] at I5 ⊢; exact I5.out, by rw [show 1 + (i + 1) = 1 + i + 1 by omega]; rw [← HL.out] at K5 ⊢; exact K5.out, B5.out⟩
                case measure => simp [intOf]; omega
          · have CT := Lib.hid (take_new G.out hln hmine ▸ take_k KI.out IN.out.far IN.out.size 5 l (by omega) (by omega))
            have HM := Lib.hid hmine
            clear hmine
            go_wp2_with fail
            rw [HLL.out]
            go_wp2_with (first
              | (go_at_call 14; (with_reducible refine Calls.mono CT.out ?_); rintro e w5 ⟨rfl, k5, o5⟩
                 have K5 := Lib.hid k5
                 have I5 := Lib.hid (IN.out.only o5)
                 have B5 := Lib.hid (Below.onlyF BI.out o5 (fun i h => by have := h.1; have := HB.out.size; omega))
                 clear k5 o5))
            go_loop [12, 13] (fun mv jv => Hid (RelM T l L mv jv)) (fun _ jv => (L - intOf jv).toNat)
            case atStart => exact ⟨0, rfl, by omega, by simp⟩
            case round =>
              obtain ⟨j, rfl, hj, rfl⟩ := hrel
              by_cases hjn : j < L
              · have hjn2 : (j : Int) < L := by omega
                obtain ⟨y, hy⟩ : ∃ y, T[j]? = some y := ⟨_, List.getElem?_eq_getElem (by rw [HL.out]; omega)⟩
                have TS := Lib.hid (take_mem hy l)
                by_cases hb : (l : Int) ∈ T.take j
                · have eb : decide ((l : Int) ∈ T.take j) = true := decide_eq_true hb
                  rw [eb]
                  have TS2 : Hid (decide ((l : Int) ∈ T.take (j + 1)) = true) := by rw [TS.out, eb]; rfl
                  clear hb eb TS hy
                  go_wp2_with fail
                  go_round
                  case rel => exact ⟨j + 1, by go_num, by omega, by rw [TS2.out]⟩
                  case measure => simp [intOf]; omega
                · have eb : decide ((l : Int) ∈ T.take j) = false := decide_eq_false hb
                  rw [eb]
                  obtain ⟨g9, o9, x9, e9, -, -, l9, h9, -⟩ := I5.out.sv.at_ (by rw [HL.out]; omega)
                  simp only [Value.slice.injEq] at e9
                  obtain ⟨rfl, -, -⟩ := e9
                  have y0 := h9 j _ (ints_at hy)
                  have TS2 : Hid (decide ((l : Int) ∈ T.take (j + 1)) = (y == (l : Int))) := by rw [TS.out, eb]; rfl
                  clear hb eb TS hy h9
                  by_cases hyl : y = l
                  · have e1 : (y == (l : Int)) = true := beq_iff_eq.2 hyl
                    rw [e1] at TS2
                    clear hyl
                    go_wp2_with fail
                    go_round
                    case rel => exact ⟨j + 1, by go_num, by omega, by rw [TS2.out]⟩
                    case measure => simp [intOf]; omega
                  · have e1 : (y == (l : Int)) = false := beq_eq_false_iff_ne.2 hyl
                    rw [e1] at TS2
                    clear hyl
                    go_wp2_with fail
                    go_round
                    case rel => exact ⟨j + 1, by go_num, by omega, by rw [TS2.out]⟩
                    case measure => simp [intOf]; omega
              · obtain rfl : j = L := by omega
                have hjn2 : ¬ (j : Int) < j := by omega
                have em : decide ((l : Int) ∈ T.take j) = false := decide_eq_false (by rw [List.take_of_length_le (by rw [HL.out]; omega)]; exact HM.out)
                rw [em]
                clear em
                obtain ⟨i0, hi0, hz0, hz1, hz2⟩ := info_parts infoInt
                have sv5 := I5.out.sv
                have su5 := I5.out.su
                have ne5 := I5.out.ne
                have ov5 := I5.out.ov
                have ou5 := I5.out.ou
                rw [HL.out] at sv5 su5
                have z5 := I5.out.size
                have SV5 := Lib.hid sv5
                have SU5 := Lib.hid su5
                have NE5 := Lib.hid ne5
                have OV5 := Lib.hid ov5
                have OU5 := Lib.hid ou5
                have ua := Lib.hid (prs_at (lst n U) T (Nat.le_refl T.length))
                obtain ⟨ua0, hua⟩ : ∃ a, prioL (lst n U) 100 T = a := ⟨_, rfl⟩
                have PA := Lib.hid (prio_app (U := U) (T := T) hln)
                have hPN := prioN (lst n U) (T ++ [(l : Int)])
                obtain ⟨ul, hul⟩ : ∃ u, U l = u := ⟨_, rfl⟩
                have HUA := Lib.hid hua
                have HUL := Lib.hid hul
                obtain ⟨pv, hpv⟩ : ∃ pv, (if ul < ua0 then ul else ua0) = pv := ⟨_, rfl⟩
                have hmin : prioL (lst n U) 100 (T ++ [(l : Int)]) = pv := by
                  rw [PA.out, HUA.out, HUL.out, ← hpv]
                  split <;> omega
                have HMIN := Lib.hid hmin
                rw [hmin] at hPN
                have PR := fun W F (k : Kept W p (1 + i + 1) w0.heap.size F (lst n U) (mN (T ++ [(l : Int)]))) => Lib.hid (hPN ▸ prio_k k 5 (by omega))
                obtain ⟨bl, ol, el, hll, hlc⟩ := hs.out.at_ hln
                rw [hul] at hlc
                have HLC := Lib.hid hlc
                clear sv5 su5 ne5 ov5 ou5 hua hPN hul hmin hlc
                subst el
                go_wp2_with (first
                  | (at_builtin; refine wpList_append_slc _ rfl (.tmp 92) (.tmp 94) _ rfl 3 i0 _ 1 8 Try.underlying34 hi0 hz0 hz1 hz2 rfl (by omega) (.slice Av j cv) j (ints T) rfl (SV5.out.alloc _) (some ⟨w5.heap.size, 0, none⟩) 1 1 [.int .i64 l] rfl (Src.one w5 3 (.int .i64 l)) (by simp [Value.oneCell']) (by omega) (by simp only [maxLen]; omega) ?_))
                intro v6 w6 s6 o6 a6
                obtain ⟨A6, c6, e6, -⟩ := s6.shape
                subst e6
                have k6 := Kept.append (R := fun g => (Value.slice Au (j + 1) cu).ownBlock = some g) (v' := .slice A6 (j + 1) c6) (K5.out.below ((Below.refl w5.heap.size w5).alloc (Nat.le_refl _) (.cells #[.int .i64 l] 3))) o6 (by rw [World.size_alloc]; exact a6)
                have su6 := (SU5.out.alloc (.cells #[.int .i64 l] 3)).only o6 (fun g hg e => NE5.out g e hg)
                have ne6 : ∀ g, (Value.slice A6 (j + 1) c6).ownBlock = some g → (Value.slice Au (j + 1) cu).ownBlock ≠ some g := fun g hg e => by
                  rcases a6 with a | a
                  · exact NE5.out g (a ▸ hg) e
                  · rw [a] at hg; injection hg with hg; have := SU5.out.lt e; omega
                have ov6 : ∀ g, (Value.slice A6 (j + 1) c6).ownBlock = some g → w0.heap.size ≤ g := fun g hg => by
                  rcases a6 with a | a
                  · exact OV5.out g (a ▸ hg)
                  · rw [a] at hg; injection hg with hg; omega
                have b6 := Below.onlyF (B5.out.alloc B5.out.size (.cells #[.int .i64 l] 3)) o6 (fun g hg => by have := OV5.out g hg; have := HB.out.size; omega)
                have z6 := Nat.le_trans (Nat.le_trans z5 (by simp)) o6.size
                have lc := (b6.cell (p := ⟨bl, ol + l, none⟩) hll).trans HLC.out
                have llt := Nat.lt_of_lt_of_le hll b6.size
                obtain ⟨gu, ou, xu, eu, -, -, lu, hu, -⟩ := su6.at_ (by omega)
                simp only [Value.slice.injEq] at eu
                obtain ⟨rfl, -, -⟩ := eu
                have uc := hu j _ (ints_at (by have := ua.out; rw [HL.out, ← HL.out, List.take_length, HUA.out, HL.out] at this; exact this))
                have K6 := Lib.hid k6
                have S6 := Lib.hid s6
                have SU6 := Lib.hid su6
                have NE6 := Lib.hid ne6
                have OV6 := Lib.hid ov6
                have B6 := Lib.hid b6
                have hlc2 : (l : Int) < n := by omega
                have q1 : IntKind.i64.wrap ((j : Int) + 1 - 1) = j := by rw [show (j : Int) + 1 - 1 = j by omega]; exact IntWalk.i64_in _ (by omega)
                clear k6 su6 ne6 ov6 b6 hu s6 o6 a6
                have hz : (ul < ua0 ∧ pv = ul) ∨ (¬ ul < ua0 ∧ pv = ua0) := by
                  by_cases hz : ul < ua0
                  · rw [if_pos hz] at hpv; exact .inl ⟨hz, hpv.symm⟩
                  · rw [if_neg hz] at hpv; exact .inr ⟨hz, hpv.symm⟩
                clear hpv
                rcases hz with ⟨hz, rfl⟩ | ⟨hz, rfl⟩
                all_goals
                  go_wp2_with (first
                    | (go_at_call 13; (with_reducible refine Calls.mono (PR _ _ K6.out).out ?_); rintro e w7 ⟨rfl, rfl⟩))
                  go_quiet (fail)
                  go_wp2_with (first
                    | (at_builtin; refine wpList_append_slc _ rfl (.tmp 115) (.tmp 117) _ rfl 3 i0 _ 1 8 Try.underlying34 hi0 hz0 hz1 hz2 rfl (by omega) (.slice (some ⟨gu, ou, none⟩) (j + 1) cu) (j + 1) (ints (prs (lst n U) T)) rfl ((SU6.out.drewN _).alloc _) (some ⟨w6.heap.size, 0, none⟩) 1 1 [.int .i64 pv] rfl (Src.one (w6.drewN _) 3 (.int .i64 pv)) (by simp [Value.oneCell']) (by omega) (by simp only [maxLen]; omega) ?_))
                  intro v8 w8 s8 o8 a8
                  obtain ⟨A8, c8, e8, -⟩ := s8.shape
                  subst e8
                  have k8 := (Kept.append (R := fun g => (Value.slice A6 (j + 1) c6).ownBlock = some g) (v' := .slice A8 (j + 1 + 1) c8) ((K6.out.re (Far' := fun g => (Value.slice (some ⟨gu, ou, none⟩) (j + 1) cu).ownBlock = some g ∨ (Value.slice A6 (j + 1) c6).ownBlock = some g) (fun g _ h => h.symm)).below ((Below.drewN' (Below.refl w6.heap.size w6) nq).alloc (Nat.le_refl _) (.cells #[.int .i64 pv] 3))) o8 (by rw [World.size_alloc]; exact a8)).re (Far' := fr (.slice A6 (j + 1) c6) (.slice A8 (j + 1 + 1) c8)) (fun g _ h => h.symm)
                  have s68 := ((S6.out.drewN nq).alloc (.cells #[.int .i64 pv] 3)).only o8 (fun g hg e => NE6.out g hg e)
                  have K8 := Lib.hid k8
                  have I8 := Lib.hid (show Inv w8 n p 0 w0.heap.size U (T ++ [(l : Int)]) (.slice A6 (j + 1) c6) (.slice A8 (j + 1 + 1) c8) from by
                    have hlen : (T ++ [(l : Int)]).length = j + 1 := by rw [List.length_append, HL.out]; rfl
                    refine ⟨?_, fun x hx => ?_, ?_, ?_, OV6.out, fun g hg => ?_, fun g hg e => ?_, ?_⟩
                    · rw [List.nodup_append]
                      refine ⟨I5.out.nd, by simp, fun a ha b hb => ?_⟩
                      obtain rfl := List.mem_singleton.1 hb
                      rintro rfl
                      exact HM.out ha
                    · rcases List.mem_append.1 hx with hx | hx
                      · exact I5.out.hr x hx
                      · obtain rfl := List.mem_singleton.1 hx
                        omega
                    · rw [hlen, ints_app]; exact s68
                    · rw [hlen, prs_app, ints_app, HMIN.out]; exact s8
                    · rcases a8 with a | a
                      · exact OU5.out g (a ▸ hg)
                      · rw [a] at hg; injection hg with hg; omega
                    · rcases a8 with a | a
                      · exact NE6.out g hg (a ▸ e)
                      · rw [a] at e; injection e with e; have := S6.out.lt hg; omega
                    · have := o8.size; simp only [World.size_alloc] at this; exact Nat.le_trans z6 (Nat.le_trans (Nat.le_succ _) this))
                  have B8 := Lib.hid (Below.onlyF ((Below.drewN' B6.out nq).alloc B6.out.size (.cells #[.int .i64 pv] 3)) o8 (fun g hg => by have := OU5.out g hg; have := HB.out.size; omega))
                  clear k8 s68 s8 o8 a8
                  go_wp2_with fail
                  go_roundw
                  case rel => exact ⟨i + 1, T ++ [(l : Int)], by go_num, by omega, by rw [List.length_append, HL.out]; simp; omega, I8.out, by rw [show 1 + (i + 1) = 1 + i + 1 by omega]; exact K8.out, B8.out⟩
                  case measure => simp [intOf]; omega
        · have hin2 : ¬ (i : Int) < m := by omega
          have L30 : L ≤ 30 := by omega
          go_wp2_with fail
          go_loopw [16] (fun iv wi => Hid (Rel2 w n p w0.heap.size U T (.slice Av L cv) (.slice Au (L + 1) cu) iv wi)) (fun iv _ => (1 + intOf iv).toNat)
          case atStart => exact ⟨T.length, by rw [HL.out], Nat.le_refl _, IN.out, by rw [List.take_length]; exact KI.out.more (by omega), BI.out⟩
          case round =>
            clear IN KI BI
            obtain ⟨k, rfl, hk, inv, ki, bi⟩ := hrel
            have IN := Lib.hid inv
            have KI := Lib.hid ki
            have BI := Lib.hid bi
            clear inv ki bi
            rw [HL.out] at hk
            cases k with
            | zero =>
              rw [show (((0 : Nat) : Int) - 1) = -1 by omega]
              have HE := Lib.hid (held_k KI.out 5 (by omega))
              rw [show heldM (mN (T.take 0) 5) = [] by rw [at5]; rfl] at HE
              go_wp2_with (first
                | (go_at_call 10; (with_reducible refine Calls.mono HE.out ?_); rintro e w7 ⟨A7, c7, rfl, s7, k7, b7⟩
                   have B7 := Lib.hid (Below.next BI.out b7)
                   clear s7 k7 b7))
              go_ret
              exact ⟨rfl, B7.out⟩
            | succ k =>
              rw [show (((k + 1 : Nat) : Int) - 1) = k by omega]
              have hk0 : (0 : Int) ≤ k := by omega
              go_wp2_with fail
              go_loopw [17] (fun jv wi => Hid (Rel3 w n p w0.heap.size U T (k + 1) (.slice Av L cv) (.slice Au (L + 1) cu) jv wi)) (fun jv _ => (k - intOf jv).toNat)
              case atStart => exact ⟨0, rfl, by omega, IN.out, KI.out, BI.out⟩
              case round =>
                clear IN KI BI
                obtain ⟨j, rfl, hj, inv, ki, bi⟩ := hrel
                have IN := Lib.hid inv
                have KI := Lib.hid ki
                have BI := Lib.hid bi
                clear inv ki bi
                have hkT : k + 1 ≤ T.length := by rw [HL.out]; exact hk
                have hNb : 31 + 31 * (T.length - (k + 1)) + j + 1 ≤ 1000 := by rw [HL.out]; omega
                obtain ⟨gv, ov, xv, ev, -, -, lv, hvv, -⟩ := IN.out.sv.at_ (by omega)
                simp only [Value.slice.injEq] at ev
                obtain ⟨rfl, -, -⟩ := ev
                by_cases hjk : j < k
                · have hjk2 : (j : Int) < k := by omega
                  have hjL : (j : Int) < L := by omega
                  obtain ⟨x, hx⟩ : ∃ x, T[j]? = some x := ⟨_, List.getElem?_eq_getElem (by omega)⟩
                  have x0 := hvv j _ (ints_at hx)
                  have CB := Lib.hid (back_mid (U := U) IN.out.nd IN.out.hr hkT (by omega) hx ▸ back_k KI.out IN.out.far IN.out.size 5 x (by omega) hNb)
                  clear hvv hx hkT hNb
                  go_wp2_with (first
                    | (go_at_call 15; (with_reducible refine Calls.mono CB.out ?_); rintro e w5 ⟨rfl, k5, o5⟩
                       have K5 := Lib.hid k5
                       have I5 := Lib.hid (IN.out.only o5)
                       have B5 := Lib.hid (Below.onlyF BI.out o5 (fun i h => by have := h.1; have := HB.out.size; omega))
                       clear k5 o5))
                  go_roundw
                  case rel => exact ⟨j + 1, by go_num, by omega, I5.out, K5.out, B5.out⟩
                  case measure => simp [intOf]; omega
                · obtain rfl : j = k := by omega
                  have hjk2 : ¬ (j : Int) < j := by omega
                  have hjL : (j : Int) < L := by omega
                  have hjL1 : (j : Int) < (L : Int) + 1 := by omega
                  obtain ⟨x, hx⟩ : ∃ x, T[j]? = some x := ⟨_, List.getElem?_eq_getElem (by omega)⟩
                  have x0 := hvv j _ (ints_at hx)
                  have CB := Lib.hid (back_last (U := U) IN.out.nd IN.out.hr hkT hx ▸ back_k KI.out IN.out.far IN.out.size 5 x (by omega) hNb)
                  obtain ⟨q, hq⟩ : ∃ q, prioL (lst n U) 100 (T.take j) = q := ⟨_, rfl⟩
                  have PR := fun W N (k : Kept W p N w0.heap.size (fr (.slice (some ⟨gv, ov, none⟩) L cv) (.slice Au (L + 1) cu)) (lst n U) (mN (T.take j))) => Lib.hid (prioN (lst n U) (T.take j) ▸ prio_k k 5 (by omega))
                  rw [hq] at PR
                  have UA := Lib.hid (hq ▸ prs_at (lst n U) T (k := j) (by omega))
                  have HKT := Lib.hid hkT
                  clear hvv hx hkT hNb hq
                  go_wp2_with (first
                    | (go_at_call 15; (with_reducible refine Calls.mono CB.out ?_); rintro e w5 ⟨rfl, k5, o5⟩
                       have K5 := Lib.hid k5
                       have I5 := Lib.hid (IN.out.only o5)
                       have B5 := Lib.hid (Below.onlyF BI.out o5 (fun i h => by have := h.1; have := HB.out.size; omega))
                       obtain ⟨gu, ou, xu, eu, -, -, lu, hu, -⟩ := (IN.out.only o5).su.at_ (by omega)
                       simp only [Value.slice.injEq] at eu
                       obtain ⟨rfl, -, -⟩ := eu
                       have u0 := hu j _ (ints_at UA.out)
                       clear k5 o5 hu)
                    | (go_at_call 13; (with_reducible refine Calls.mono (PR _ _ K5.out).out ?_); rintro e w6 ⟨rfl, rfl⟩))
                  refine ⟨⟨j, rfl, by have := HKT.out; omega, I5.out, ?_, B5.out⟩, by simp [intOf]; omega⟩
                  have : 31 + 31 * (T.length - (j + 1)) + j + 1 ≤ 31 + 31 * (T.length - j) := by have := HKT.out; have := HL.out; omega
                  exact K5.out.more this
    · have d0 : decide (30 < (m : Int)) = true := decide_eq_true (by omega)
      have d0' : decide (30 < m) = true := decide_eq_true (by omega)
      go_wp2_with fail
      go_ret
      exact ⟨rfl, HB.out⟩
theorem walk (w : World) (A0 : Option Addr) (n0 cap0 : Nat) (D0 : Nat → List Value) (w0 : Elems w [some .i64] A0 n0 D0) (l0 : n0 * 8 ≤ 140737488351232) (A1 : Option Addr) (n1 cap1 : Nat) (D1 : Nat → List Value) (w1 : Elems w [some .u8] A1 n1 D1) (l1 : n1 * 1 ≤ 140737488351232) :
    Calls Try.prog 4 #[.slice A0 n0 cap0, .slice A1 n1 cap1] w fun e w' => e = .returned (.bool true) ∧ Below w.heap.size w w' := by
  obtain ⟨U, hU, -⟩ := ints_of w0
  obtain ⟨X, hX, hw⟩ := ints_of w1
  exact walk2 w A0 n0 cap0 U (Lib.hid hU) (by omega) A1 n1 cap1 X (Lib.hid hX) (Lib.hid fun i hi => bounds_u8 (hw i hi)) (by omega)
end lockNests
namespace lockNests
theorem own : ownKnob Try.prog.godebug = none := by kernel_rfl
set_option maxRecDepth 100000 in
theorem lifted (os : Os) (started : os.Started) (H : Type) (enc : TypeId × Value → H) :
    ReturnsInHanded {} Try.checked os 4 .any (Rows.lockNestsSpec.pre6 enc Try.prog Try.f4 Rows.lockNestsRow.domain false) (Rows.lockNestsSpec.post enc Try.prog Try.f4 false true false false) := by
  refine returnsInHanded_of_change_sized (C := Try.checked) own started (by kernel_rfl) Try.func4
    (ChangeSpec.witness6 (enc := enc) (C := Try.checked) false ⟨#[], #[.slice none 0 0, .slice none 0 0], []⟩ 8 (by kernel_rfl) (by kernel_rfl) (by kernel_rfl) (by kernel_rfl)) ?_
  intro W base args ds gs before hval0 hW hcnd hsz0 _
  have hsz : (DataW.weightsEach Try.prog (Try.f4.params.toList ++ Rows.lockNestsSpec.plain.varTypes Try.prog) (ds ++ gs)).all (· ≤ reachBytes) = true := hsz0
  have hval : ∀ (j : Nat) t v, Try.f4.params[j]? = some t → args[j]? = some v → Value.okWide Try.prog W .any base t v := hval0
  have hW' := hW
  obtain ⟨p, q, hA0, hV, rfl, hfz, hnd⟩ := hW
  have hA : DataW.TrodAll enc Try.prog W 0 (fun _ => true) true Try.f4.params.toList args.toList ds p := hA0
  rw [Try.params4] at hA hval hsz
  obtain ⟨v0, vs0, d0, ds0, p0, q0, hargs, rfl, rfl, h0, r0⟩ := trodAll_cons hA
  obtain ⟨v1, vs1, d1, ds1, p1, q1, rfl, rfl, rfl, h1, r1⟩ := trodAll_cons r0
  obtain ⟨rfl, rfl, rfl⟩ := trodAll_nil r1
  obtain rfl : args = #[v0, v1] := by cases args; simp_all
  obtain ⟨rfl, rfl⟩ := trodVars_none hV
  obtain ⟨A0, n0, cap0, D0, rfl, w0, m0, z0⟩ := arg_slice [some .i64] Try.underlying22 6 (by kernel_rfl) (by kernel_rfl) (hval 0 22 v0 rfl rfl) h0
  have l0 : n0 * Try.prog.bytesOf 42 ≤ reachBytes := by
    rcases z0 with ⟨_, e⟩ | ⟨es, sp, e, el⟩
    · subst e; simp
    · subst e; subst el; exact Nat.le_trans (Nat.mul_le_mul_right _ (Nat.le_add_right _ _)) (sized_slice hsz (j := 0) (t := 22) (e := 42) rfl rfl Try.underlying22)
  have b0 : Try.prog.bytesOf 42 = 8 := by kernel_rfl
  rw [b0] at l0
  simp only [reachBytes] at l0
  clear z0 b0
  obtain ⟨A1, n1, cap1, D1, rfl, w1, m1, z1⟩ := arg_slice [some .u8] Try.underlying23 6 (by kernel_rfl) (by kernel_rfl) (hval 1 23 v1 rfl rfl) h1
  have l1 : n1 * Try.prog.bytesOf 5 ≤ reachBytes := by
    rcases z1 with ⟨_, e⟩ | ⟨es, sp, e, el⟩
    · subst e; simp
    · subst e; subst el; exact Nat.le_trans (Nat.mul_le_mul_right _ (Nat.le_add_right _ _)) (sized_slice hsz (j := 1) (t := 23) (e := 5) rfl rfl Try.underlying23)
  have b1 : Try.prog.bytesOf 5 = 1 := by kernel_rfl
  rw [b1] at l1
  simp only [reachBytes] at l1
  clear z1 b1
  clear hA0 hval0 hsz0 hsz
  refine (walk W A0 n0 cap0 D0 w0 l0 A1 n1 cap1 D1 w1 l1).mono fun e W' ⟨he, bel⟩ => ?_
  subst he
  exact ⟨_, rfl, _, _, _, [], _, [], hW', trodAll_mk1 (shut_bool Try.underlying4 _), (trodAll_cons_mk (Below.trod laidOut (by kernel_rfl) (of_decide_eq_true (by kernel_rfl)) h0 bel (fun x hx => by simpa using hW'.lt x (by simp [hx]))) (trodAll_cons_mk (Below.trod laidOut (by kernel_rfl) (of_decide_eq_true (by kernel_rfl)) h1 bel (fun x hx => by simpa using hW'.lt x (by simp [hx]))) trodAll_mk0)), rfl, bel.frame _, fun h => by cases h⟩
theorem over : Rows.lockNestsRow.holds Try.pinned (OpenSpec.ofChange Rows.lockNestsSpec) :=
  OpenClaim.holds_of_wide 4 Try.f4 rfl rfl rfl rfl rfl rfl rfl ⟨rfl, rfl, rfl, rfl, rfl⟩ rfl rfl rfl rfl rfl (by kernel_rfl) Try.func4 (by kernel_rfl)
    (of_decide_eq_true (by kernel_rfl)) (by unfold Func.isWrapper; first | (rw [if_pos (by decide +kernel)]; kernel_rfl) | (rw [if_neg (by decide +kernel)]; exact ⟨rfl, rfl⟩))
    (fun os started H enc _ => lifted os started H enc)
end lockNests
theorem lockNests_holds : Rows.LockNestsSaid := lockNests.over
#print axioms lockNests_holds
end Go.Proofs.Ythmcgbjkbcogkaa
