/- Layer 23 (lock): what the first lines of each law ask: of closed numbers; of the locks. -/
import Derived.Test.YthmcgbjkbcogkaaLockG
namespace Go.Proofs.Ythmcgbjkbcogkaa
open Go.RowKit
set_option linter.unusedVariables false
set_option linter.unusedSimpArgs false
def U2 : Nat → Int := fun i => if i = 0 then 2 else 5
theorem good2 : Good 2 U2 := ⟨by omega, by omega, fun i hi => by
  rcases (show i = 0 ∨ i = 1 by omega) with rfl | rfl <;> simp [U2]⟩
theorem lst2 : lst 2 U2 = [2, 5] := by rfl
theorem ints2 (w : World) : IntsAt (w.alloc (.cells #[.int .i64 2, .int .i64 5] 42)) .i64 (some ⟨w.heap.size, 0, none⟩) 2 U2 := by
  intro i hi
  have k := Blk.new w 42 [.int .i64 2, .int .i64 5]
  refine ⟨w.heap.size, 0, rfl, k.lt, fun j hj => ?_⟩
  rcases (show j = 0 ∨ j = 1 by omega) with rfl | rfl
  · exact k.cell 0
  · exact k.cell 1
def m0 : Int → Option Mm := fun _ => none
def m1 : Int → Option Mm := upd m0 7 ⟨9, []⟩
def m2 : Int → Option Mm := upd m1 8 ⟨3, []⟩
def m3 : Int → Option Mm := upd m2 7 ⟨9, [1]⟩
def m4 : Int → Option Mm := upd m3 7 ⟨9, [1, 0]⟩
def m5 : Int → Option Mm := upd m4 7 ⟨9, [1]⟩
theorem s1 : knowF m0 7 9 = (0, m1) := by rfl
theorem s2 : knowF m1 8 3 = (0, m2) := by rfl
theorem s3 : takeF [2, 5] m2 7 1 = (0, m3) := Prod.ext (by decide +kernel) rfl
theorem s4 : takeF [2, 5] m3 7 0 = (0, m4) := Prod.ext (by decide +kernel) rfl
theorem s5 : prioM [2, 5] (m4 7) = (2, 0) := by decide +kernel
theorem s6 : takeF [2, 5] m4 8 0 = (10, m4) := Prod.ext (by decide +kernel) rfl
theorem s7 : takeF [2, 5] m4 8 1 = (11, m4) := Prod.ext (by decide +kernel) rfl
theorem s8 : backF [2, 5] m4 7 1 = (12, m4) := Prod.ext (by decide +kernel) rfl
theorem s9 : backF [2, 5] m4 7 0 = (0, m5) := Prod.ext (by decide +kernel) rfl
theorem s10 : heldM (m5 7) = [1] := by rfl
abbrev NF : Nat → Prop := fun _ => False
theorem nf {w : World} : ∀ g, NF g → g < w.heap.size := fun g h => h.elim
set_option maxRecDepth 100000 in
set_option maxHeartbeats 2000000 in
theorem awake_any (w : World) : Calls Try.prog 7 #[] w fun e w' => e = .returned (.bool true) ∧ Below w.heap.size w w' := by
  have C0 := fun W h => Lib.hid (lst2 ▸ new_k W (some ⟨w.heap.size, 0, none⟩) 2 2 U2 h good2)
  have CL := Lib.hid (ints2 w)
  have C1 := fun W p B (k : Kept W p 0 B NF [2, 5] m0) (hb : B ≤ W.heap.size) => Lib.hid (s1 ▸ know_k k nf hb 7 9 (by omega) (by omega) (by omega))
  have C2 := fun W p B (k : Kept W p 1 B NF [2, 5] m1) (hb : B ≤ W.heap.size) => Lib.hid (s2 ▸ know_k k nf hb 8 3 (by omega) (by omega) (by omega))
  have C3 := fun W p B (k : Kept W p 2 B NF [2, 5] m2) (hb : B ≤ W.heap.size) => Lib.hid (s3 ▸ take_k k nf hb 7 1 (by omega) (by omega))
  have C4 := fun W p B (k : Kept W p 3 B NF [2, 5] m3) (hb : B ≤ W.heap.size) => Lib.hid (s4 ▸ take_k k nf hb 7 0 (by omega) (by omega))
  have C5 := fun W p B (k : Kept W p 4 B NF [2, 5] m4) => Lib.hid (s5 ▸ prio_k k 7 (by omega))
  have C6 := fun W p B (k : Kept W p 4 B NF [2, 5] m4) (hb : B ≤ W.heap.size) => Lib.hid (s6 ▸ take_k k nf hb 8 0 (by omega) (by omega))
  have C7 := fun W p B (k : Kept W p 5 B NF [2, 5] m4) (hb : B ≤ W.heap.size) => Lib.hid (s7 ▸ take_k k nf hb 8 1 (by omega) (by omega))
  have C8 := fun W p B (k : Kept W p 6 B NF [2, 5] m4) (hb : B ≤ W.heap.size) => Lib.hid (s8 ▸ back_k k nf hb 7 1 (by omega) (by omega))
  have C9 := fun W p B (k : Kept W p 7 B NF [2, 5] m4) (hb : B ≤ W.heap.size) => Lib.hid (s9 ▸ back_k k nf hb 7 0 (by omega) (by omega))
  have C10 := fun W p B (k : Kept W p 8 B NF [2, 5] m5) (hb : B ≤ W.heap.size) => Lib.hid (s10 ▸ gone_k k nf hb 7 (by omega))
  go_enter Try.func7, Try.ntmps7
  go_wp2_with (first
    | (go_at_call 9; (with_reducible refine Calls.mono (C0 _ CL.out).out ?_); rintro e w1 ⟨p, rfl, k1, b1, hp⟩
       have K1 := Lib.hid (show Kept w1 p 0 (w.alloc (.cells #[.int .i64 2, .int .i64 5] 42)).heap.size NF [2, 5] m0 from k1)
       have B1 := Lib.hid (Below.next ((Below.refl w.heap.size w).alloc (Nat.le_refl _) _) b1)
       have S1 := Lib.hid b1.size
       clear k1 b1 hp)
    | (go_at_call 11; (with_reducible refine Calls.mono (C1 _ _ _ K1.out S1.out).out ?_); rintro e w2 ⟨rfl, k2, o2⟩
       have K2 := Lib.hid k2
       have S2 := Lib.hid (Nat.le_trans S1.out o2.size)
       have B2 := Lib.hid (Below.onlyF B1.out o2 (fun i h => by have := h.1; simp only [World.size_alloc] at this; omega))
       clear k2 o2)
    | (go_at_call 11; (with_reducible refine Calls.mono (C2 _ _ _ K2.out S2.out).out ?_); rintro e w3 ⟨rfl, k3, o3⟩
       have K3 := Lib.hid k3
       have S3 := Lib.hid (Nat.le_trans S2.out o3.size)
       have B3 := Lib.hid (Below.onlyF B2.out o3 (fun i h => by have := h.1; simp only [World.size_alloc] at this; omega))
       clear k3 o3)
    | (go_at_call 14; (with_reducible refine Calls.mono (C3 _ _ _ K3.out S3.out).out ?_); rintro e w4 ⟨rfl, k4, o4⟩
       have K4 := Lib.hid k4
       have S4 := Lib.hid (Nat.le_trans S3.out o4.size)
       have B4 := Lib.hid (Below.onlyF B3.out o4 (fun i h => by have := h.1; simp only [World.size_alloc] at this; omega))
       clear k4 o4)
    | (go_at_call 14; (with_reducible refine Calls.mono (C4 _ _ _ K4.out S4.out).out ?_); rintro e w5 ⟨rfl, k5, o5⟩
       have K5 := Lib.hid k5
       have S5 := Lib.hid (Nat.le_trans S4.out o5.size)
       have B5 := Lib.hid (Below.onlyF B4.out o5 (fun i h => by have := h.1; simp only [World.size_alloc] at this; omega))
       clear k5 o5)
    | (go_at_call 13; (with_reducible refine Calls.mono (C5 _ _ _ K5.out).out ?_); rintro e w6 ⟨rfl, rfl⟩)
    | (go_at_call 14; (with_reducible refine Calls.mono (C6 _ _ _ K5.out S5.out).out ?_); rintro e w7 ⟨rfl, k7, o7⟩
       have K7 := Lib.hid k7
       have S7 := Lib.hid (Nat.le_trans S5.out o7.size)
       have B7 := Lib.hid (Below.onlyF B5.out o7 (fun i h => by have := h.1; simp only [World.size_alloc] at this; omega))
       clear k7 o7)
    | (go_at_call 14; (with_reducible refine Calls.mono (C7 _ _ _ K7.out S7.out).out ?_); rintro e w8 ⟨rfl, k8, o8⟩
       have K8 := Lib.hid k8
       have S8 := Lib.hid (Nat.le_trans S7.out o8.size)
       have B8 := Lib.hid (Below.onlyF B7.out o8 (fun i h => by have := h.1; simp only [World.size_alloc] at this; omega))
       clear k8 o8)
    | (go_at_call 15; (with_reducible refine Calls.mono (C8 _ _ _ K8.out S8.out).out ?_); rintro e w9 ⟨rfl, k9, o9⟩
       have K9 := Lib.hid k9
       have S9 := Lib.hid (Nat.le_trans S8.out o9.size)
       have B9 := Lib.hid (Below.onlyF B8.out o9 (fun i h => by have := h.1; simp only [World.size_alloc] at this; omega))
       clear k9 o9)
    | (go_at_call 15; (with_reducible refine Calls.mono (C9 _ _ _ K9.out S9.out).out ?_); rintro e w10 ⟨rfl, k10, o10⟩
       have K10 := Lib.hid k10
       have S10 := Lib.hid (Nat.le_trans S9.out o10.size)
       have B10 := Lib.hid (Below.onlyF B9.out o10 (fun i h => by have := h.1; simp only [World.size_alloc] at this; omega))
       clear k10 o10)
    | (go_at_call 16; (with_reducible refine Calls.mono (C10 _ _ _ K10.out S10.out).out ?_); rintro e w11 ⟨A, c, rfl, -, -, -, o11⟩
       have B11 := Lib.hid (Below.onlyF B10.out o11 (fun i h => by have := h.1; simp only [World.size_alloc] at this; omega))
       clear o11))
  go_ret
  exact ⟨rfl, B11.out⟩
def MayPost (w : World) (n : Nat) (U : Nat → Int) (e : Ending) (w' : World) : Prop := ∃ r : Bool, e = .returned (.bool r) ∧ (r = true ↔ Good n U) ∧ w = w'
set_option maxHeartbeats 1000000 in
theorem rmay23_any (w : World) (A : Option Addr) (n c : Nat) (U : Nat → Int) (hs : IntsAt w .i64 A n U) (hn : n ≤ 140737488351232) :
    Calls Try.prog 8 #[.slice A n c] w (MayPost w n U) := by
  have HS := Lib.hid hs
  clear hs
  go_enter Try.func8, Try.ntmps8
  go_wp2_with fail
  go_loop [3] (fun iv => ∃ i : Nat, iv = .int .i64 i ∧ i ≤ n ∧ Hid (∀ j, j < i → 0 ≤ U j ∧ U j ≤ 100)) (fun iv => (n - intOf iv).toNat)
  case atStart => exact ⟨0, rfl, by omega, fun j hj => by omega⟩
  case round =>
    obtain ⟨i, rfl, hi, hok⟩ := hrel
    by_cases hin : i < n
    · have hin2 : (i : Int) < n := by omega
      obtain ⟨b, off, rfl, hlt, c0⟩ := HS.out.at_ hin
      obtain ⟨u, hu⟩ : ∃ u, U i = u := ⟨_, rfl⟩
      have HU := Lib.hid hu
      rw [hu] at c0
      clear hu
      by_cases z1 : u < 0
      · have d1 : decide (u < 0) = true := decide_eq_true z1
        have NG : Hid (¬ Good n U) := fun h => by have := (h.2.2 i hin).1; rw [HU.out] at this; omega
        go_wp2_with fail
        go_ret
        exact ⟨false, rfl, ⟨fun h => Bool.noConfusion h, fun h => absurd h NG.out⟩, rfl⟩
      · have d1 : decide (u < 0) = false := decide_eq_false z1
        by_cases z2 : 100 < u
        · have d2 : decide (100 < u) = true := decide_eq_true z2
          have NG : Hid (¬ Good n U) := fun h => by have := (h.2.2 i hin).2; rw [HU.out] at this; omega
          go_wp2_with fail
          go_ret
          exact ⟨false, rfl, ⟨fun h => Bool.noConfusion h, fun h => absurd h NG.out⟩, rfl⟩
        · have d2 : decide (100 < u) = false := decide_eq_false z2
          go_wp2_with fail
          go_round
          case rel =>
            refine ⟨i + 1, by go_num, by omega, fun j hj => ?_⟩
            by_cases e : j = i
            · subst e; rw [HU.out]; omega
            · exact hok.out j (by omega)
          case measure => simp [intOf]; omega
    · obtain rfl : i = n := by omega
      have hin2 : ¬ (i : Int) < i := by omega
      by_cases z1 : 1 ≤ i
      · have d1 : decide (1 ≤ i) = true := decide_eq_true z1
        have d1' : decide (1 ≤ (i : Int)) = true := decide_eq_true (by omega)
        by_cases z2 : i ≤ 16
        · have d2 : decide (i ≤ 16) = true := decide_eq_true z2
          have d2' : decide ((i : Int) ≤ 16) = true := decide_eq_true (by omega)
          have G : Hid (Good i U) := ⟨z1, z2, hok.out⟩
          go_wp2_with fail
          go_ret
          exact ⟨true, rfl, ⟨fun _ => G.out, fun _ => rfl⟩, rfl⟩
        · have d2 : decide (i ≤ 16) = false := decide_eq_false z2
          have d2' : decide ((i : Int) ≤ 16) = false := decide_eq_false (by omega)
          have NG : Hid (¬ Good i U) := fun h => by have := h.2.1; omega
          go_wp2_with fail
          go_ret
          exact ⟨false, rfl, ⟨fun h => Bool.noConfusion h, fun h => absurd h NG.out⟩, rfl⟩
      · have d1 : decide (1 ≤ i) = false := decide_eq_false z1
        have d1' : decide (1 ≤ (i : Int)) = false := decide_eq_false (by omega)
        have NG : Hid (¬ Good i U) := fun h => by have := h.1; omega
        go_wp2_with fail
        go_ret
        exact ⟨false, rfl, ⟨fun h => Bool.noConfusion h, fun h => absurd h NG.out⟩, rfl⟩
theorem upd_upd (ms : Int → Option Mm) (i : Int) (m m' : Mm) : upd (upd ms i m) i m' = upd ms i m' := by
  funext j
  unfold upd
  by_cases e : j = i
  · rw [if_pos e, if_pos e]
  · rw [if_neg e, if_neg e, if_neg e]
theorem who_is {ms : Int → Option Mm} {l : Int} {j : Nat} (hj : j < 64) (h : l ∈ heldM (ms j)) (hu : ∀ i : Nat, l ∈ heldM (ms i) → i = j) : who ms l = some j := by
  cases e : who ms l with
  | none => exact absurd (decide_eq_true h) ((List.find?_eq_none.1 e) j (by simpa using hj))
  | some i => rw [hu i (holds_iff.1 (who_some e))]
theorem who_no {ms : Int → Option Mm} {l : Int} (hu : ∀ i : Nat, l ∉ heldM (ms i)) : who ms l = none := by
  cases e : who ms l with
  | none => rfl
  | some i => exact absurd (holds_iff.1 (who_some e)) (hu i)
theorem getD_lst {n : Nat} {U : Nat → Int} {i : Nat} (h : i < n) : (lst n U).getD (i : Int).toNat 0 = U i := by
  simp [List.getD, lst_at h]
theorem prioL_le (cs : List Int) : ∀ (l : List Int) (p : Int), prioL cs p l ≤ p := by
  intro l
  induction l with
  | nil => intro p; exact Int.le_refl _
  | cons x l ih =>
    intro p
    show prioL cs (min p (cs.getD x.toNat 0)) l ≤ p
    have := ih (min p (cs.getD x.toNat 0))
    omega
/-- A foreign slice was appended to. -/
theorem Kept.append {W w' : World} {p N base : Nat} {v v' : Value} {R : Nat → Prop} {cs : List Int} {ms : Int → Option Mm} (h : Kept W p N base (fun g => v.ownBlock = some g ∨ R g) cs ms) (o : Only (fun g => v.ownBlock = some g) W w')
    (hat : v'.ownBlock = v.ownBlock ∨ v'.ownBlock = some W.heap.size) : Kept w' p N base (fun g => v'.ownBlock = some g ∨ R g) cs ms := by
  have h2 : Kept W p N base (fun g => (v.ownBlock = some g ∨ R g) ∨ g = W.heap.size) cs ms := h.re fun g hg f => f.elim id (fun e => by omega)
  refine (h2.only o fun g hg => .inl (.inl (.inl hg))).re fun g _ f => ?_
  rcases f with f | f
  · rcases hat with e | e
    · exact .inl (.inl (e ▸ f))
    · rw [e] at f; injection f with f; exact .inr f.symm
  · exact .inl (.inr f)
end Go.Proofs.Ythmcgbjkbcogkaa
