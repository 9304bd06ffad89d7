/- Layer 6 (bus): whether masters may be, as the reference says it; a new bus of masters that may not be. -/
import Derived.Test.YtbfhohcimomphaaBusMay
namespace Go.Proofs.Ytbfhohcimomphaa
open Go.RowKit
set_option linter.unusedVariables false
set_option linter.unusedSimpArgs false
set_option maxHeartbeats 1000000 in
theorem rmayB_any (m : Mp) (r : m.rng) (w : World) :
    Calls Try.prog 14 #[.agg #[.int .i64 m.q, .int .i64 m.u, .int .u64 m.b, .int .u64 m.p]] w fun e w' => e = .returned (.bool (mayBu m)) ∧ Below w.heap.size w w' := by
  have M := fun W => Lib.hid (rmaym_any m.b m.p W r.b0 r.b1 r.p0 r.p1)
  have hm : mayBu m = (decide (0 ≤ m.q ∧ m.q ≤ 100 ∧ 0 ≤ m.u ∧ m.u ≤ 1000) && mayM m.b m.p) := rfl
  rw [hm]
  clear hm r
  generalize mayM m.b m.p = mb at *
  obtain ⟨q, u, b, p⟩ := m
  simp only at *
  by_cases a1 : 0 ≤ q
  · have e1 : decide (0 ≤ q) = true := decide_eq_true a1
    by_cases a2 : q ≤ 100
    · have e2 : decide (q ≤ 100) = true := decide_eq_true a2
      by_cases a3 : 0 ≤ u
      · have e3 : decide (0 ≤ u) = true := decide_eq_true a3
        by_cases a4 : u ≤ 1000
        · have e4 : decide (u ≤ 1000) = true := decide_eq_true a4
          rw [decide_eq_true (show 0 ≤ q ∧ q ≤ 100 ∧ 0 ≤ u ∧ u ≤ 1000 from ⟨a1, a2, a3, a4⟩)]
          go_enter Try.func14, Try.ntmps14
          go_wp2_with (go_at_call 28; (with_reducible refine Calls.mono (M _).out ?_); rintro e w1 ⟨rfl, b1⟩; have B1 := Lib.hid b1; clear b1)
          go_ret
          exact ⟨retb (by simp), (by first | exact B1.out | exact Below.next ((Below.refl _ _).alloc (Nat.le_refl _) _) B1.out)⟩
        · have e4 : decide (u ≤ 1000) = false := decide_eq_false a4
          rw [decide_eq_false (show ¬ (0 ≤ q ∧ q ≤ 100 ∧ 0 ≤ u ∧ u ≤ 1000) from fun h => a4 h.2.2.2)]
          go_enter Try.func14, Try.ntmps14
          go_wp2_with fail
          go_ret
          exact ⟨retb (by simp), (by first | exact Below.refl _ _ | exact (Below.refl _ _).alloc (Nat.le_refl _) _)⟩
      · have e3 : decide (0 ≤ u) = false := decide_eq_false a3
        rw [decide_eq_false (show ¬ (0 ≤ q ∧ q ≤ 100 ∧ 0 ≤ u ∧ u ≤ 1000) from fun h => a3 h.2.2.1)]
        go_enter Try.func14, Try.ntmps14
        go_wp2_with fail
        go_ret
        exact ⟨retb (by simp), (by first | exact Below.refl _ _ | exact (Below.refl _ _).alloc (Nat.le_refl _) _)⟩
    · have e2 : decide (q ≤ 100) = false := decide_eq_false a2
      rw [decide_eq_false (show ¬ (0 ≤ q ∧ q ≤ 100 ∧ 0 ≤ u ∧ u ≤ 1000) from fun h => a2 h.2.1)]
      go_enter Try.func14, Try.ntmps14
      go_wp2_with fail
      go_ret
      exact ⟨retb (by simp), (by first | exact Below.refl _ _ | exact (Below.refl _ _).alloc (Nat.le_refl _) _)⟩
  · have e1 : decide (0 ≤ q) = false := decide_eq_false a1
    rw [decide_eq_false (show ¬ (0 ≤ q ∧ q ≤ 100 ∧ 0 ≤ u ∧ u ≤ 1000) from fun h => a1 h.1)]
    go_enter Try.func14, Try.ntmps14
    go_wp2_with fail
    go_ret
    exact ⟨retb (by simp), (by first | exact Below.refl _ _ | exact (Below.refl _ _).alloc (Nat.le_refl _) _)⟩

def allB (L : List Mp) : Prop := 1 ≤ L.length ∧ L.length ≤ 16 ∧ ∀ m ∈ L, m.ok
def AllPost (w : World) (L : List Mp) (e : Ending) (w' : World) : Prop := ∃ r, e = .returned (.bool r) ∧ (r = true ↔ allB L) ∧ Below w.heap.size w w'
def RelAll (w : World) (L : List Mp) (iv : Value) (wr : World) : Prop := ∃ i : Nat, iv = .int .i64 i ∧ i ≤ L.length ∧ (∀ j m, j < i → L[j]? = some m → m.ok) ∧ Below w.heap.size w wr
theorem oks_all {L : List Mp} (h : ∀ j m, j < L.length → L[j]? = some m → m.ok) : ∀ m ∈ L, m.ok := fun m hm => by
  obtain ⟨j, hj⟩ := List.mem_iff_getElem?.1 hm
  exact h j m (List.getElem?_eq_some_iff.1 hj).1 hj
set_option maxHeartbeats 1000000 in
theorem rallB_any (w : World) (A : Option Addr) (cap : Nat) (L : List Mp) (hA : Hid (Mps w A L)) (hL : Hid (∀ m ∈ L, m.rng)) (hn : L.length ≤ 140737488351232) :
    Calls Try.prog 11 #[.slice A L.length cap] w (AllPost w L) := by
  go_enter Try.func11, Try.ntmps11
  go_wp2_with fail
  go_loopw [3] (fun iv wr => Hid (RelAll w L iv wr)) (fun iv _ => L.length - (intOf iv).toNat)
  case atStart => exact ⟨0, rfl, by omega, fun j m h => by omega, Below.refl _ _⟩
  case round =>
    obtain ⟨i, rfl, hi, hall, hbel⟩ := hrel
    have BEL := Lib.hid hbel
    have HALL := Lib.hid hall
    by_cases hil : i < L.length
    · have hi2 : (i : Int) < L.length := by omega
      have hm : L[i]? = some L[i] := List.getElem?_eq_getElem hil
      obtain ⟨ab, ao, rfl, hlt, c0, c1, c2, c3⟩ := hA.out i _ hm
      have rm := hL.out _ (List.mem_of_getElem? hm)
      have q := fun j => hbel.cell (p := ⟨ab, j, none⟩) hlt
      have q0 := (q _).trans c0
      have q1 := (q _).trans c1
      have q2 := (q _).trans c2
      have q3 := (q _).trans c3
      have CM := fun W => Lib.hid (rmayB_any L[i] rm W)
      have HMM := Lib.hid hm
      clear c0 c1 c2 c3 q hbel hall hm
      generalize L[i] = m at *
      cases hb : mayBu m with
      | false =>
        rw [hb] at CM
        have HM := Lib.hid (show ¬ m.ok from fun h => by rw [mayBu_ok.2 h] at hb; cases hb)
        clear hb
        go_wp2_with (go_at_call 14; (with_reducible refine Calls.mono (CM _).out ?_); rintro e w1 ⟨rfl, b1⟩; have B1 := Lib.hid b1; clear b1)
        go_ret
        exact ⟨false, rfl, ⟨(fun h => by cases h), fun h => absurd (h.2.2 m (List.mem_of_getElem? HMM.out)) HM.out⟩, Below.next BEL.out B1.out⟩
      | true =>
        rw [hb] at CM
        have HM := Lib.hid (mayBu_ok.1 hb)
        clear hb
        go_wp2_with (go_at_call 14; (with_reducible refine Calls.mono (CM _).out ?_); rintro e w1 ⟨rfl, b1⟩; have B1 := Lib.hid b1; clear b1)
        go_roundw
        case rel => exact ⟨i + 1, by go_num, by omega, fun j m' hj hm' => by
          rcases Nat.lt_or_ge j i with h | h
          · exact HALL.out j m' h hm'
          · obtain rfl : j = i := by omega
            rw [HMM.out] at hm'; cases hm'; exact HM.out, Below.next BEL.out B1.out⟩
        case measure => simp [intOf]; omega
    · have hi2 : ¬ (i : Int) < L.length := by omega
      obtain rfl : i = L.length := by omega
      clear hbel hall
      by_cases a1 : 1 ≤ L.length
      · have d1 : decide (1 ≤ (L.length : Int)) = true := decide_eq_true (by omega)
        by_cases a2 : L.length ≤ 16
        · have d2 : decide ((L.length : Int) ≤ 16) = true := decide_eq_true (by omega)
          go_wp2_with fail
          go_ret
          exact ⟨true, rfl, ⟨fun _ => ⟨a1, a2, oks_all HALL.out⟩, fun _ => rfl⟩, BEL.out⟩
        · have d2 : decide ((L.length : Int) ≤ 16) = false := decide_eq_false (by omega)
          go_wp2_with fail
          go_ret
          exact ⟨false, rfl, ⟨(fun h => by cases h), fun h => absurd h.2.1 a2⟩, BEL.out⟩
      · have d1 : decide (1 ≤ (L.length : Int)) = false := decide_eq_false (by omega)
        go_wp2_with fail
        go_ret
        exact ⟨false, rfl, ⟨(fun h => by cases h), fun h => absurd h.1 a1⟩, BEL.out⟩
def NoB (w : World) (e : Ending) (w' : World) : Prop := e = .returned (.tuple #[.pointer none, .int .i64 1]) ∧ Below w.heap.size w w'
set_option maxHeartbeats 1000000 in
theorem newb_no (w : World) (Aa : Option Addr) (cap : Nat) (L : List Mp) (ph : Int) (hA : Hid (Mps w Aa L)) (hL : Hid (∀ m ∈ L, m.rng)) (hn : L.length ≤ 140737488351232) (p0 : 0 ≤ ph) (p1 : ph ≤ 18446744073709551615) (hno : Hid (¬ allB L)) :
    Calls Try.prog 10 #[.slice Aa L.length cap, .int .u64 ph] w (NoB w) := by
  by_cases n1 : 1 ≤ L.length
  · have d1 : ((L.length : Int) == 0) = false := beq_eq_false_iff_ne.2 (by omega)
    have d3 : (L.length == 0) = false := beq_eq_false_iff_ne.2 (by omega)
    by_cases n16 : L.length ≤ 16
    · have d2 : decide (16 < (L.length : Int)) = false := decide_eq_false (by omega)
      have d4 : decide (16 < L.length) = false := decide_eq_false (by omega)
      go_enter Try.func10, Try.ntmps10
      go_wp2_with fail
      go_loopw [26] (fun iv wr => Hid (RelAll w L iv wr)) (fun iv _ => L.length - (intOf iv).toNat)
      case atStart => exact ⟨0, rfl, by omega, fun j m h => by omega, (Below.refl _ _).alloc (Nat.le_refl _) _⟩
      case round =>
        obtain ⟨i, rfl, hi, hall, hbel⟩ := hrel
        have BEL := Lib.hid hbel
        have HALL := Lib.hid hall
        by_cases hil : i < L.length
        · have hi2 : (i : Int) < L.length := by omega
          have hm : L[i]? = some L[i] := List.getElem?_eq_getElem hil
          obtain ⟨ab, ao, rfl, hlt, c0, c1, c2, c3⟩ := hA.out i _ hm
          have rm := hL.out _ (List.mem_of_getElem? hm)
          have q := fun j => hbel.cell (p := ⟨ab, j, none⟩) hlt
          have q0 := (q _).trans c0
          have q1 := (q _).trans c1
          have q2 := (q _).trans c2
          have q3 := (q _).trans c3
          have CM := fun W => Lib.hid (mayBu_any L[i] rm W)
          have HMM := Lib.hid hm
          clear c0 c1 c2 c3 q hbel hall hm
          generalize L[i] = m at *
          cases hb : mayBu m with
          | false =>
            rw [hb] at CM
            clear hb
            go_wp2_with (go_at_call 15; (with_reducible refine Calls.mono (CM _).out ?_); rintro e w1 ⟨rfl, b1⟩; have B1 := Lib.hid (Below.next ((Below.refl wr.heap.size wr).alloc (Nat.le_refl _) _) b1); clear b1)
            go_ret2
            exact ⟨rfl, Below.next BEL.out B1.out⟩
          | true =>
            rw [hb] at CM
            have HM := Lib.hid (mayBu_ok.1 hb)
            clear hb
            go_wp2_with (go_at_call 15; (with_reducible refine Calls.mono (CM _).out ?_); rintro e w1 ⟨rfl, b1⟩; have B1 := Lib.hid (Below.next ((Below.refl wr.heap.size wr).alloc (Nat.le_refl _) _) b1); clear b1)
            go_roundw
            case rel => exact ⟨i + 1, by go_num, by omega, fun j m' hj hm' => by
              rcases Nat.lt_or_ge j i with h | h
              · exact HALL.out j m' h hm'
              · obtain rfl : j = i := by omega
                rw [HMM.out] at hm'; cases hm'; exact HM.out, Below.next BEL.out B1.out⟩
            case measure => simp [intOf]; omega
        · obtain rfl : i = L.length := by omega
          exact absurd ⟨n1, n16, oks_all HALL.out⟩ hno.out
    · have d2 : decide (16 < (L.length : Int)) = true := decide_eq_true (by omega)
      have d4 : decide (16 < L.length) = true := decide_eq_true (by omega)
      go_enter Try.func10, Try.ntmps10
      go_wp2_with fail
      go_ret2
      exact ⟨rfl, Below.refl _ _⟩
  · have d1 : ((L.length : Int) == 0) = true := beq_iff_eq.2 (by omega)
    have d3 : (L.length == 0) = true := beq_iff_eq.2 (by omega)
    go_enter Try.func10, Try.ntmps10
    go_wp2_with fail
    go_ret2
    exact ⟨rfl, Below.refl _ _⟩
end Go.Proofs.Ytbfhohcimomphaa
