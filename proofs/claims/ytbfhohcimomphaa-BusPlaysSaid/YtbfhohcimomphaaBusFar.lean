/- Layer 6 (bus): a new bus at a time that is none. -/
import Derived.Test.YtbfhohcimomphaaBusAll
namespace Go.Proofs.Ytbfhohcimomphaa
open Go.RowKit
set_option linter.unusedVariables false
set_option linter.unusedSimpArgs false
def FarB (w : World) (e : Ending) (w' : World) : Prop := e = .returned (.tuple #[.pointer none, .int .i64 2]) ∧ Below w.heap.size w w'
set_option maxHeartbeats 1000000 in
theorem newb_far (w : World) (Aa : Option Addr) (cap : Nat) (L : List Mp) (ph : Int) (hA : Hid (Mps w Aa L)) (hL : Hid (∀ m ∈ L, m.ok)) (n1 : 1 ≤ L.length) (n16 : L.length ≤ 16) (p0 : 4611686018427387904 ≤ ph) (p1 : ph ≤ 18446744073709551615) :
    Calls Try.prog 10 #[.slice Aa L.length cap, .int .u64 ph] w (FarB w) := by
  have d1 : ((L.length : Int) == 0) = false := beq_eq_false_iff_ne.2 (by omega)
  have d3 : (L.length == 0) = false := beq_eq_false_iff_ne.2 (by omega)
  have d2 : decide (16 < (L.length : Int)) = false := decide_eq_false (by omega)
  have d4 : decide (16 < L.length) = false := decide_eq_false (by omega)
  have d5 : decide (ph < 4611686018427387904) = false := decide_eq_false (by omega)
  have TM := fun W => Lib.hid (may_any ph W)
  go_enter Try.func10, Try.ntmps10
  go_wp2_with fail
  go_loopw [26] (fun iv wr => Hid (RelAll w L iv wr)) (fun iv _ => L.length - (intOf iv).toNat)
  case atStart => exact ⟨0, rfl, by omega, fun j m h => by omega, (Below.refl _ _).alloc (Nat.le_refl _) _⟩
  case round =>
    obtain ⟨i, rfl, hi, hall, hbel⟩ := hrel
    have BEL := Lib.hid hbel
    have HALL := Lib.hid hall
    by_cases hil : i < L.length
    · have hi2 : (i : Int) < L.length := by omega
      have hm : L[i]? = some L[i] := List.getElem?_eq_getElem hil
      obtain ⟨ab, ao, rfl, hlt, c0, c1, c2, c3⟩ := hA.out i _ hm
      have okm := hL.out _ (List.mem_of_getElem? hm)
      have q := fun j => hbel.cell (p := ⟨ab, j, none⟩) hlt
      have q0 := (q _).trans c0
      have q1 := (q _).trans c1
      have q2 := (q _).trans c2
      have q3 := (q _).trans c3
      have cm := fun W => mayBu_any L[i] okm.rng W
      rw [mayBu_ok.2 okm] at cm
      have CM := fun W => Lib.hid (cm W)
      have HMM := Lib.hid hm
      have HOK := Lib.hid okm
      clear c0 c1 c2 c3 q hbel hall hm cm okm
      generalize L[i] = m at *
      go_wp2_with (go_at_call 15; (with_reducible refine Calls.mono (CM _).out ?_); rintro e w1 ⟨rfl, b1⟩; have B1 := Lib.hid (Below.next ((Below.refl wr.heap.size wr).alloc (Nat.le_refl _) _) b1); clear b1)
      go_roundw
      case rel => exact ⟨i + 1, by go_num, by omega, fun j m' hj hm' => by
        rcases Nat.lt_or_ge j i with h | h
        · exact HALL.out j m' h hm'
        · obtain rfl : j = i := by omega
          rw [HMM.out] at hm'; cases hm'; exact HOK.out, Below.next BEL.out B1.out⟩
      case measure => simp [intOf]; omega
    · have hi2 : ¬ (i : Int) < L.length := by omega
      clear hbel hall
      go_wp2_with (go_at_call 21; (with_reducible refine Calls.mono (TM _).out ?_); rintro e w2 ⟨rfl, rfl⟩)
      go_ret2
      exact ⟨rfl, BEL.out⟩
end Go.Proofs.Ytbfhohcimomphaa
