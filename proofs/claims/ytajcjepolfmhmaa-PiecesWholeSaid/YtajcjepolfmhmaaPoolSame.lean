/- Layer 7's reference: whether bytes are the same. -/
import Derived.Test.YtajcjepolfmhmaaPool
import Derived.Test.YtajcjepolfmhmaaArgs
import Derived.Deep.QuietTactic
import Derived.BigQuiet
import Derived.StillTailTactics
namespace Go.Proofs.Ytajcjepolfmhmaa
open Go.RowKit
set_option linter.unusedVariables false
set_option linter.unusedSimpArgs false
theorem Src.lit {w : World} {A : Option Addr} {n : Nat} {l : List Int} (h : Src w 1 A n (byteCells l)) {i : Nat} (hi : i < n) : ∃ b off x, A = some ⟨b, off, none⟩ ∧ l[i]? = some x ∧ w.cell? ⟨b, off + i, none⟩ = some (.int .u8 x) := by
  obtain ⟨hl, h0 | ⟨ad, rfl, hc⟩⟩ := h
  · omega
  · simp [byteCells] at hl
    obtain ⟨x, hx⟩ : ∃ x, l[i]? = some x := ⟨_, List.getElem?_eq_getElem (by omega)⟩
    obtain ⟨b, off, spot⟩ := ad
    have h1 := hc i (.int .u8 x) (by simp [byteCells, hx])
    obtain ⟨x0, hx0⟩ : ∃ x, l[0]? = some x := ⟨_, List.getElem?_eq_getElem (by omega)⟩
    have h0 := hc 0 (.int .u8 x0) (by simp [byteCells, hx0])
    have hs : spot = none := by simpa [Addr.add] using World.cell?_spot h0
    subst hs
    rw [Addr.add_lit] at h1
    exact ⟨b, off, x, rfl, hx, h1⟩
theorem src_of_ints {w : World} {A : Option Addr} {n : Nat} {U : Nat → Int} (h : IntsAt w .u8 A n U) : Src w 1 A n (byteCells ((List.range n).map U)) := by
  refine ⟨by simp [byteCells], ?_⟩
  rcases Nat.eq_zero_or_pos n with h0 | h0
  · exact .inl h0
  · obtain ⟨b, off, rfl, hb, hc⟩ := h 0 h0
    refine .inr ⟨_, rfl, fun j u hu => ?_⟩
    have hj : j < n := by
      have := (List.getElem?_eq_some_iff.1 hu).1
      simpa [byteCells] using this
    rw [Addr.add_lit, hc j hj]
    simp [byteCells, hj] at hu
    rw [← hu]
def RelSame (l k : List Int) (n : Nat) (w : World) (iv : Value) (wr : World) : Prop :=
  ∃ i : Nat, iv = .int .i64 i ∧ i ≤ n ∧ (∀ j, j < i → l[j]? = k[j]?) ∧ Below w.heap.size w wr
set_option maxHeartbeats 1000000 in
theorem same_any (w : World) (A B : Option Addr) (n m c d : Nat) (l k : List Int) (ha : Src w 1 A n (byteCells l)) (hb : Src w 1 B m (byteCells k)) (hn : n ≤ 140737488351232) (hm : m ≤ 140737488351232) :
    Calls Try.prog 13 #[.slice A n c, .slice B m d] w fun e w' => e = .returned (.bool (decide (l = k))) ∧ Below w.heap.size w w' := by
  have hl : l.length = n := by simpa [byteCells] using ha.1
  have hk : k.length = m := by simpa [byteCells] using hb.1
  have HA := Lib.hid ha
  have HB := Lib.hid hb
  clear ha hb
  by_cases hnm : n = m
  · subst hnm
    go_enter Try.func13, Try.ntmps13
    go_wp2_with fail
    go_loopw [5] (fun iv wr => Hid (RelSame l k n w iv wr)) (fun iv _ => n - (intOf iv).toNat)
    case atStart => exact ⟨0, rfl, by omega, fun j hj => absurd hj (by omega), Below.refl _ _⟩
    case round =>
      obtain ⟨i, rfl, hi, heq, hbel⟩ := hrel
      have EQ := Lib.hid heq
      have BL := Lib.hid hbel
      clear heq
      by_cases hin : i < n
      · have hin2 : (i : Int) < n := by omega
        obtain ⟨ab, ao, x, rfl, hx, hc⟩ := HA.out.lit hin
        obtain ⟨bb, bo, y, rfl, hy, hd⟩ := HB.out.lit hin
        have hc' := (hbel.cell (p := ⟨ab, ao + i, none⟩) (World.block_lt_of_cell? w _ hc)).trans hc
        have hd' := (hbel.cell (p := ⟨bb, bo + i, none⟩) (World.block_lt_of_cell? w _ hd)).trans hd
        clear hc hd hbel
        by_cases hxy : x = y
        · subst hxy
          have EQ2 : Hid (∀ j, j < i + 1 → l[j]? = k[j]?) := fun j hj => by
            rcases Nat.lt_or_ge j i with h | h
            · exact EQ.out j h
            · obtain rfl : j = i := by omega
              rw [hx, hy]
          clear hx hy
          go_wp2_with fail
          go_quiet (fail)
          go_wp2_with fail
          go_roundw
          case rel => exact ⟨i + 1, by go_num, by omega, EQ2.out, Below.drewN' BL.out _⟩
          case measure => simp [intOf]; omega
        · have d1 : (x == y) = false := beq_eq_false_iff_ne.2 hxy
          have NE : Hid (¬ l = k) := fun e => hxy (by rw [e, hy] at hx; injection hx with hx; exact hx.symm)
          clear hx hy
          go_wp2_with fail
          go_quiet (fail)
          go_wp2_with fail
          go_ret
          exact ⟨retb (decide_eq_false NE.out).symm, Below.drewN' BL.out _⟩
      · have hin2 : ¬ (i : Int) < n := by omega
        obtain rfl : i = n := by omega
        have E : Hid (l = k) := by
          show l = k
          apply List.ext_getElem?
          intro j
          rcases Nat.lt_or_ge j i with h | h
          · exact EQ.out j h
          · rw [List.getElem?_eq_none (by omega), List.getElem?_eq_none (by omega)]
        clear hbel
        go_wp2_with fail
        go_ret
        exact ⟨retb (decide_eq_true E.out).symm, BL.out⟩
  · have d1 : ((n : Int) == m) = false := beq_eq_false_iff_ne.2 (by omega)
    have d2 : (n == m) = false := beq_eq_false_iff_ne.2 hnm
    have NE : Hid (¬ l = k) := fun e => hnm (by rw [← hl, ← hk, e])
    go_enter Try.func13, Try.ntmps13
    go_wp2_with fail
    go_ret
    exact ⟨retb (decide_eq_false NE.out).symm, Below.refl _ _⟩
end Go.Proofs.Ytajcjepolfmhmaa
