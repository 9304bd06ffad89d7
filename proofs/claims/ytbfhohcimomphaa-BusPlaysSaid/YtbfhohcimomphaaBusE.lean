/- Layer 6 (bus): a slot that may not be; how often one was stalled; the row; whether a master may be. -/
import Derived.Test.YtbfhohcimomphaaBusD
namespace Go.Proofs.Ytbfhohcimomphaa
open Go.RowKit
set_option linter.unusedVariables false
set_option linter.unusedSimpArgs false
def codeB (T : Int) : Int := if 4611686018427387904 ≤ T then 2 else 1
set_option maxRecDepth 100000 in
set_option maxHeartbeats 2000000 in
theorem slot_err {w : World} {A : Bl} {B : Bu} (k : IsB w A B) (T : Int) (h0 : 0 ≤ T) (h1 : T ≤ 18446744073709551615) (hn : B.L.length ≤ 16) (l : List Int) (Aw : Option Addr) (c : Nat) (hs : Src w 1 Aw l.length (intCells l)) (hl : l.length ≤ 140737488351232)
    (g : 4611686018427387904 ≤ T ∨ okWants l B.L.length = false ∨ T < B.ph ∨ (B.beg = true ∧ T ≤ B.last)) :
    Calls Try.prog 12 #[.pointer (some ⟨A.p, 0, none⟩), .int .u64 T, .slice Aw l.length c] w fun e w' => e = .returned (.tuple #[.int .i64 0, .int .i64 (codeB T)]) ∧ Below w.heap.size w w' := by
  have bw : Below w.heap.size w ((w.alloc (.cells #[.pointer (some ⟨A.p, 0, none⟩)] 26)).alloc (.cells #[.int .u64 T] 30)) := ((Below.refl _ _).alloc (Nat.le_refl _) _).alloc (by simp) _
  have MK := Lib.hid (marks_any (k.below bw) hn l Aw c (hs.below bw) hl)
  have TM := fun W => Lib.hid (may_any T W)
  have BX := Lib.hid ((Blk.new w 26 [.pointer (some ⟨A.p, 0, none⟩)]).alloc (.cells #[.int .u64 T] 30))
  have TX := Lib.hid (show Blk ((w.alloc (.cells #[.pointer (some ⟨A.p, 0, none⟩)] 26)).alloc (.cells #[.int .u64 T] 30)) (w.heap.size + 1) 30 [.int .u64 T] from by
    have := Blk.new (w.alloc (.cells #[.pointer (some ⟨A.p, 0, none⟩)] 26)) 30 [.int .u64 T]
    simpa using this)
  have K := Lib.hid k
  have BW := Lib.hid bw
  clear k bw hs
  unfold codeB
  by_cases z1 : 4611686018427387904 ≤ T
  · rw [if_pos z1]
    have d0 : decide (T < 4611686018427387904) = false := decide_eq_false (by omega)
    clear g
    go_enter Try.func12, Try.ntmps12
    go_wp2_with (first
| (go_at_call 23; (with_reducible refine Calls.mono MK.out ?_); rintro e w1 ⟨want, rfl, -, b1⟩; have k1 := (K.out.below BW.out).below b1; have hb1 := BX.out.below b1 BX.out.lt; have ht1 := TX.out.below b1 TX.out.lt; have xb : w1.cell? ⟨w.heap.size, 0, none⟩ = some (.pointer (some ⟨A.p, 0, none⟩)) := hb1.cell 0; have xt : w1.cell? ⟨w.heap.size + 1, 0, none⟩ = some (.int .u64 T) := ht1.cell 0; obtain ⟨c0, c1, c18, c19, c20, c21, c22⟩ := k1.cells; have hz := hb1.lt; have hz2 := ht1.lt; have hz3 := k1.blk.lt; have B1 := Lib.hid (Below.next BW.out b1); clear k1 hb1 ht1 b1)
| (go_at_call 21; (with_reducible refine Calls.mono (TM _).out ?_); rintro e w2 ⟨rfl, rfl⟩)

      )
    go_ret2
    exact ⟨rfl, B1.out.alloc B1.out.size _⟩
  · rw [if_neg z1]
    have d0 : decide (T < 4611686018427387904) = true := decide_eq_true (by omega)
    cases hok : okWants l B.L.length with
    | false =>
      have OKW := Lib.hid hok
      clear g hok
      go_enter Try.func12, Try.ntmps12
      go_wp2_with (first
| (go_at_call 23; (with_reducible refine Calls.mono MK.out ?_); rintro e w1 ⟨want, rfl, -, b1⟩; have k1 := (K.out.below BW.out).below b1; have hb1 := BX.out.below b1 BX.out.lt; have ht1 := TX.out.below b1 TX.out.lt; have xb : w1.cell? ⟨w.heap.size, 0, none⟩ = some (.pointer (some ⟨A.p, 0, none⟩)) := hb1.cell 0; have xt : w1.cell? ⟨w.heap.size + 1, 0, none⟩ = some (.int .u64 T) := ht1.cell 0; obtain ⟨c0, c1, c18, c19, c20, c21, c22⟩ := k1.cells; have hz := hb1.lt; have hz2 := ht1.lt; have hz3 := k1.blk.lt; have B1 := Lib.hid (Below.next BW.out b1); clear k1 hb1 ht1 b1)
| (go_at_call 21; (with_reducible refine Calls.mono (TM _).out ?_); rintro e w2 ⟨rfl, rfl⟩)

        )
      rw [OKW.out]
      go_quiet (fail)
      go_wp2_with fail
      go_ret2
      exact ⟨rfl, Below.drewN' (B1.out.alloc B1.out.size _) _⟩
    | true =>
      have OKW := Lib.hid hok
      by_cases z3 : T < B.ph
      · have d1 : decide (T < B.ph) = true := decide_eq_true z3
        clear g hok
        go_enter Try.func12, Try.ntmps12
        go_wp2_with (first
| (go_at_call 23; (with_reducible refine Calls.mono MK.out ?_); rintro e w1 ⟨want, rfl, -, b1⟩; have k1 := (K.out.below BW.out).below b1; have hb1 := BX.out.below b1 BX.out.lt; have ht1 := TX.out.below b1 TX.out.lt; have xb : w1.cell? ⟨w.heap.size, 0, none⟩ = some (.pointer (some ⟨A.p, 0, none⟩)) := hb1.cell 0; have xt : w1.cell? ⟨w.heap.size + 1, 0, none⟩ = some (.int .u64 T) := ht1.cell 0; obtain ⟨c0, c1, c18, c19, c20, c21, c22⟩ := k1.cells; have hz := hb1.lt; have hz2 := ht1.lt; have hz3 := k1.blk.lt; have B1 := Lib.hid (Below.next BW.out b1); clear k1 hb1 ht1 b1)
| (go_at_call 21; (with_reducible refine Calls.mono (TM _).out ?_); rintro e w2 ⟨rfl, rfl⟩)

          )
        rw [OKW.out]
        go_quiet (fail)
        go_wp2_with fail
        go_ret2
        exact ⟨rfl, Below.drewN' (B1.out.alloc B1.out.size _) _⟩
      · have d1 : decide (T < B.ph) = false := decide_eq_false z3
        have hb : B.beg = true ∧ T ≤ B.last := by
          rcases g with g | g | g | g
          · exact absurd g z1
          · rw [hok] at g; cases g
          · exact absurd g z3
          · exact g
        obtain ⟨hbeg, hlast⟩ := hb
        have HBG := Lib.hid hbeg
        have d2 : decide (T ≤ B.last) = true := decide_eq_true hlast
        clear g hok hbeg
        go_enter Try.func12, Try.ntmps12
        go_wp2_with (first
| (go_at_call 23; (with_reducible refine Calls.mono MK.out ?_); rintro e w1 ⟨want, rfl, -, b1⟩; have k1 := (K.out.below BW.out).below b1; have hb1 := BX.out.below b1 BX.out.lt; have ht1 := TX.out.below b1 TX.out.lt; have xb : w1.cell? ⟨w.heap.size, 0, none⟩ = some (.pointer (some ⟨A.p, 0, none⟩)) := hb1.cell 0; have xt : w1.cell? ⟨w.heap.size + 1, 0, none⟩ = some (.int .u64 T) := ht1.cell 0; obtain ⟨c0, c1, c18, c19, c20, c21, c22⟩ := k1.cells; have hz := hb1.lt; have hz2 := ht1.lt; have hz3 := k1.blk.lt; have B1 := Lib.hid (Below.next BW.out b1); clear k1 hb1 ht1 b1)
| (go_at_call 21; (with_reducible refine Calls.mono (TM _).out ?_); rintro e w2 ⟨rfl, rfl⟩)

          )
        rw [OKW.out]
        rw [HBG.out] at c18
        go_quiet (fail)
        go_wp2_with fail
        go_ret2
        exact ⟨rfl, Below.drewN' (B1.out.alloc B1.out.size _) _⟩
theorem stalls_any {w : World} {A : Bl} {B : Bu} (k : IsB w A B) (hn : B.L.length ≤ 16) {i : Nat} {x : Int} (hi : i < B.L.length) (hx : B.S[i]? = some x) :
    Calls Try.prog 16 #[.pointer (some ⟨A.p, 0, none⟩), .int .i64 i] w fun e w' => e = .returned (.int .i64 x) ∧ w = w' := by
  obtain ⟨c0, -⟩ := k.cells
  obtain ⟨A0, cp0, ev, -⟩ := k.list.shape
  rw [ev] at c0
  have hst := k.stall hx
  have hi2 : (i : Int) < B.L.length := by omega
  have hi3 : (i : Int) < 16 := by omega
  have hi4 : i < 16 := by omega
  have d1 : decide ((i : Int) < 0) = false := decide_eq_false (by omega)
  have d2 : decide ((B.L.length : Int) ≤ i) = false := decide_eq_false (by omega)
  have d3 : decide (B.L.length ≤ i) = false := decide_eq_false (by omega)
  clear k ev hx
  go_enter Try.func16, Try.ntmps16
  go_wp2_with fail
  go_ret
  exact ⟨rfl, rfl⟩
theorem stalls_no {w : World} {A : Bl} {B : Bu} (k : IsB w A B) (i : Int) (hi : i < 0 ∨ (B.L.length : Int) ≤ i) (hn : B.L.length ≤ 16) :
    Calls Try.prog 16 #[.pointer (some ⟨A.p, 0, none⟩), .int .i64 i] w fun e w' => e = .returned (.int .i64 0) ∧ w = w' := by
  obtain ⟨c0, -⟩ := k.cells
  obtain ⟨A0, cp0, ev, -⟩ := k.list.shape
  rw [ev] at c0
  clear k ev
  by_cases z : i < 0
  · have d1 : decide (i < 0) = true := decide_eq_true z
    clear hi
    go_enter Try.func16, Try.ntmps16
    go_wp2_with fail
    go_ret
    exact ⟨rfl, rfl⟩
  · have d1 : decide (i < 0) = false := decide_eq_false z
    have d2 : decide ((B.L.length : Int) ≤ i) = true := decide_eq_true (by omega)
    clear hi
    go_enter Try.func16, Try.ntmps16
    go_wp2_with fail
    go_ret
    exact ⟨rfl, rfl⟩
theorem row_any {w : World} {A : Bl} {B : Bu} (k : IsB w A B) :
    Calls Try.prog 19 #[.pointer (some ⟨A.p, 0, none⟩)] w fun e w' => e = .returned (.tuple #[.int .i64 B.who, .int .i64 B.row]) ∧ ∃ n, w' = w.drewN n := by
  obtain ⟨c0, c1, c18, c19, c20, c21, c22⟩ := k.cells
  clear k
  go_enter Try.func19, Try.ntmps19
  go_wp2_with fail
  go_quiet (fail)
  go_wp2_with fail
  go_ret2
  exact ⟨rfl, _, rfl⟩
end Go.Proofs.Ytbfhohcimomphaa
