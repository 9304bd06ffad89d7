/- The reference of layer 13: Pending. -/
import Derived.Test.YtbdhmjlbogjkoaaIrqRefE
namespace Go.Proofs.Ytbdhmjlbogjkoaa
open Go.RowKit
set_option linter.unusedVariables false
set_option linter.unusedSimpArgs false
section
variable {w w' : World} {q : Nat} {sv : Value} {av : List Av} {ls : List Ln} {Rs : List (List Int)} {c now T : Int} {F : Nat → Prop}
set_option maxRecDepth 100000 in
set_option maxHeartbeats 4000000 in
theorem rpending_any (k : IsRI w q sv av ls Rs c now) (hl16 : ls.length ≤ 16) (hp : ∀ n ∈ ls, 0 ≤ n.pends) :
    Calls Try.prog 26 #[.pointer (some ⟨q, 0, none⟩)] w fun e w' => e = .returned (.tuple #[.int .i64 (pendQ ls 0).1, .int .i64 (pendQ ls 0).2.1, .bool (pendQ ls 0).2.2]) ∧ Below w.heap.size w w' := by
  have K := Lib.hid k
  have HP := Lib.hid hp
  have HLEN := Lib.hid k.len
  obtain ⟨A, cp, hsv, -⟩ := k.row.shape
  subst hsv
  have hl16b : av.length ≤ 16 := by have := HLEN.out; omega
  clear k hp
  go_enter Try.func26, Try.ntmps26
  go_wp2_with fail
  go_loopw [5] (fun iv wr => Hid (RelP w ls iv wr)) (fun iv _ => av.length - (intOf iv).toNat)
  case atStart => exact ⟨0, rfl, by omega, rfl, Below.refl _ _⟩
  case round =>
    obtain ⟨i, rfl, hi, hpq, hb⟩ := hrel
    have HPQ := Lib.hid hpq
    have HB := Lib.hid hb
    have kr := K.out.below hb
    have z0 : wr.cell? ⟨q, 0, none⟩ = some (.slice A av.length cp) := kr.blk.cell 0
    have hq := kr.blk.lt
    by_cases hin : i < ls.length
    · obtain ⟨n, hn⟩ : ∃ n, ls[i]? = some n := ⟨_, List.getElem?_eq_getElem hin⟩
      obtain ⟨a, R, g, off, cp2, ha, hR, hl, esv, hg, hcl, ngx, nqx⟩ := kr.find hn
      injection esv with e1 e2 e3
      subst e1 e3
      clear e2
      have hin2 : (i : Int) < av.length := by have := HLEN.out; omega
      have hin3 : i < av.length := by have := HLEN.out; omega
      have x9 : wr.cell? ⟨a.x, 9, none⟩ = some (.int .i64 n.pends) := hl.x.x.cell 9
      have x10 : wr.cell? ⟨a.x, 10, none⟩ = some (.bool n.masked) := hl.x.x.cell 10
      have hxl := hl.x.x.lt
      have hp0 := HP.out n (List.mem_of_getElem? hn)
      have HN := Lib.hid hn
      have g1 : IntKind.i64.wrap ((i : Int) + 1) = i + 1 := IntWalk.i64_in _ (by omega)
      by_cases u1 : 0 < n.pends
      · have t1 : decide (0 < n.pends) = true := decide_eq_true u1
        cases hm : n.masked with
        | false =>
          rw [hm] at x10
          have E := pendQ_yes hn hm u1
          rw [hpq] at E
          have E2 := Lib.hid E
          clear hpq hb kr ha hR hl hn hm E u1
          go_wp2_with fail
          try go_quiet (fail)
          try go_wp2_with fail
          try go_quiet (fail)
          try go_wp2_with fail
          go_ret3
          rw [E2.out]
          exact ⟨rfl, by first | exact HB.out | exact Below.drewN' HB.out _⟩
        | true =>
          rw [hm] at x10
          have E := pendQ_no hn (fun h => by rw [hm] at h; cases h.1)
          rw [hpq] at E
          have E2 := Lib.hid E
          clear hpq hb kr ha hR hl hn hm E u1
          go_wp2_with fail
          try go_quiet (fail)
          try go_wp2_with fail
          go_roundw
          case rel => exact ⟨i + 1, by go_num, by omega, E2.out.symm, by first | exact HB.out | exact Below.drewN' HB.out _⟩
          case measure => simp [intOf]; omega
      · have t1 : decide (0 < n.pends) = false := decide_eq_false u1
        have E := pendQ_no hn (fun h => u1 h.2)
        rw [hpq] at E
        have E2 := Lib.hid E
        clear hpq hb kr ha hR hl hn E u1
        go_wp2_with fail
        try go_quiet (fail)
        try go_wp2_with fail
        go_roundw
        case rel => exact ⟨i + 1, by go_num, by omega, E2.out.symm, by first | exact HB.out | exact Below.drewN' HB.out _⟩
        case measure => simp [intOf]; omega
    · have hie : i = av.length := by have := HLEN.out; omega
      subst hie
      have hin2 : ¬ ((av.length : Nat) : Int) < av.length := by omega
      have e0 : pendQ ls 0 = (0, 0, false) := by rw [← hpq, HLEN.out]; simp [pendQ]
      have E0 := Lib.hid e0
      clear hpq hb e0 kr
      go_wp2_with fail
      go_ret3
      rw [E0.out]
      exact ⟨rfl, HB.out⟩
end
end Go.Proofs.Ytbdhmjlbogjkoaa
