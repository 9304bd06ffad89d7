/- The reference of layer 13: its line and deliver. -/
import Derived.Test.YtbdhmjlbogjkoaaIrqRef
import Derived.Test.YtbdhmjlbogjkoaaCoalRefV
namespace Go.Proofs.Ytbdhmjlbogjkoaa
open Go.RowKit
set_option linter.unusedVariables false
set_option linter.unusedSimpArgs false
/-- Where the document's line lies: its block, its gatherer's, its bucket's; its raises, its gatherer's. -/
structure Av where
  x : Nat
  g : Nat
  k : Nat
  rv : Value
  gv : Value
def rlCells (a : Av) (n : Ln) : List Value := [.int .i64 n.l.c, .int .u64 n.l.h, .int .i64 n.l.d, .int .u64 n.l.q, .int .i64 n.l.s, .int .u64 n.l.z, .pointer (some ⟨a.g, 0, none⟩), .pointer (some ⟨a.k, 0, none⟩), .int .i64 n.held, .int .i64 n.pends, .bool n.masked, a.rv]
/-- The line and its bucket. -/
structure IsX (w : World) (a : Av) (n : Ln) : Prop where
  x : Blk w a.x 56 (rlCells a n)
  k : IsKR w a.k n.k
section
variable {w w' : World} {a : Av} {n : Ln}
theorem IsX.ne (h : IsX w a n) : a.x ≠ a.k := h.x.ne h.k (by decide)
theorem IsX.only {F : Nat → Prop} (h : IsX w a n) (o : Only F w w') (hx : ¬ F a.x) (hk : ¬ F a.k) : IsX w' a n := ⟨h.x.only o hx, Blk.only h.k o hk⟩
theorem IsX.below (h : IsX w a n) (o : Below w.heap.size w w') : IsX w' a n := ⟨h.x.below o h.x.lt, Blk.below h.k o (Blk.lt h.k)⟩
theorem IsX.drewN (h : IsX w a n) (m : Nat) : IsX (w.drewN m) a n := ⟨h.x, h.k⟩
set_option maxHeartbeats 2000000 in
theorem rdeliver_any {H : Int} (k : IsX w a n) (ok : n.ok H) (q : Nat) (T : Int) (h0 : 0 ≤ T) (h1 : T ≤ 18446744073709551615) (hq : w.cell? ⟨q, 1, none⟩ = some (.int .u64 T)) :
    Calls Try.prog 41 #[.pointer (some ⟨q, 0, none⟩), .pointer (some ⟨a.x, 0, none⟩)] w fun e w' => e = .returned (.tuple #[]) ∧ IsX w' a (deliverL T n) ∧ Only (fun i => i = a.x ∨ i = a.k) w w' := by
  have q7 : w.cell? ⟨a.x, 7, none⟩ = some (.pointer (some ⟨a.k, 0, none⟩)) := k.x.cell 7
  have q8 : w.cell? ⟨a.x, 8, none⟩ = some (.int .i64 n.held) := k.x.cell 8
  have q9 : w.cell? ⟨a.x, 9, none⟩ = some (.int .i64 n.pends) := k.x.cell 9
  have q10 : w.cell? ⟨a.x, 10, none⟩ = some (.bool n.masked) := k.x.cell 10
  have n2 := k.ne
  have K := Lib.hid k
  have l8 : w.frozen? ⟨a.x, 8, none⟩ = false := k.x.free 8
  have l9 : w.frozen? ⟨a.x, 9, none⟩ = false := k.x.free 9
  have c := rtake12_any (w := w.drew) (Blk.drew k.k) ok.k T h0 h1
  obtain ⟨-, -, -, e0, e1, p0, p1, -, -, -, -⟩ := ok
  unfold deliverL
  by_cases hm : n.masked = true
  · rw [if_pos (.inl hm)]
    rw [hm] at q10
    clear c k hm
    go_enter Try.func41, Try.ntmps41
    go_wp2_with fail
    refine bodyPost_ret (results_none rfl _ _ _) rfl ?_
    exact ⟨rfl, K.out, Only.refl _ _⟩
  · have hm2 : n.masked = false := by simpa using hm
    rw [hm2] at q10
    by_cases z1 : 0 < n.pends
    · rw [if_pos (.inr (.inl z1))]
      have d1 : (n.pends == 0) = false := beq_eq_false_iff_ne.2 (by omega)
      clear c k hm
      go_enter Try.func41, Try.ntmps41
      go_wp2_with fail
      refine bodyPost_ret (results_none rfl _ _ _) rfl ?_
      exact ⟨rfl, K.out, Only.refl _ _⟩
    · have hp0 : n.pends = 0 := by omega
      rw [hp0] at q9
      by_cases z2 : n.held = 0
      · rw [if_pos (.inr (.inr z2))]
        have d2 : (n.held == 0) = true := beq_iff_eq.2 z2
        clear c k hm hp0
        go_enter Try.func41, Try.ntmps41
        go_wp2_with fail
        refine bodyPost_ret (results_none rfl _ _ _) rfl ?_
        exact ⟨rfl, K.out, Only.refl _ _⟩
      · have d2 : (n.held == 0) = false := beq_eq_false_iff_ne.2 z2
        rw [if_neg (by rintro (h | h | h); exact hm h; exact z1 h; exact z2 h)]
        cases ht : (takeK T n.k).1.1 with
        | true =>
          rw [ht] at c
          rw [if_pos rfl]
          generalize (takeK T n.k).1.2 = e2 at *
          generalize (takeK T n.k).2 = k2 at *
          have C := Lib.hid c
          clear c k ht hm hp0
          go_enter Try.func41, Try.ntmps41
          go_wp2_with fail
          go_region_with (first
            | (go_at_call 51; (with_reducible refine Calls.mono C.out ?_); rintro e w1 ⟨rfl, kk1, o1'⟩
               have o1 : Only (· = a.k) w w1 := (Only.refl _ w).drew.trans o1' (fun _ _ h => h)
               clear o1'
               have kx := K.out.x.only o1 n2
               have r8 : w1.cell? ⟨a.x, 8, none⟩ = some (.int .i64 n.held) := kx.cell 8
               have r9 : w1.cell? ⟨a.x, 9, none⟩ = some (.int .i64 n.pends) := kx.cell 9
               have m8 : w1.frozen? ⟨a.x, 8, none⟩ = false := kx.free 8
               have m9 : w1.frozen? ⟨a.x, 9, none⟩ = false := kx.free 9
               have KX := Lib.hid kx
               have KK := Lib.hid kk1
               have O1 := Lib.hid o1
               clear kx kk1 o1))
          all_goals
           go_wp2_with fail
           refine bodyPost_end (results_none rfl _ _ _) rfl ?_
           refine ⟨rfl, ⟨(KX.out.put 9 _).put 8 _, Blk.far (Blk.far KK.out (fun e => n2 e.symm) _) (fun e => n2 e.symm) _⟩, ?_⟩
           exact Only.setCell (Only.setCell (O1.out.mono fun i _ e => .inr e) (p := ⟨a.x, 9, none⟩) (fun _ => .inl rfl) _) (p := ⟨a.x, 8, none⟩) (fun _ => .inl rfl) _
        | false =>
          rw [ht] at c
          rw [if_neg (by simp)]
          generalize (takeK T n.k).1.2 = e2 at *
          generalize (takeK T n.k).2 = k2 at *
          have C := Lib.hid c
          clear c k ht hm hp0
          go_enter Try.func41, Try.ntmps41
          go_wp2_with fail
          go_region_with (first
            | (go_at_call 51; (with_reducible refine Calls.mono C.out ?_); rintro e w1 ⟨rfl, kk1, o1'⟩
               have o1 : Only (· = a.k) w w1 := (Only.refl _ w).drew.trans o1' (fun _ _ h => h)
               clear o1'
               have kx := K.out.x.only o1 n2
               have KX := Lib.hid kx
               have KK := Lib.hid kk1
               have O1 := Lib.hid o1
               clear kx kk1 o1))
          all_goals
           go_wp2_with fail
           refine bodyPost_end (results_none rfl _ _ _) rfl ?_
           exact ⟨rfl, ⟨KX.out, KK.out⟩, O1.out.mono fun i _ e => .inr e⟩
end
end Go.Proofs.Ytbdhmjlbogjkoaa
