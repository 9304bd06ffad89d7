/- Layer 18 (order): next, Next, Take, Head, New. -/
import Derived.Test.YtinpaplpgoljpaaOrderG
namespace Go.Proofs.Ytinpaplpgoljpaa
open Go.RowKit
set_option linter.unusedVariables false
set_option linter.unusedSimpArgs false
theorem results_cell_tmps {fn : Func} {p u t : Tmp} {ty : TypeId} (h : fn.results = #[.cell p ty, .tmp u, .tmp t]) (tmps : Array Value) (P : Program) (w : World) :
    (results fn tmps).run P w =
      ((asAddr (tmps.getD p undef)).run P w).andThen fun a w₁ => ((loadVar ty a).run P w₁).andThen fun v w₂ => .ok (.tuple #[v, tmps.getD u undef, tmps.getD t undef]) w₂ := by
  simp only [results, h]
  simp [Sem.run_bind, Result.andThen]
/-- A struct result that lies in a block that is known, and two numbers beside it. -/
theorem ret_cell3 {P : Program} {fn : Func} {p u v : Tmp} {ty t : TypeId} (h : fn.results = #[.cell p ty, .tmp u, .tmp v]) {tmps : Array Value} {w : World} {g : Nat} {cs : List Value} (d : TypeDesc)
    (hp : tmps.getD p undef = .pointer (some ⟨g, 0, none⟩)) (hg : Blk w g t cs) (hu : P.underlying ty = some d) (hd : (match d with | .struct _ | .array _ _ => true | _ => false) = true) (hi : (P.info? ty).map (·.size) = some cs.length) :
    (results fn tmps).run P w = .ok (.tuple #[.agg ⟨cs⟩, tmps.getD u undef, tmps.getD v undef]) w := by
  rw [results_cell_tmps h]
  have hp' : tmps[p]?.getD undef = .pointer (some ⟨g, 0, none⟩) := by simpa using hp
  have hl := run_loadVar_row w g t ty ⟨cs⟩ (0, 0) d hg hu hd hi
  simp [asAddr, hp', hl, Result.andThen]
def nextF (l : List Wt) (h : Int) (d : Bool) : Wt × Bool × Int := if l = [] then (⟨0, 0, 0⟩, false, 5) else
  if (d && decide (0 ≤ (belowF h (groupF l)).track)) || !(aboveF h (groupF l)).2 then (belowF h (groupF l), true, 0) else ((aboveF h (groupF l)).1, false, 0)
theorem groupF_ne {l : List Wt} (h : l ≠ []) : 0 < (groupF l).length := by
  cases l with
  | nil => exact absurd rfl h
  | cons x r =>
    unfold groupF dead0
    rw [List.takeWhile_cons]
    simp
theorem groupF_le (l : List Wt) : (groupF l).length ≤ l.length := by
  unfold groupF
  have := (List.takeWhile_sublist (l := l) (fun x => x.dead == dead0 l)).length_le
  exact this
theorem Blk.put3 {w : World} {g : Nat} {t : TypeId} {x : Wt} (h : Blk w g t (wc x)) (y : Wt) : Blk (((w.setCell ⟨g, 0, none⟩ (.int .i64 y.id)).setCell ⟨g, 1, none⟩ (.int .u64 y.dead)).setCell ⟨g, 2, none⟩ (.int .i64 y.track)) g t (wc y) := ((h.put 0 _).put 1 _).put 2 _
theorem below_set3 {B : Nat} {a w : World} (h : Below B a w) {g : Nat} (hg : B ≤ g) (y : Wt) : Below B a (((w.setCell ⟨g, 0, none⟩ (.int .i64 y.id)).setCell ⟨g, 1, none⟩ (.int .u64 y.dead)).setCell ⟨g, 2, none⟩ (.int .i64 y.track)) :=
  ((h.setCell (p := ⟨g, 0, none⟩) hg _).setCell (p := ⟨g, 1, none⟩) hg _).setCell (p := ⟨g, 2, none⟩) hg _
set_option maxHeartbeats 2000000 in
theorem next_any {w : World} {Q : Qp} {l : List Wt} {h : Int} {d : Bool} (k : IsQ w Q l h d) :
    Calls Try.prog 30 #[.pointer (some ⟨Q.q, 0, none⟩)] w fun e w' => e = .returned (.tuple #[wv (nextF l h d).1, .bool (nextF l h d).2.1, .int .i64 (nextF l h d).2.2]) ∧ Below w.heap.size w w' := by
  have b1 : Below w.heap.size w (w.alloc (.cells #[.int .i64 0, .int .u64 0, .int .i64 0] 30)) := (Below.refl _ _).alloc (Nat.le_refl _) _
  have res := Blk.new w 30 [.int .i64 0, .int .u64 0, .int .i64 0]
  have G := Lib.hid (group_any (k.below b1))
  have hlen := k.len
  have KH := Lib.hid k
  have BW := Lib.hid b1
  have RES := Lib.hid res
  by_cases hl : l = []
  · have NE : Hid (nextF l h d = (⟨0, 0, 0⟩, false, 5)) := by show _ = _; unfold nextF; rw [if_pos hl]
    have hm0 : (groupF l).length = 0 := by have := groupF_le l; rw [hl] at this ⊢; simpa using this
    have M0 := Lib.hid hm0
    clear k b1 res hl hm0
    go_enter Try.func30, Try.ntmps30
    go_wp2_with (go_at_call 44; (with_reducible refine Calls.mono G.out ?_); rintro e w1 ⟨A, m, rfl, hm, hs, b1⟩; obtain rfl : m = 0 := hm.trans M0.out; have R1 := Lib.hid (RES.out.below b1 RES.out.lt); have r0 := R1.out.cell 0; have r1 := R1.out.cell 1; have r2 := R1.out.cell 2; have f0 := R1.out.free 0; have f1 := R1.out.free 1; have f2 := R1.out.free 2; have rl := R1.out.lt; have B1 := Lib.hid (Below.next BW.out b1); clear b1 hs hm)
    (try simp only [Exit.inBlock, Exit.then])
    refine bodyPost_ret (ret_cell3 rfl _ rfl (((R1.out.put 0 _).put 1 _).put 2 _) Try.underlying30 rfl (by kernel_rfl)) rfl ?_
    rw [NE.out]
    exact ⟨rfl, below_set3 B1.out (Nat.le_refl _) ⟨0, 0, 0⟩⟩
  · have hm1 := groupF_ne hl
    have hm2 : (groupF l).length ≤ 64 := Nat.le_trans (groupF_le l) hlen
    obtain ⟨mg, hmg⟩ : ∃ mg, (groupF l).length = mg := ⟨_, rfl⟩
    rw [hmg] at hm1 hm2
    have HMG := Lib.hid hmg
    have f00 : ((mg : Int) == 0) = false := beq_eq_false_iff_ne.2 (by omega)
    have f01 : (mg == 0) = false := beq_eq_false_iff_ne.2 (by omega)
    have f02 : ¬ mg = 0 := by omega
    have AB : ∀ A w1 W, Hid (Below w.heap.size w w1 → Slc w1 30 3 (.slice A mg mg) mg (flatW (groupF l)) → Below w1.heap.size w1 W → Calls Try.prog 45 #[.pointer (some ⟨Q.q, 0, none⟩), .slice A mg mg] W fun e w' => e = .returned (.tuple #[wv (aboveF h (groupF l)).1, .bool (aboveF h (groupF l)).2]) ∧ Below W.heap.size W w') :=
      fun A w1 W b hs c => above_any ((k.below b).below c) A mg (hs.below c (fun g hg => hs.lt hg)) hm2
    have BE : ∀ A w1 W, Hid (Below w.heap.size w w1 → Slc w1 30 3 (.slice A mg mg) mg (flatW (groupF l)) → Below w1.heap.size w1 W → Calls Try.prog 46 #[.pointer (some ⟨Q.q, 0, none⟩), .slice A mg mg] W fun e w' => e = .returned (.tuple #[wv (belowF h (groupF l)), .bool (decide (0 ≤ (belowF h (groupF l)).track))]) ∧ Below W.heap.size W w') :=
      fun A w1 W b hs c => below_any ((k.below b).below c) A mg (hs.below c (fun g hg => hs.lt hg)) hm2
    have C2 : ∀ W, Hid (Below w.heap.size w W → W.cell? ⟨Q.q, 2, none⟩ = some (.bool d)) := fun W b => ((k.below b).blk).cell 2
    have hq := k.blk.lt
    have NE : Hid (nextF l h d = if (d && decide (0 ≤ (belowF h (groupF l)).track)) || !(aboveF h (groupF l)).2 then (belowF h (groupF l), true, 0) else ((aboveF h (groupF l)).1, false, 0)) := by show _ = _; unfold nextF; rw [if_neg hl]
    obtain ⟨⟨ua, sm⟩, hua⟩ : ∃ u, aboveF h (groupF l) = u := ⟨_, rfl⟩
    obtain ⟨ub, hub⟩ : ∃ u, belowF h (groupF l) = u := ⟨_, rfl⟩
    rw [hua] at AB NE
    rw [hub] at BE NE
    simp only at AB NE
    obtain ⟨an, han⟩ : ∃ an, decide (0 ≤ ub.track) = an := ⟨_, rfl⟩
    rw [han] at BE NE
    obtain ⟨a1, a2, a3⟩ := ua
    obtain ⟨c1, c2, c3⟩ := ub
    unfold wv at AB BE
    simp only at AB BE
    clear k b1 res hl hmg hua hub han
    cases d <;> cases an <;> cases sm
    all_goals
      simp only [Bool.false_and, Bool.true_and, Bool.not_true, Bool.not_false, Bool.or_true, Bool.or_false, if_true, Bool.false_eq_true, if_false] at NE
      go_enter Try.func30, Try.ntmps30
      go_wp2_with (first
        | (go_at_call 44; (with_reducible refine Calls.mono G.out ?_); rintro e w1 ⟨A, m, rfl, hm, hs, b1⟩; obtain rfl : m = mg := hm.trans HMG.out; have R1 := Lib.hid (RES.out.below b1 RES.out.lt); have B1 := Lib.hid (Below.next BW.out b1); have S1 := Lib.hid hs; have W1 := Lib.hid (Below.refl w1.heap.size w1); clear b1 hs hm)
        | (go_at_call 45; (with_reducible refine Calls.mono ((AB _ _ _).out B1.out S1.out W1.out) ?_); rintro e w2 ⟨rfl, b2⟩; have B2 := Lib.hid (Below.next W1.out b2); have R2 := Lib.hid (R1.out.below b2 R1.out.lt); have U2 := Lib.hid (Blk.new w2 30 [.int .i64 a1, .int .u64 a2, .int .i64 a3]); have B3 := Lib.hid (B2.out.alloc B2.out.size (.cells #[.int .i64 a1, .int .u64 a2, .int .i64 a3] 30)); clear b2)
        | (go_at_call 46; (with_reducible refine Calls.mono ((BE _ _ _).out B1.out S1.out B3.out) ?_); rintro e w4 ⟨rfl, b4⟩; have B4 := Lib.hid (Below.next B1.out (Below.next B3.out b4)); have R4 := Lib.hid ((R2.out.alloc _).below b4 (R2.out.alloc _).lt); have U4 := Lib.hid (U2.out.below b4 U2.out.lt); have q2 := (C2 _).out B4.out; have u0 := U4.out.cell 0; have u1 := U4.out.cell 1; have u2 := U4.out.cell 2; have ul := U4.out.lt; have r0 := R4.out.cell 0; have r1 := R4.out.cell 1; have r2 := R4.out.cell 2; have f0 := R4.out.free 0; have f1 := R4.out.free 1; have f2 := R4.out.free 2; have rl := R4.out.lt; have ql4 : Q.q < w4.heap.size := Nat.lt_of_lt_of_le hq B4.out.size; clear b4))
      (try simp only [Exit.inBlock, Exit.then])
      refine bodyPost_ret (ret_cell3 rfl _ rfl ((((R4.out.put 0 _).put 1 _).put 2 _).alloc _) Try.underlying30 rfl (by kernel_rfl)) rfl ?_
      rw [NE.out]
      have X := fun v1 v2 v3 => ((Below.setCell B4.out (p := ⟨w.heap.size, 0, none⟩) (Nat.le_refl _) v1).setCell (p := ⟨w.heap.size, 1, none⟩) (Nat.le_refl _) v2).setCell (p := ⟨w.heap.size, 2, none⟩) (Nat.le_refl _) v3
      exact ⟨rfl, (X _ _ _).alloc (X _ _ _).size _⟩
set_option maxHeartbeats 2000000 in
theorem nextq_any {w : World} {Q : Qp} {l : List Wt} {h : Int} {d : Bool} (k : IsQ w Q l h d) :
    Calls Try.prog 15 #[.pointer (some ⟨Q.q, 0, none⟩)] w fun e w' => e = .returned (.tuple #[wv (nextF l h d).1, .int .i64 (nextF l h d).2.2]) ∧ Below w.heap.size w w' := by
  have b1 : Below w.heap.size w (w.alloc (.cells #[.int .i64 0, .int .u64 0, .int .i64 0] 30)) := (Below.refl _ _).alloc (Nat.le_refl _) _
  have res := Blk.new w 30 [.int .i64 0, .int .u64 0, .int .i64 0]
  have N := Lib.hid (next_any (k.below b1))
  have BW := Lib.hid b1
  have RES := Lib.hid res
  obtain ⟨⟨⟨x1, x2, x3⟩, dn, cd⟩, hn⟩ : ∃ x, nextF l h d = x := ⟨_, rfl⟩
  rw [hn] at N ⊢
  unfold wv at *
  simp only at N ⊢
  clear k b1 res hn
  go_enter Try.func15, Try.ntmps15
  go_wp2_with (go_at_call 30; (with_reducible refine Calls.mono N.out ?_); rintro e w1 ⟨rfl, b1⟩; have R1 := Lib.hid (RES.out.below b1 RES.out.lt); have r0 := R1.out.cell 0; have r1 := R1.out.cell 1; have r2 := R1.out.cell 2; have f0 := R1.out.free 0; have f1 := R1.out.free 1; have f2 := R1.out.free 2; have rl := R1.out.lt; have B1 := Lib.hid (Below.next BW.out b1); clear b1)
  (try simp only [Exit.inBlock, Exit.then])
  refine bodyPost_ret (ret_cell rfl _ rfl ((((R1.out.put 0 _).put 1 _).put 2 _).alloc _) Try.underlying30 rfl (by kernel_rfl)) rfl ?_
  have X := fun v1 v2 v3 => ((Below.setCell B1.out (p := ⟨w.heap.size, 0, none⟩) (Nat.le_refl _) v1).setCell (p := ⟨w.heap.size, 1, none⟩) (Nat.le_refl _) v2).setCell (p := ⟨w.heap.size, 2, none⟩) (Nat.le_refl _) v3
  exact ⟨rfl, (X _ _ _).alloc (X _ _ _).size _⟩
theorem head_any {w : World} {Q : Qp} {l : List Wt} {h : Int} {d : Bool} (k : IsQ w Q l h d) :
    Calls Try.prog 16 #[.pointer (some ⟨Q.q, 0, none⟩)] w fun e w' => e = .returned (.tuple #[.int .i64 h, .bool (!d)]) ∧ Below w.heap.size w w' := by
  have c1 : w.cell? ⟨Q.q, 1, none⟩ = some (.int .i64 h) := k.blk.cell 1
  have c2 : w.cell? ⟨Q.q, 2, none⟩ = some (.bool d) := k.blk.cell 2
  have hq := k.blk.lt
  have bw : ∀ n, Hid (Below w.heap.size w (w.drewN n)) := fun n => Below.drewN' (Below.refl _ _) n
  clear k
  go_enter Try.func16, Try.ntmps16
  go_wp2_with fail
  go_quiet (fail)
  go_wp2_with fail
  go_ret2
  exact ⟨rfl, (bw _).out⟩
theorem newq_any (w : World) : Calls Try.prog 10 #[] w fun e w' => ∃ Q : Qp, e = .returned (.pointer (some ⟨Q.q, 0, none⟩)) ∧ IsQ w' Q [] 0 false ∧ Below w.heap.size w w' ∧ ∀ g, Q.all g → w.heap.size ≤ g := by
  have bk := Blk.new w 53 [.slice none 0 0, .int .i64 0, .bool false]
  have BK := Lib.hid bk
  have bw : Below w.heap.size w (w.alloc (.cells #[.slice none 0 0, .int .i64 0, .bool false] 53)) := (Below.refl _ _).alloc (Nat.le_refl _) _
  have BW := Lib.hid bw
  clear bk bw
  go_enter Try.func10, Try.ntmps10
  go_wp2_with fail
  go_ret
  refine ⟨⟨w.heap.size, .slice none 0 0⟩, rfl, ⟨BK.out, Slc.nil _ _ _, by simp⟩, BW.out, fun g hg => ?_⟩
  rcases hg with e | e
  · simp only at e; omega
  · simp [Value.ownBlock] at e
def takeF (l : List Wt) (h : Int) (d : Bool) : (Wt × Int) × (List Wt × Int × Bool) :=
  if (nextF l h d).2.2 = 0 then (((nextF l h d).1, 0), ((dropF l (nextF l h d).1.id).2, (nextF l h d).1.track, (nextF l h d).2.1)) else (((nextF l h d).1, (nextF l h d).2.2), (l, h, d))
set_option maxHeartbeats 2000000 in
theorem take_any {w : World} {Q : Qp} {l : List Wt} {h : Int} {d : Bool} (k : IsQ w Q l h d) :
    Calls Try.prog 13 #[.pointer (some ⟨Q.q, 0, none⟩)] w fun e w' => e = .returned (.tuple #[wv (takeF l h d).1.1, .int .i64 (takeF l h d).1.2]) ∧ StepQ w w' Q (takeF l h d).2.1 (takeF l h d).2.2.1 (takeF l h d).2.2.2 := by
  have b1 : Below w.heap.size w (w.alloc (.cells #[.int .i64 0, .int .u64 0, .int .i64 0] 30)) := (Below.refl _ _).alloc (Nat.le_refl _) _
  have res := Blk.new w 30 [.int .i64 0, .int .u64 0, .int .i64 0]
  have N := Lib.hid (next_any (k.below b1))
  have BW := Lib.hid b1
  have RES := Lib.hid res
  have KH := Lib.hid k
  have DR : ∀ W id, Hid (Below w.heap.size w W → Calls Try.prog 12 #[.pointer (some ⟨Q.q, 0, none⟩), .int .i64 id] W fun e w' => e = .returned (.int .i64 (dropF l id).1) ∧ StepQ W w' Q (dropF l id).2 h d) := fun W id b => drop_any (k.below b) id
  obtain ⟨⟨⟨x1, x2, x3⟩, dn, cd⟩, hn⟩ : ∃ x, nextF l h d = x := ⟨_, rfl⟩
  have TF : Hid (takeF l h d = if cd = 0 then (((⟨x1, x2, x3⟩, 0) : Wt × Int), ((dropF l x1).2, x3, dn)) else ((⟨x1, x2, x3⟩, cd), (l, h, d))) := by show _ = _; unfold takeF; rw [hn]
  rw [hn] at N
  unfold wv at N ⊢
  simp only at N
  clear k b1 res hn
  by_cases hc : cd = 0
  · subst hc
    have TE : Hid (takeF l h d = ((⟨x1, x2, x3⟩, 0), ((dropF l x1).2, x3, dn))) := by show _ = _; rw [TF.out, if_pos rfl]
    go_enter Try.func13, Try.ntmps13
    go_wp2_with (first
      | (go_at_call 30; (with_reducible refine Calls.mono N.out ?_); rintro e w1 ⟨rfl, b1⟩; have R1 := Lib.hid (RES.out.below b1 RES.out.lt); have U1 := Lib.hid (Blk.new w1 30 [.int .i64 x1, .int .u64 x2, .int .i64 x3]); have B1 := Lib.hid (Below.next BW.out b1); have B2 := Lib.hid (B1.out.alloc B1.out.size (.cells #[.int .i64 x1, .int .u64 x2, .int .i64 x3] 30)); clear b1)
      | (go_at_call 12; (with_reducible refine Calls.mono ((DR _ _).out B2.out) ?_); rintro e w3 ⟨rfl, v3, k3, o3, n3⟩; have hql := KH.out.lt (.inl rfl); have s1 := B1.out.size; have s2 := B2.out.size; have R3 := Lib.hid ((R1.out.alloc (.cells #[.int .i64 x1, .int .u64 x2, .int .i64 x3] 30)).only o3 (fun e => Nat.lt_irrefl _ (KH.out.lt e))); have U3 := Lib.hid (U1.out.only o3 (fun e => Nat.lt_irrefl _ (Nat.lt_of_lt_of_le (KH.out.lt e) s1))); have q1 : w3.cell? ⟨Q.q, 1, none⟩ = some (.int .i64 h) := k3.blk.cell 1; have q2 : w3.cell? ⟨Q.q, 2, none⟩ = some (.bool d) := k3.blk.cell 2; have p1 : w3.frozen? ⟨Q.q, 1, none⟩ = false := k3.blk.free 1; have p2 : w3.frozen? ⟨Q.q, 2, none⟩ = false := k3.blk.free 2; have ql3 : Q.q < w3.heap.size := k3.blk.lt; have r0 := R3.out.cell 0; have r1 := R3.out.cell 1; have r2 := R3.out.cell 2; have f0 := R3.out.free 0; have f1 := R3.out.free 1; have f2 := R3.out.free 2; have rl := R3.out.lt; have u0 := U3.out.cell 0; have u1 := U3.out.cell 1; have u2 := U3.out.cell 2; have ul := U3.out.lt; have nq1 : ¬ Q.q = w.heap.size := (by omega); have nq1' : ¬ w.heap.size = Q.q := (by omega); have nq2 : ¬ Q.q = w1.heap.size := (by omega); have nq2' : ¬ w1.heap.size = Q.q := (by omega); have K3 := Lib.hid k3; have O3 := Lib.hid o3; have N3 := Lib.hid n3; clear k3 o3 n3 s1 s2))
    (try simp only [Exit.inBlock, Exit.then])
    have nres : v3.ownBlock ≠ some w.heap.size := fun e => by
      rcases N3.out _ e with e | e
      · exact Nat.lt_irrefl _ (KH.out.lt (.inr e))
      · have := B1.out.size; simp at e; omega
    have nq : v3.ownBlock ≠ some Q.q := K3.out.row.ne K3.out.blk (by decide)
    refine bodyPost_ret (ret_cell rfl _ rfl (((((R3.out.far (p := ⟨Q.q, 1, none⟩) nq1' _).far (p := ⟨Q.q, 2, none⟩) nq1' _).put 0 _).put 1 _).put 2 _) Try.underlying30 rfl (by kernel_rfl)) rfl ?_
    rw [TE.out]
    refine ⟨rfl, v3, ⟨((((K3.out.blk.put 1 _).put 2 _).far (p := ⟨w.heap.size, 0, none⟩) nq1 _).far (p := ⟨w.heap.size, 1, none⟩) nq1 _).far (p := ⟨w.heap.size, 2, none⟩) nq1 _, ((((K3.out.row.far (p := ⟨Q.q, 1, none⟩) nq _).far (p := ⟨Q.q, 2, none⟩) nq _).far (p := ⟨w.heap.size, 0, none⟩) nres _).far (p := ⟨w.heap.size, 1, none⟩) nres _).far (p := ⟨w.heap.size, 2, none⟩) nres _, K3.out.len⟩, ?_, fun g e => ?_⟩
    · have O := (Only.of_below (F := Q.all) B2.out).trans O3.out (fun _ _ h => h)
      exact ((((O.setCell (p := ⟨Q.q, 1, none⟩) (fun _ => .inl rfl) _).setCell (p := ⟨Q.q, 2, none⟩) (fun _ => .inl rfl) _).setCell (p := ⟨w.heap.size, 0, none⟩) (fun e => absurd e (Nat.lt_irrefl _)) _).setCell (p := ⟨w.heap.size, 1, none⟩) (fun e => absurd e (Nat.lt_irrefl _)) _).setCell (p := ⟨w.heap.size, 2, none⟩) (fun e => absurd e (Nat.lt_irrefl _)) _
    · exact (N3.out g e).imp_right (fun e => Nat.le_trans B2.out.size e)
  · have f1 : (cd == 0) = false := beq_eq_false_iff_ne.2 hc
    have f2 : (cd != 0) = true := by simp [hc]
    have TE : Hid (takeF l h d = ((⟨x1, x2, x3⟩, cd), (l, h, d))) := by show _ = _; rw [TF.out, if_neg hc]
    go_enter Try.func13, Try.ntmps13
    go_wp2_with (first
      | (go_at_call 30; (with_reducible refine Calls.mono N.out ?_); rintro e w1 ⟨rfl, b1⟩; have R1 := Lib.hid (RES.out.below b1 RES.out.lt); have r0 := R1.out.cell 0; have r1 := R1.out.cell 1; have r2 := R1.out.cell 2; have f0 := R1.out.free 0; have f1 := R1.out.free 1; have f2 := R1.out.free 2; have rl := R1.out.lt; have B1 := Lib.hid (Below.next BW.out b1); clear b1))
    (try simp only [Exit.inBlock, Exit.then])
    refine bodyPost_ret (ret_cell rfl _ rfl ((((R1.out.put 0 _).put 1 _).put 2 _).alloc _) Try.underlying30 rfl (by kernel_rfl)) rfl ?_
    have X := fun v1 v2 v3 => ((Below.setCell B1.out (p := ⟨w.heap.size, 0, none⟩) (Nat.le_refl _) v1).setCell (p := ⟨w.heap.size, 1, none⟩) (Nat.le_refl _) v2).setCell (p := ⟨w.heap.size, 2, none⟩) (Nat.le_refl _) v3
    rw [TE.out]
    exact ⟨rfl, .same KH.out ((X _ _ _).alloc (X _ _ _).size _)⟩
end Go.Proofs.Ytinpaplpgoljpaa
