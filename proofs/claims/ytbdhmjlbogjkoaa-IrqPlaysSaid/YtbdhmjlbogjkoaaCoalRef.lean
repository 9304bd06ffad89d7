/- The contracts of the reference of layer 11: a gatherer that keeps when each raise came answers as the program's does; stated by the same plain functions. -/
import Derived.Test.YtbdhmjlbogjkoaaCoal
import Derived.Test.YtbdhmjlbogjkoaaSlc
namespace Go.Proofs.Ytbdhmjlbogjkoaa
open Go.RowKit
set_option linter.unusedVariables false
set_option linter.unusedSimpArgs false

/-- The reference's gatherer stands as g: as many raises as g has, the first one when g's was. -/
def IsR (w : World) (b : Nat) (g : Gs) : Prop :=
  ∃ (v : Value) (L : List Int), Blk w b 85 [.int .i64 g.c, .int .u64 g.h, v, .int .u64 g.t] ∧ Slc w 22 1 v L.length (L.map (Value.int .u64)) ∧ (L.length : Int) = g.n ∧ ∀ x, L[0]? = some x → x = g.f

section
variable {w w' : World} {b : Nat} {g : Gs}
theorem IsR.only {F : Nat → Prop} (h : IsR w b g) (k : Only F w w') (hb : ¬ F b) (hF : ∀ g, F g → ∃ (t : TypeId) (cs : List Value), Blk w g t cs ∧ 22 ≠ t) : IsR w' b g := by
  obtain ⟨v, L, h1, h2, h3, h4⟩ := h
  refine ⟨v, L, h1.only k hb, h2.only k (fun x hx hFx => ?_), h3, h4⟩
  obtain ⟨t, cs, hk, hne⟩ := hF x hFx
  exact h2.ne hk hne hx
theorem IsR.drewN (h : IsR w b g) (m : Nat) : IsR (w.drewN m) b g := h

theorem rdue_any (k : IsR w b g) (ok : g.ok) :
    Calls Try.prog 55 #[.pointer (some ⟨b, 0, none⟩)] w fun e w' => e = .returned (.tuple #[.int .u64 (dueF g).1, .bool (dueF g).2]) ∧ ∃ m, w' = w.drewN m := by
  obtain ⟨v, L, kb, ks, kn, kf⟩ := k
  obtain ⟨c, h, n, f, t⟩ := g
  obtain ⟨c0, c1, h0, h1, n0, n1, f0, f1, t0, t1⟩ := ok
  simp only at *
  have k0 : w.cell? ⟨b, 0, none⟩ = some (.int .i64 c) := kb.cell 0
  have k1 : w.cell? ⟨b, 1, none⟩ = some (.int .u64 h) := kb.cell 1
  have k2 : w.cell? ⟨b, 2, none⟩ = some v := kb.cell 2
  have k3 : w.cell? ⟨b, 3, none⟩ = some (.int .u64 t) := kb.cell 3
  by_cases z : L.length = 0
  · have e : dueF ⟨c, h, n, f, t⟩ = (0, false) := by unfold dueF; rw [if_pos (by simp only; omega)]
    rw [e]
    obtain ⟨A, cap, rfl, -⟩ := ks.shape
    rw [z] at k2
    clear e kn kf ks kb
    go_enter Try.func55, Try.ntmps55
    go_wp2
    go_quiet (fail)
    go_wp2
    go_ret2
    exact ⟨rfl, _, rfl⟩
  · obtain ⟨gk, off, cap, rfl, hc1, hc2, hlt, hx, -⟩ := ks.at_ (by omega)
    have hlen := ks.len
    obtain ⟨x, L', rfl⟩ : ∃ x L', L = x :: L' := by
      cases L with
      | nil => simp at z
      | cons x L' => exact ⟨x, L', rfl⟩
    have hfx := kf x rfl
    subst hfx
    have hx0 : w.cell? ⟨gk, off, none⟩ = some (.int .u64 x) := hx 0 (.int .u64 x) (by simp)
    have z1 : ((((x :: L').length : Nat) : Int) == 0) = false := beq_eq_false_iff_ne.2 (by omega)
    have z2 : 0 < (x :: L').length := by omega
    unfold maxLen at hlen
    generalize (x :: L').length = len at *
    by_cases y : 4611686018427387904 ≤ x + h
    · have e : dueF ⟨c, h, n, x, t⟩ = (0, false) := by unfold dueF; rw [if_pos (by simp only; omega)]
      rw [e]
      clear e kn kf ks kb hx z
      go_enter Try.func55, Try.ntmps55
      go_wp2
      go_quiet (fail)
      go_wp2
      go_ret2
      exact ⟨rfl, _, rfl⟩
    · have e : dueF ⟨c, h, n, x, t⟩ = (x + h, true) := by unfold dueF; rw [if_neg (by simp only; omega)]
      rw [e]
      have z3 : decide (4611686018427387904 ≤ x + h) = false := decide_eq_false y
      clear e kn kf ks kb hx z y
      go_enter Try.func55, Try.ntmps55
      go_wp2
      go_quiet (fail)
      go_wp2
      go_quiet (fail)
      go_wp2
      go_ret2
      exact ⟨rfl, _, World.drewN_drewN ..⟩

/-- The time goes on: the gatherer at the new time. -/
theorem IsR.time (k : IsR w b g) (now : Int) : IsR (w.setCell ⟨b, 3, none⟩ (.int .u64 now)) b { g with t := now } := by
  obtain ⟨v, L, kb, ks, kn, kf⟩ := k
  exact ⟨v, L, kb.put 3 _, ks.far (ks.ne kb (by decide)) _, kn, kf⟩
/-- All that it has is gone. -/
theorem IsR.fired (k : IsR w b g) : IsR (w.setCell ⟨b, 2, none⟩ (.slice none 0 0)) b { g with n := 0 } := by
  obtain ⟨v, L, kb, ks, kn, kf⟩ := k
  exact ⟨.slice none 0 0, [], kb.put 2 _, Slc.nil _ _ _, rfl, fun x h => by simp at h⟩

theorem goF_ok' {g : Gs} (ok : g.ok) (now : Int) (h : 0 ≤ now) : True := trivial
/-- Go's inside, behind the tests on the time: from here the time is now. -/
theorem rgo_any (k : IsR w b g) (ok : g.ok) (now : Int) (hn : 0 ≤ now) (hn' : now ≤ 18446744073709551615) :
    Calls Try.prog 50 #[.pointer (some ⟨b, 0, none⟩), .int .u64 now] w fun e w' => e = .returned (.tuple #[.int .i64 (goF now g).1.1, .int .i64 (goF now g).1.2]) ∧ IsR w' b (goF now g).2 ∧ Only (· = b) w w' := by
  have K := Lib.hid k
  obtain ⟨v, L, kb, ks, kn, kf⟩ := k
  have k3 : w.cell? ⟨b, 3, none⟩ = some (.int .u64 g.t) := kb.cell 3
  have l3 : w.frozen? ⟨b, 3, none⟩ = false := kb.free 3
  have l2 : w.frozen? ⟨b, 2, none⟩ = false := kb.free 2
  have k2 : w.cell? ⟨b, 2, none⟩ = some v := kb.cell 2
  by_cases z1 : 4611686018427387904 ≤ now
  · have e : goF now g = ((0, 2), g) := by unfold goF; rw [if_pos z1]
    rw [e]
    clear e kb ks kn kf
    go_enter Try.func50, Try.ntmps50
    go_wp2
    go_ret2
    exact ⟨rfl, K.out, Only.refl _ _⟩
  · by_cases z2 : now < g.t
    · have e : goF now g = ((0, 1), g) := by unfold goF; rw [if_neg z1, if_pos z2]
      rw [e]
      clear e kb ks kn kf
      go_enter Try.func50, Try.ntmps50
      go_wp2
      go_ret2
      exact ⟨rfl, K.out, Only.refl _ _⟩
    · have e : goF now g = (((lateF { g with t := now }).1, 0), (lateF { g with t := now }).2) := by unfold goF; rw [if_neg z1, if_neg z2]
      have ok' : Gs.ok { g with t := now } := ⟨ok.c0, ok.c1, ok.h0, ok.h1, ok.n0, ok.n1, ok.f0, ok.f1, hn, by simp only; omega⟩
      have c := rdue_any (K.out.time now) ok'
      rw [e]
      clear e
      obtain ⟨A, cap, rfl, -⟩ := ks.shape
      obtain ⟨c0, c1, h0, h1, n0, n1, f0, f1, t0, t1⟩ := ok
      by_cases y : g.n = 0 ∨ 4611686018427387904 ≤ g.f + g.h
      · have e1 : dueF { g with t := now } = (0, false) := by unfold dueF; rw [if_pos y]
        have e2 : lateF { g with t := now } = (0, { g with t := now }) := by unfold lateF; rw [if_pos (by simp only; omega)]
        rw [e1] at c
        rw [e2]
        have C := Lib.hid c
        clear c e1 e2 ok' kb ks kn kf y
        go_enter Try.func50, Try.ntmps50
        go_wp2_with (go_at_call 55; (with_reducible refine Calls.mono C.out ?_); rintro e w' ⟨rfl, m, rfl⟩)
        go_ret2
        exact ⟨rfl, (K.out.time now).drewN m, (Only.setCell (Only.refl (· = b) w) (p := ⟨b, 3, none⟩) (fun _ => rfl) _).drewN m⟩
      · have e1 : dueF { g with t := now } = (g.f + g.h, true) := by unfold dueF; rw [if_neg y]
        rw [e1] at c
        have C := Lib.hid c
        by_cases x : now < g.f + g.h
        · have e2 : lateF { g with t := now } = (0, { g with t := now }) := by unfold lateF; rw [if_pos (by simp only; omega)]
          rw [e2]
          clear c e1 e2 ok' kb ks kn kf y
          go_enter Try.func50, Try.ntmps50
          go_wp2_with (go_at_call 55; (with_reducible refine Calls.mono C.out ?_); rintro e w' ⟨rfl, m, rfl⟩)
          go_ret2
          exact ⟨rfl, (K.out.time now).drewN m, (Only.setCell (Only.refl (· = b) w) (p := ⟨b, 3, none⟩) (fun _ => rfl) _).drewN m⟩
        · have e2 : lateF { g with t := now } = (g.n, { g with t := now, n := 0 }) := by unfold lateF; rw [if_neg (by simp only; omega)]
          rw [e2]
          have z4 : decide (now < g.f + g.h) = false := decide_eq_false x
          have kn' : (g.n : Int) = L.length := kn.symm
          rw [kn']
          clear c e1 e2 ok' kb ks kn kf y kn' x
          go_enter Try.func50, Try.ntmps50
          go_wp2_with (go_at_call 55; (with_reducible refine Calls.mono C.out ?_); rintro e w' ⟨rfl, m, rfl⟩)
          go_ret2
          exact ⟨rfl, ((K.out.time now).drewN m).fired, Only.setCell ((Only.setCell (Only.refl (· = b) w) (p := ⟨b, 3, none⟩) (fun _ => rfl) _).drewN m) (p := ⟨b, 2, none⟩) (fun _ => rfl) _⟩

theorem info64 : (Try.prog.info? 22).map (fun i => (i.zero, i.size, i.bytes)) = some (some (.int .u64 0), 1, 8) := by kernel_rfl

set_option maxRecDepth 100000 in
set_option maxHeartbeats 2000000 in
theorem rraise_any (k : IsR w b g) (ok : g.ok) (now : Int) (hn : 0 ≤ now) (hn' : now ≤ 18446744073709551615) :
    Calls Try.prog 40 #[.pointer (some ⟨b, 0, none⟩), .int .u64 now] w fun e w' => e = .returned (.tuple #[.int .i64 (raiseF now g).1.1, .int .i64 (raiseF now g).1.2]) ∧ IsR w' b (raiseF now g).2 ∧ Only (· = b) w w' := by
  have c := rgo_any k ok now hn hn'
  have hok := goF_ok' ok now hn
  by_cases z1 : 4611686018427387904 ≤ now
  · have e1 : goF now g = ((0, 2), g) := by unfold goF; rw [if_pos z1]
    have e : raiseF now g = ((0, 2), g) := by unfold raiseF; rw [if_pos z1]
    rw [e1] at c
    rw [e]
    have C := Lib.hid c
    clear c e e1 k
    go_enter Try.func40, Try.ntmps40
    go_wp2_with (go_at_call 50; (with_reducible refine Calls.mono C.out ?_); rintro e w1 ⟨rfl, k1, o1⟩)
    go_ret2
    exact ⟨rfl, k1, o1⟩
  · by_cases z2 : now < g.t
    · have e1 : goF now g = ((0, 1), g) := by unfold goF; rw [if_neg z1, if_pos z2]
      have e : raiseF now g = ((0, 1), g) := by unfold raiseF; rw [if_neg z1, if_pos z2]
      rw [e1] at c
      rw [e]
      have C := Lib.hid c
      clear c e e1 k
      go_enter Try.func40, Try.ntmps40
      go_wp2_with (go_at_call 50; (with_reducible refine Calls.mono C.out ?_); rintro e w1 ⟨rfl, k1, o1⟩)
      go_ret2
      exact ⟨rfl, k1, o1⟩
    · have e1 : goF now g = (((lateF { g with t := now }).1, 0), (lateF { g with t := now }).2) := by unfold goF; rw [if_neg z1, if_neg z2]
      have e : raiseF now g = (((lateF { g with t := now }).1 + (doF now (lateF { g with t := now }).2).1, 0), (doF now (lateF { g with t := now }).2).2) := by unfold raiseF; rw [if_neg z1, if_neg z2]
      have ok' : Gs.ok { g with t := now } := ⟨ok.c0, ok.c1, ok.h0, ok.h1, ok.n0, ok.n1, ok.f0, ok.f1, hn, by simp only; omega⟩
      have ok1 := lateF_ok ok'
      obtain ⟨r0, r1⟩ := lateF_bd ok'
      rw [e1] at c
      rw [e]
      generalize (lateF { g with t := now }).1 = r at *
      generalize (lateF { g with t := now }).2 = g1 at *
      have C := Lib.hid c
      obtain ⟨i0, hi0, hz0, hz1, hz2⟩ := info_parts info64
      clear c e e1 k ok' ok hok
      obtain ⟨c1, h1, n1, f1, t1⟩ := g1
      obtain ⟨kc0, kc1, kh0, kh1, kn0, kn1, kf0, kf1, kt0, kt1⟩ := ok1
      simp only at *
      go_enter Try.func40, Try.ntmps40
      go_wp2_with fail
      refine Calls.mono C.out ?_
      rintro e w1 ⟨rfl, ⟨v, L, kb, ks, kn, kf⟩, o1⟩
      have k2 : w1.cell? ⟨b, 2, none⟩ = some v := kb.cell 2
      have hb := kb.lt
      obtain ⟨A, cap, hv, hsrc⟩ := ks.src
      subst hv
      have K1 := Lib.hid kb
      have K2 := Lib.hid ks
      have SRC := Lib.hid hsrc
      have KF := Lib.hid kf
      simp only at kn
      have hL : L.length ≤ 1000 := by omega
      clear kb ks kf hsrc
      go_wp2_with (at_builtin; refine wpList_append_slc _ rfl (.tmp 18) (.tmp 22) _ rfl 22 i0 _ 1 8 Try.underlying54 hi0 hz0 hz1 hz2 rfl (by omega) (.slice (some ⟨w1.heap.size, 0, none⟩) 0 0) 0 [] rfl (Slc.new w1 22 1) A L.length cap (L.map (Value.int .u64)) rfl (SRC.out.alloc _) (by simp [Value.oneCell']) (by omega) (by simp only [maxLen]; omega) ?_)
      intro v2 w2 hs2 ho2 hat2
      have kb2 := Blk.only (K1.out.alloc _) ho2 (by simp [Value.ownBlock]; omega)
      have hb2 : v2.ownBlock ≠ some b := by
        rcases hat2 with h | h <;> rw [h] <;> simp [Value.ownBlock] <;> omega
      have ow2 : ∀ i, v2.ownBlock = some i → w1.heap.size ≤ i := by
        intro i hi
        rcases hat2 with h | h <;> rw [h] at hi <;> simp [Value.ownBlock] at hi <;> omega
      have OW2 := Lib.hid ow2
      clear ow2
      have hw2 := ho2.size
      simp only [World.size_alloc] at hw2
      have KB2 := Lib.hid kb2
      have HS2 := Lib.hid hs2
      have HB2 := Lib.hid hb2
      have HO2 := Lib.hid ho2
      clear kb2 hs2 hb2 ho2 hat2
      go_wp2_with (at_builtin; refine wpList_append_slc _ rfl (.tmp 23) (.tmp 25) _ rfl 22 i0 _ 1 8 Try.underlying54 hi0 hz0 hz1 hz2 rfl (by omega) v2 L.length (L.map (Value.int .u64)) rfl (Slc.alloc HS2.out _) (some ⟨w2.heap.size, 0, none⟩) 1 1 [.int .u64 now] rfl (Src.one w2 22 _) (by simp [Value.oneCell']) (by omega) (by simp only [maxLen]; omega) ?_)
      intro v3 w3 hs3 ho3 hat3
      have kb3 := Blk.only (KB2.out.alloc _) ho3 HB2.out
      have k30 : w3.cell? ⟨b, 0, none⟩ = some (.int .i64 c1) := kb3.cell 0
      have k31 : w3.cell? ⟨b, 1, none⟩ = some (.int .u64 h1) := kb3.cell 1
      have k32 := kb3.cell 2
      simp only [List.getElem?_cons_succ, List.getElem?_cons_zero] at k32
      have l32 : w3.frozen? ⟨b, 2, none⟩ = false := kb3.free 2
      have hb3 : v3.ownBlock ≠ some b := by
        have hlt : b < (w2.alloc (.cells #[.int .u64 now] 22)).heap.size := by simp; omega
        rcases hat3 with h | h <;> rw [h]
        · exact HB2.out
        · simp [Value.ownBlock]; omega
      obtain ⟨A3, cap3, e3, -⟩ := hs3.shape
      have lenx : L.length + 1 ≤ 1001 := by omega
      have kn' : n1 = (L.length : Int) := kn.symm
      clear kn
      subst kn' e3
      have KB3 := Lib.hid kb3
      have HS3 := Lib.hid hs3
      have HB3 := Lib.hid hb3
      have HO3 := Lib.hid ho3
      clear kb3 hs3 hb3 ho3 hat3
      have o3 : Only (· = b) w w3 := by
        have a1 := (o1.alloc (.cells #[] 22)).trans HO2.out (fun i hi e => by
          have h1 : w1.heap.size = i := by simpa [Value.ownBlock] using e
          have h2 := o1.size
          omega)
        have a2 := (a1.alloc (.cells #[.int .u64 now] 22)).trans HO3.out (fun i hi e => by
          have h1 := OW2.out i e
          have := o1.size
          omega)
        exact a2
      have O3 := Lib.hid o3
      have nb : ∀ x, (L ++ [now])[0]? = some x → x = if (L.length : Int) = 0 then now else f1 := by
        intro x hx
        cases L with
        | nil => simp at hx; simp [hx]
        | cons y L' => simp at hx; rw [if_neg (by simp; omega)]; exact KF.out x (by simp [hx])
      have NB := Lib.hid nb
      have HS4 : Hid (Slc w3 22 1 (.slice A3 (L.length + 1) cap3) (L ++ [now]).length ((L ++ [now]).map (Value.int .u64))) := by
        have h := HS3.out
        show Slc w3 22 1 (.slice A3 (L.length + 1) cap3) (L ++ [now]).length ((L ++ [now]).map (Value.int .u64))
        simpa using h
      clear nb o3 o1 KF
      by_cases y : (L.length : Int) + 1 = c1 ∨ h1 = 0
      · have e2 : doF now ⟨c1, h1, L.length, f1, t1⟩ = ((L.length : Int) + 1, ⟨c1, h1, 0, if (L.length : Int) = 0 then now else f1, t1⟩) := by unfold doF; rw [if_pos y]
        have E2 := Lib.hid e2
        clear e2
        rcases (show decide (c1 ≤ (L.length : Int) + 1) = true ∨ (decide (c1 ≤ (L.length : Int) + 1) = false ∧ (h1 == 0) = true) by
          by_cases q : c1 ≤ (L.length : Int) + 1
          · exact .inl (decide_eq_true q)
          · exact .inr ⟨decide_eq_false q, beq_iff_eq.2 (by omega)⟩) with q | ⟨q, q2⟩
        all_goals
          clear y
          go_wp2_with fail
          go_quiet (fail)
          go_wp2_with fail
          go_ret2
          rw [E2.out]
          refine ⟨rfl, ⟨.slice none 0 0, [], ?_, Slc.nil _ _ _, rfl, fun x h => by simp at h⟩, ?_⟩
          · exact ((KB3.out.put 2 _).drewN _).put 2 _
          · exact Only.setCell ((Only.setCell O3.out (p := ⟨b, 2, none⟩) (fun _ => rfl) _).drewN _) (p := ⟨b, 2, none⟩) (fun _ => rfl) _
      · have e2 : doF now ⟨c1, h1, L.length, f1, t1⟩ = (0, ⟨c1, h1, L.length + 1, if (L.length : Int) = 0 then now else f1, t1⟩) := by unfold doF; rw [if_neg y]
        have E2 := Lib.hid e2
        have q : decide (c1 ≤ (L.length : Int) + 1) = false := decide_eq_false (by omega)
        have q2 : (h1 == 0) = false := beq_eq_false_iff_ne.2 (by omega)
        clear e2 y
        go_wp2_with fail
        go_quiet (fail)
        go_wp2_with fail
        go_ret2
        rw [E2.out]
        refine ⟨ret2 (by simp) rfl, ⟨.slice A3 (L.length + 1) cap3, L ++ [now], ?_, ?_, by simp, NB.out⟩, ?_⟩
        · exact (KB3.out.put 2 _).drewN _
        · exact (Slc.far HS4.out (p := ⟨b, 2, none⟩) HB3.out _).drewN _
        · exact (Only.setCell O3.out (p := ⟨b, 2, none⟩) (fun _ => rfl) _).drewN _
end
end Go.Proofs.Ytbdhmjlbogjkoaa
