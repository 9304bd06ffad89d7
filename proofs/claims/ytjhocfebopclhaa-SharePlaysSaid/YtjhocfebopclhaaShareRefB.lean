/- The contracts of the reference of layer 5, second part: New, Wait, Take. -/
import Derived.Test.YtjhocfebopclhaaShareRef
namespace Go.Proofs.Ytjhocfebopclhaa
open Go.RowKit
set_option linter.unusedVariables false
set_option linter.unusedSimpArgs false
theorem Src.pair (w : World) (e : TypeId) (u v : Value) : Src (w.alloc (.cells #[u, v] e)) 2 (some ⟨w.heap.size, 0, none⟩) 1 [u, v] :=
  ⟨rfl, .inr ⟨_, rfl, fun j x hx => by
    rcases j with _ | _ | j
    · rw [Addr.add_lit]; simp at hx; subst hx; exact (Blk.new w e [u, v]).cell 0
    · rw [Addr.add_lit]; simp at hx; subst hx; exact (Blk.new w e [u, v]).cell 1
    · simp at hx⟩⟩
theorem infoTook : (Try.prog.info? 61).map (fun i => (i.zero, i.size, i.bytes)) = some (some (.agg #[.int .u64 0, .int .u64 0]), 2, 16) := by kernel_rfl
theorem rnewM_any (b p f : Int) (w : World) (base : Nat) (hb : base ≤ w.heap.size) (bf : 0 ≤ f) (bf' : f ≤ 18446744073709551615) :
    Calls Try.prog 12 #[.agg #[.int .u64 b, .int .u64 p], .int .u64 f] w fun e w' => ∃ r, e = .returned (.pointer (some ⟨r, 0, none⟩)) ∧ IsR w' base r ⟨b, p, f, f, 0, 0⟩ 0 ∧ Below w.heap.size w w' := by
  go_enter Try.func12, Try.ntmps12
  go_wp2_with fail
  go_ret
  exact ⟨w.heap.size + 1, by simp, ⟨.slice none 0 0, [], by have := Blk.new (w.alloc (.cells #[.int .u64 b, .int .u64 p] 24)) 54 [.int .u64 b, .int .u64 p, .int .u64 f, .int .u64 f, .slice none 0 0]; simpa using this, Slc.nil _ _ _, ⟨by simp, by simp, rfl⟩, by omega, fun g hg => by simp [Value.ownBlock] at hg⟩, ((Below.refl _ _).alloc (Nat.le_refl _) _).alloc (by simp) _⟩
section
variable {w w' : World} {base r m c : Nat} {s : Ms}
set_option maxHeartbeats 2000000 in
theorem rwaitm_any (k : IsR w base r s c) (hc : c ≤ 1000) (ok : s.ok) (T : Int) (h0 : 0 ≤ T) (h1 : T ≤ 18446744073709551615) :
    Calls Try.prog 16 #[.pointer (some ⟨r, 0, none⟩), .int .u64 T] w fun e w' => e = .returned (.tuple #[.int .u64 (waitM T s).1.1, .int .i64 (waitM T s).1.2]) ∧ IsR w' base r (waitM T s).2 c ∧ Only (· = r) w w' := by
  have c1 := rleftm_any k hc ok T h0 h1
  have okn := onM_ok ok T
  have ef : (onM T s).2.f = s.f ∧ (onM T s).2.p = s.p := by unfold onM; split; exact ⟨rfl, rfl⟩; split <;> exact ⟨rfl, rfl⟩
  unfold leftM at c1
  unfold waitM
  by_cases z : (onM T s).1 = 0
  · rw [if_neg (by simpa using z)] at c1 ⊢
    rw [← ef.1, ← ef.2]
    clear ef z ok k
    generalize (onM T s).2 = s1 at *
    have C := Lib.hid c1
    have W := fun W => Lib.hid (rnext_any T s1.f s1.p W h0 h1 okn.f0 (by have := okn.t0; have := okn.t1; omega) (by have := okn.b0; have := okn.b1; omega) (by have := okn.p1; omega))
    obtain ⟨b0, b1, p1, f0, t0, t1, -, kk0, kk1⟩ := okn
    clear c1
    by_cases z2 : 0 < s1.b - s1.k
    · rw [if_pos z2]
      have d1 : decide (0 < s1.b - s1.k) = true := decide_eq_true z2
      go_enter Try.func16, Try.ntmps16
      go_wp2_with (go_at_call 18; (with_reducible refine Calls.mono C.out ?_); rintro e w1 ⟨rfl, k1, o1⟩)
      go_ret2
      exact ⟨rfl, k1, o1⟩
    · rw [if_neg z2]
      have d1 : decide (0 < s1.b - s1.k) = false := decide_eq_false z2
      go_enter Try.func16, Try.ntmps16
      go_wp2_with (first
        | (go_at_call 18; (with_reducible refine Calls.mono C.out ?_); rintro e w1 ⟨rfl, k1, o1⟩
           have K1 := Lib.hid k1
           obtain ⟨v, L, kb, ks, kr, hb1, hb2⟩ := k1
           have q1 : w1.cell? ⟨r, 1, none⟩ = some (.int .u64 s1.p) := kb.cell 1
           have q2 : w1.cell? ⟨r, 2, none⟩ = some (.int .u64 s1.f) := kb.cell 2
           clear kb ks kr hb2))
      go_quiet ((go_at_call 28; exact Calls.quiet_of_same ((W _).out.mono fun _ _ h => ⟨h.1, h.2.symm⟩)))
      go_wp2_with fail
      go_ret2
      exact ⟨rfl, K1.out.drewN _, o1.drewN _⟩
  · rw [if_pos z] at c1 ⊢
    have C := Lib.hid c1
    generalize (onM T s).1 = e at *
    have zz : (e == 0) = false := beq_eq_false_iff_ne.2 z
    have zn : (e != 0) = true := bne_iff_ne.2 z
    clear c1 k ok z okn ef
    go_enter Try.func16, Try.ntmps16
    go_wp2_with (go_at_call 18; (with_reducible refine Calls.mono C.out ?_); rintro e w1 ⟨rfl, k1, o1⟩)
    go_ret2
    exact ⟨rfl, k1, o1⟩
set_option maxRecDepth 100000 in
set_option maxHeartbeats 4000000 in
theorem rtakem_any (k : IsR w base r s c) (hc : c ≤ 900) (ok : s.ok) (T N : Int) (h0 : 0 ≤ T) (h1 : T ≤ 18446744073709551615) (n0 : 0 ≤ N) (n1 : N ≤ 18446744073709551615) :
    Calls Try.prog 14 #[.pointer (some ⟨r, 0, none⟩), .int .u64 T, .int .u64 N] w fun e w' => e = .returned (.tuple #[.int .u64 (takeM T N s).1.1, .int .i64 (takeM T N s).1.2]) ∧ IsR w' base r (takeM T N s).2 (c + 1) ∧ Below base w w' ∧ ∀ m s2, IsM w m s2 → IsM w' m s2 := by
  have c1 := rleftm_any k (by omega) ok T h0 h1
  have okn := onM_ok ok T
  have hbr : base ≤ r := by obtain ⟨v, L, kb, ks, kr, hb1, hb2⟩ := k; exact hb1
  have hrt : ∀ m s2, IsM w m s2 → m ≠ r := fun m s2 hm => by
    obtain ⟨v, L, kb, ks, kr, hb1, hb2⟩ := k
    exact Blk.ne hm kb (by decide)
  have hsz : base ≤ w.heap.size := by obtain ⟨v, L, kb, ks, kr, hb1, hb2⟩ := k; have := kb.lt; omega
  unfold leftM at c1
  unfold takeM
  by_cases z : (onM T s).1 = 0
  · rw [if_neg (by simpa using z)] at c1 ⊢
    have z1 : T < 4611686018427387904 := by
      apply Classical.byContradiction; intro h; unfold onM at z; rw [if_pos (by omega)] at z; simp at z
    have z2 : s.t ≤ T := by
      apply Classical.byContradiction; intro h; unfold onM at z; rw [if_neg (by omega), if_pos (by omega)] at z; simp at z
    have ew := win_ok ok z1 z2
    have ef : (onM T s).2.f = s.f ∧ (onM T s).2.p = s.p ∧ (onM T s).2.x = (T - s.f) / s.p := by unfold onM; rw [if_neg (by omega), if_neg (by omega)]; exact ⟨rfl, rfl, rfl⟩
    rw [← ef.1, ← ef.2.1, show (T - (onM T s).2.f) / (onM T s).2.p = (onM T s).2.x by rw [ef.1, ef.2.1, ef.2.2]] at ew
    clear ef z ok z2
    generalize (onM T s).2 = s1 at *
    have C := Lib.hid c1
    have W := fun W => Lib.hid (rwin_any T s1.f s1.p W h0 h1 okn.f0 (by have := okn.t0; have := okn.t1; omega) (by have := okn.b0; have := okn.b1; omega) (by have := okn.p1; omega))
    rw [ew] at W
    obtain ⟨b0, b1, p1, f0, t0, t1, -, kk0, kk1⟩ := okn
    obtain ⟨i0, hi0, hz0, hz1, hz2⟩ := info_parts infoTook
    have HRT := Lib.hid hrt
    clear c1 ew k hrt
    by_cases z2 : N ≤ s1.b - s1.k
    · rw [show min N (s1.b - s1.k) = N by omega]
      have d1 : decide (s1.b - s1.k < N) = false := decide_eq_false (by omega)
      go_enter Try.func14, Try.ntmps14
      go_wp2_with (first
        | (go_at_call 18; (with_reducible refine Calls.mono C.out ?_); rintro e w1 ⟨rfl, k1, o1⟩
           obtain ⟨v, L, kb, ks, kr, hb1, hb2⟩ := k1
           obtain ⟨A, cap, rfl, -⟩ := ks.shape
           have q1 : w1.cell? ⟨r, 1, none⟩ = some (.int .u64 s1.p) := kb.cell 1
           have q2 : w1.cell? ⟨r, 2, none⟩ = some (.int .u64 s1.f) := kb.cell 2
           have q4 : w1.cell? ⟨r, 4, none⟩ = some (.slice A L.length cap) := kb.cell 4
           have KB := Lib.hid kb
           have KS := Lib.hid ks
           have KR := Lib.hid kr
           have HB := Lib.hid hb2
           have NB := Lib.hid (Slc.ne ks kb (by decide))
           have len := kr.len
           have hlt := kb.lt
           clear kb ks kr hb2))
      go_quiet ((go_at_call 25; exact Calls.quiet_of_same ((W _).out.mono fun _ _ h => ⟨h.1, h.2.symm⟩)))
      go_wp2_with (at_builtin; refine wpList_append_slc _ rfl (.tmp 45) (.tmp 49) _ rfl 61 i0 _ 2 16 Try.underlying52 hi0 hz0 hz1 hz2 rfl (by omega) _ L.length (flat2 L) rfl (Slc.alloc (KS.out.drewN _) _) (some ⟨w1.heap.size, 0, none⟩) 1 1 [.int .u64 s1.x, .int .u64 (N)] rfl (Src.pair (w1.drewN _) 61 _ _) (by simp [Value.oneCell']) (by omega) (by simp only [maxLen]; omega) ?_)
      intro v3 w3 hs3 ho3 hat3
      obtain ⟨A3, cap3, e3, -⟩ := hs3.shape
      subst e3
      have kb3 := Blk.only ((KB.out.drewN _).alloc _) ho3 NB.out
      have q5 : w3.cell? ⟨r, 4, none⟩ = some (.slice A L.length cap) := kb3.cell 4
      have l5 : w3.frozen? ⟨r, 4, none⟩ = false := kb3.free 4
      have own3 : ∀ g, (Value.slice A3 (L.length + 1) cap3).ownBlock = some g → base ≤ g := by
        intro g hg
        rcases hat3 with h | h <;> rw [h] at hg
        · exact HB.out g hg
        · have hs := o1.size
          simp at hg; omega
      have nr3 : (Value.slice A3 (L.length + 1) cap3).ownBlock ≠ some r := by
        rcases hat3 with h | h <;> rw [h]
        · exact NB.out
        · simp; omega
      have KB3 := Lib.hid kb3
      have HS3 := Lib.hid hs3
      have HO3 := Lib.hid ho3
      have OWN3 := Lib.hid own3
      have NR3 := Lib.hid nr3
      clear kb3 hs3 ho3 hat3 own3 nr3
      go_wp2_with fail
      go_ret2
      have KR' := KR.out
      refine ⟨rfl, ⟨.slice A3 (L.length + 1) cap3, L ++ [(s1.x, N)], KB3.out.put 4 _, ?_, ⟨by simp; omega, ?_, ?_⟩, hb1, OWN3.out⟩, ?_, ?_⟩
      · have h := HS3.out.far (p := ⟨r, 4, none⟩) NR3.out (.slice A3 (L.length + 1) cap3)
        rw [flat2_append]
        simpa [flat2] using h
      · intro e he
        rcases List.mem_append.1 he with he | he
        · exact KR'.el e he
        · simp at he; subst he; exact ⟨Int.le_refl _, by simp only; omega⟩
      · have h := KR'.sum
        rw [sumW_append]
        simp only [sumW, if_true]
        omega
      · refine Below.setCell (Below.trans ?_ (HO3.out.below (B := base) (by have := o1.size; simp [World.drewN]; omega) (fun i hi e => by have := HB.out i e; omega))) hbr _
        exact (Below.drewN' (o1.below hsz (fun i hi e => by omega)) _).alloc (by have := o1.size; simp [World.drewN]; omega) _
      · intro m s2 hm
        have hmr := HRT.out m s2 hm
        have h1 : IsM w1 m s2 := Blk.only hm o1 hmr
        have h2 : IsM w3 m s2 := Blk.only ((Blk.drewN h1 _).alloc _) HO3.out (fun e => Slc.ne KS.out h1 (by decide) e)
        exact Blk.far h2 (p := ⟨r, 4, none⟩) hmr _
    · rw [show min N (s1.b - s1.k) = s1.b - s1.k by omega]
      have d1 : decide (s1.b - s1.k < N) = true := decide_eq_true (by omega)
      go_enter Try.func14, Try.ntmps14
      go_wp2_with (first
        | (go_at_call 18; (with_reducible refine Calls.mono C.out ?_); rintro e w1 ⟨rfl, k1, o1⟩
           obtain ⟨v, L, kb, ks, kr, hb1, hb2⟩ := k1
           obtain ⟨A, cap, rfl, -⟩ := ks.shape
           have q1 : w1.cell? ⟨r, 1, none⟩ = some (.int .u64 s1.p) := kb.cell 1
           have q2 : w1.cell? ⟨r, 2, none⟩ = some (.int .u64 s1.f) := kb.cell 2
           have q4 : w1.cell? ⟨r, 4, none⟩ = some (.slice A L.length cap) := kb.cell 4
           have KB := Lib.hid kb
           have KS := Lib.hid ks
           have KR := Lib.hid kr
           have HB := Lib.hid hb2
           have NB := Lib.hid (Slc.ne ks kb (by decide))
           have len := kr.len
           have hlt := kb.lt
           clear kb ks kr hb2))
      go_quiet ((go_at_call 25; exact Calls.quiet_of_same ((W _).out.mono fun _ _ h => ⟨h.1, h.2.symm⟩)))
      go_wp2_with (at_builtin; refine wpList_append_slc _ rfl (.tmp 45) (.tmp 49) _ rfl 61 i0 _ 2 16 Try.underlying52 hi0 hz0 hz1 hz2 rfl (by omega) _ L.length (flat2 L) rfl (Slc.alloc (KS.out.drewN _) _) (some ⟨w1.heap.size, 0, none⟩) 1 1 [.int .u64 s1.x, .int .u64 (s1.b - s1.k)] rfl (Src.pair (w1.drewN _) 61 _ _) (by simp [Value.oneCell']) (by omega) (by simp only [maxLen]; omega) ?_)
      intro v3 w3 hs3 ho3 hat3
      obtain ⟨A3, cap3, e3, -⟩ := hs3.shape
      subst e3
      have kb3 := Blk.only ((KB.out.drewN _).alloc _) ho3 NB.out
      have q5 : w3.cell? ⟨r, 4, none⟩ = some (.slice A L.length cap) := kb3.cell 4
      have l5 : w3.frozen? ⟨r, 4, none⟩ = false := kb3.free 4
      have own3 : ∀ g, (Value.slice A3 (L.length + 1) cap3).ownBlock = some g → base ≤ g := by
        intro g hg
        rcases hat3 with h | h <;> rw [h] at hg
        · exact HB.out g hg
        · have hs := o1.size
          simp at hg; omega
      have nr3 : (Value.slice A3 (L.length + 1) cap3).ownBlock ≠ some r := by
        rcases hat3 with h | h <;> rw [h]
        · exact NB.out
        · simp; omega
      have KB3 := Lib.hid kb3
      have HS3 := Lib.hid hs3
      have HO3 := Lib.hid ho3
      have OWN3 := Lib.hid own3
      have NR3 := Lib.hid nr3
      clear kb3 hs3 ho3 hat3 own3 nr3
      go_wp2_with fail
      go_ret2
      have KR' := KR.out
      refine ⟨rfl, ⟨.slice A3 (L.length + 1) cap3, L ++ [(s1.x, s1.b - s1.k)], KB3.out.put 4 _, ?_, ⟨by simp; omega, ?_, ?_⟩, hb1, OWN3.out⟩, ?_, ?_⟩
      · have h := HS3.out.far (p := ⟨r, 4, none⟩) NR3.out (.slice A3 (L.length + 1) cap3)
        rw [flat2_append]
        simpa [flat2] using h
      · intro e he
        rcases List.mem_append.1 he with he | he
        · exact KR'.el e he
        · simp at he; subst he; exact ⟨Int.le_refl _, by simp only; omega⟩
      · have h := KR'.sum
        rw [sumW_append]
        simp only [sumW, if_true]
        omega
      · refine Below.setCell (Below.trans ?_ (HO3.out.below (B := base) (by have := o1.size; simp [World.drewN]; omega) (fun i hi e => by have := HB.out i e; omega))) hbr _
        exact (Below.drewN' (o1.below hsz (fun i hi e => by omega)) _).alloc (by have := o1.size; simp [World.drewN]; omega) _
      · intro m s2 hm
        have hmr := HRT.out m s2 hm
        have h1 : IsM w1 m s2 := Blk.only hm o1 hmr
        have h2 : IsM w3 m s2 := Blk.only ((Blk.drewN h1 _).alloc _) HO3.out (fun e => Slc.ne KS.out h1 (by decide) e)
        exact Blk.far h2 (p := ⟨r, 4, none⟩) hmr _
  · rw [if_pos z] at c1 ⊢
    have C := Lib.hid c1
    generalize (onM T s).1 = e at *
    have zz : (e == 0) = false := beq_eq_false_iff_ne.2 z
    have zn : (e != 0) = true := bne_iff_ne.2 z
    have HRT := Lib.hid hrt
    clear c1 k ok z okn hrt
    go_enter Try.func14, Try.ntmps14
    go_wp2_with (go_at_call 18; (with_reducible refine Calls.mono C.out ?_); rintro e w1 ⟨rfl, k1, o1⟩)
    go_ret2
    exact ⟨rfl, k1.more (by omega), o1.below hsz (fun i hi e => by omega), fun m s2 hm => Blk.only hm o1 (HRT.out m s2 hm)⟩
end
end Go.Proofs.Ytjhocfebopclhaa
