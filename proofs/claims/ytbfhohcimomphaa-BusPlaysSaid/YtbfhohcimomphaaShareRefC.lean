/- The reference's meter with its own rows told (for many meters side by side): Left, Take of one unit, New; only at times that may be. -/
import Derived.Test.YtbfhohcimomphaaShareRef
namespace Go.Proofs.Ytbfhohcimomphaa
open Go.RowKit
set_option linter.unusedVariables false
set_option linter.unusedSimpArgs false
theorem Src.pair (w : World) (e : TypeId) (u v : Value) : Src (w.alloc (.cells #[u, v] e)) 2 (some ⟨w.heap.size, 0, none⟩) 1 [u, v] :=
  ⟨rfl, .inr ⟨_, rfl, fun j x hx => by
    rcases j with _ | _ | j
    · rw [Addr.add_lit]; simp at hx; subst hx; exact (Blk.new w e [u, v]).cell 0
    · rw [Addr.add_lit]; simp at hx; subst hx; exact (Blk.new w e [u, v]).cell 1
    · simp at hx⟩⟩
theorem infoTook : (Try.prog.info? 97).map (fun i => (i.zero, i.size, i.bytes)) = some (some (.agg #[.int .u64 0, .int .u64 0]), 2, 16) := by kernel_rfl
/-- The reference's meter in block r, its rows in v, stands as s. -/
def IsO (w : World) (r : Nat) (v : Value) (L : List (Int × Int)) (s : Ms) (c : Nat) : Prop :=
  Blk w r 93 [.int .u64 s.b, .int .u64 s.p, .int .u64 s.f, .int .u64 s.t, v] ∧ Slc w 97 2 v L.length (flat2 L) ∧ RowM s c L
section
variable {w w' : World} {r c : Nat} {s : Ms} {v : Value} {L : List (Int × Int)}
theorem IsO.drewN (h : IsO w r v L s c) (n : Nat) : IsO (w.drewN n) r v L s c := h
theorem IsO.only {F : Nat → Prop} (h : IsO w r v L s c) (o : Only F w w') (h1 : ¬ F r) (h2 : ∀ g, v.ownBlock = some g → ¬ F g) : IsO w' r v L s c := ⟨h.1.only o h1, h.2.1.only o h2, h.2.2⟩
theorem IsO.below (h : IsO w r v L s c) (k : Below w.heap.size w w') : IsO w' r v L s c := ⟨h.1.below k h.1.lt, h.2.1.below k (fun g hg => h.2.1.lt hg), h.2.2⟩
set_option maxHeartbeats 2000000 in
theorem rlefto_any (k : IsO w r v L s c) (hc : c ≤ 1000) (ok : s.ok) (T : Int) (h0 : 0 ≤ T) (h1 : T ≤ 18446744073709551615) (z1 : T < 4611686018427387904) (z2 : s.t ≤ T) :
    Calls Try.prog 32 #[.pointer (some ⟨r, 0, none⟩), .int .u64 T] w fun e w' => e = .returned (.tuple #[.int .u64 (leftM T s).1.1, .int .i64 (leftM T s).1.2]) ∧ IsO w' r v L (leftM T s).2 c ∧ Only (· = r) w w' := by
  have W := fun W => Lib.hid (rwin_any T s.f s.p W h0 h1 ok.f0 (by have := ok.t0; have := ok.t1; omega) (by have := ok.b0; have := ok.b1; omega) (by have := ok.p1; omega))
  have K := Lib.hid k
  obtain ⟨kb, ks, kr⟩ := k
  have k0 : w.cell? ⟨r, 0, none⟩ = some (.int .u64 s.b) := kb.cell 0
  have k1 : w.cell? ⟨r, 1, none⟩ = some (.int .u64 s.p) := kb.cell 1
  have k2 : w.cell? ⟨r, 2, none⟩ = some (.int .u64 s.f) := kb.cell 2
  have k3 : w.cell? ⟨r, 3, none⟩ = some (.int .u64 s.t) := kb.cell 3
  have k4 : w.cell? ⟨r, 4, none⟩ = some v := kb.cell 4
  have l3 : w.frozen? ⟨r, 3, none⟩ = false := kb.free 3
  have e : onM T s = (0, { s with t := T, x := (T - s.f) / s.p, k := if (T - s.f) / s.p = s.x then s.k else 0 }) := by unfold onM; rw [if_neg (by omega), if_neg (by omega)]
  have kn := kr.on ok (by omega) (z2)
  have on := onM_ok ok T
  unfold leftM
  rw [e] at kn on ⊢
  rw [if_neg (by simp)]
  rw [win_ok ok (by omega) (by omega)] at W
  simp only at kn on ⊢
  generalize (T - s.f) / s.p = X at *
  generalize (if X = s.x then s.k else 0) = kk at *
  have kk0 := on.k0
  have kk1 := on.k1
  have b0 := on.b0
  have b1 := on.b1
  have p1 := on.p1
  have hsum := kn.sum
  simp only at kk0 kk1 b0 b1 p1 hsum
  have hT := sumW_take X L fun x hx => (kn.el x hx).2
  have HT := Lib.hid hT
  have KN := Lib.hid kn
  have KB := Lib.hid kb
  have KS := Lib.hid ks
  have len := kr.len
  obtain ⟨A, cap, ev, hnc⟩ := ks.shape
  subst ev
  clear e kn on kr ok kb ks hT
  go_enter Try.func32, Try.ntmps32
  go_wp2_with fail
  go_quiet ((go_at_call 39; exact Calls.quiet_of_same ((W _).out.mono fun _ _ h => ⟨h.1, h.2.symm⟩)))
  go_wp2_with fail
  go_loop [9, 10] (fun lv iv => ∃ i : Nat, iv = .int .i64 i ∧ i ≤ L.length ∧ lv = .int .u64 (s.b - sumW X (L.take i))) (fun _ iv => (L.length - intOf iv).toNat)
  case atStart => exact ⟨0, rfl, by omega, by simp [sumW]⟩
  case round =>
    obtain ⟨i, rfl, hi, rfl⟩ := hrel
    obtain ⟨t0, t1⟩ := HT.out i
    by_cases hil : i < L.length
    · obtain ⟨gk, off, c', hv', -, -, -, hx, -⟩ := KS.out.at_ (by omega)
      simp only [Value.slice.injEq] at hv'
      obtain ⟨rfl, -, rfl⟩ := hv'
      have hne : gk ≠ r := fun e => Slc.ne KS.out KB.out (by decide) (by rw [← e]; rfl)
      obtain ⟨e, he⟩ : ∃ e, L[i]? = some e := ⟨L[i], List.getElem?_eq_getElem hil⟩
      obtain ⟨f1, f2⟩ := flat2_at L i e he
      have c1 : w.cell? ⟨gk, off + i * 2, none⟩ = some (.int .u64 e.1) := hx _ _ f1
      have c2 : w.cell? ⟨gk, off + i * 2 + 1, none⟩ = some (.int .u64 e.2) := hx _ _ f2
      have hst := sumW_step X L i e he
      have hs2 := HT.out (i + 1)
      have he2 := (KN.out.el e (List.mem_of_getElem? he)).2
      have hil2 : (i : Int) < L.length := by omega
      clear hx f1 f2 he
      by_cases hX : e.1 = X
      · rw [if_pos hX] at hst
        have zz : (e.1 == X) = true := beq_iff_eq.2 hX
        generalize sumW X (L.take i) = sm at *
        have ST := Lib.hid hst
        clear hst
        have hh : sm + e.2 ≤ s.b := by have := ST.out; omega
        clear hs2
        go_wp2_with fail
        go_round
        case rel => exact ⟨i + 1, by go_num, by omega, by rw [ST.out]; congr 1; omega⟩
        case measure => simp [intOf]; omega
      · rw [if_neg hX] at hst
        have zz : (e.1 == X) = false := beq_eq_false_iff_ne.2 hX
        generalize sumW X (L.take i) = sm at *
        have ST := Lib.hid hst
        clear hst hs2
        go_wp2_with fail
        go_round
        case rel => exact ⟨i + 1, by go_num, by omega, by rw [ST.out]; congr 1; omega⟩
        case measure => simp [intOf]; omega
    · have hil2 : ¬ (i : Int) < L.length := by omega
      obtain rfl : i = L.length := by omega
      have hall : sumW X (L.take L.length) = kk := by rw [List.take_length]; exact hsum
      have HALL := Lib.hid hall
      generalize sumW X (L.take L.length) = sm at *
      clear hall
      go_wp2_with fail
      go_ret2
      refine ⟨ret2 (by rw [HALL.out]) rfl, ⟨((KB.out.drewN _).put 3 _), ?_, KN.out⟩, Only.setCell ((Only.refl (· = r) w).drewN _) (p := ⟨r, 3, none⟩) (fun _ => rfl) _⟩
      exact (KS.out.drewN _).far (p := ⟨r, 3, none⟩) (Slc.ne KS.out KB.out (by decide)) _
set_option maxRecDepth 100000 in
set_option maxHeartbeats 4000000 in
theorem rtakeo_any (k : IsO w r v L s c) (hc : c ≤ 900) (ok : s.ok) (T : Int) (h0 : 0 ≤ T) (h1 : T ≤ 18446744073709551615) (z1 : T < 4611686018427387904) (z2 : s.t ≤ T) (zk : (onM T s).2.k < (onM T s).2.b) :
    Calls Try.prog 34 #[.pointer (some ⟨r, 0, none⟩), .int .u64 T, .int .u64 1] w fun e w' => e = .returned (.tuple #[.int .u64 1, .int .i64 0]) ∧ ∃ v' L', IsO w' r v' L' (takeM T 1 s).2 (c + 1) ∧ Only (fun i => i = r ∨ v.ownBlock = some i) w w' ∧ (∀ g, v'.ownBlock = some g → v.ownBlock = some g ∨ w.heap.size ≤ g) := by
  have c1 := rlefto_any k (by omega) ok T h0 h1 z1 z2
  have okn := onM_ok ok T
  have z : (onM T s).1 = 0 := by unfold onM; rw [if_neg (by omega), if_neg (by omega)]
  unfold leftM at c1
  unfold takeM
  rw [if_neg (by simpa using z)] at c1 ⊢
  have ew := win_ok ok z1 z2
  have ef : (onM T s).2.f = s.f ∧ (onM T s).2.p = s.p ∧ (onM T s).2.x = (T - s.f) / s.p := by unfold onM; rw [if_neg (by omega), if_neg (by omega)]; exact ⟨rfl, rfl, rfl⟩
  rw [← ef.1, ← ef.2.1, show (T - (onM T s).2.f) / (onM T s).2.p = (onM T s).2.x by rw [ef.1, ef.2.1, ef.2.2]] at ew
  clear ef z ok z2
  generalize (onM T s).2 = s1 at *
  have C := Lib.hid c1
  have W := fun W => Lib.hid (rwin_any T s1.f s1.p W h0 h1 okn.f0 (by have := okn.t0; have := okn.t1; omega) (by have := okn.b0; have := okn.b1; omega) (by have := okn.p1; omega))
  rw [ew] at W
  obtain ⟨b0, b1, p1, f0, t0, t1, -, kk0, kk1⟩ := okn
  obtain ⟨i0, hi0, hz0, hz1, hz2⟩ := info_parts infoTook
  clear c1 ew k
  rw [show min 1 (s1.b - s1.k) = 1 by omega]
  have d1 : decide (s1.b - s1.k < 1) = false := decide_eq_false (by omega)
  go_enter Try.func34, Try.ntmps34
  go_wp2_with (first
    | (go_at_call 32; (with_reducible refine Calls.mono C.out ?_); rintro e w1 ⟨rfl, k1, o1⟩
       obtain ⟨kb, ks, kr⟩ := k1
       obtain ⟨A, cap, ev, -⟩ := ks.shape
       subst ev
       have q1 : w1.cell? ⟨r, 1, none⟩ = some (.int .u64 s1.p) := kb.cell 1
       have q2 : w1.cell? ⟨r, 2, none⟩ = some (.int .u64 s1.f) := kb.cell 2
       have q4 : w1.cell? ⟨r, 4, none⟩ = some (.slice A L.length cap) := kb.cell 4
       have KB := Lib.hid kb
       have KS := Lib.hid ks
       have KR := Lib.hid kr
       have NB := Lib.hid (Slc.ne ks kb (by decide))
       have len := kr.len
       have hlt := kb.lt
       clear kb ks kr))
  go_quiet ((go_at_call 39; exact Calls.quiet_of_same ((W _).out.mono fun _ _ h => ⟨h.1, h.2.symm⟩)))
  go_wp2_with (at_builtin; refine wpList_append_slc _ rfl (.tmp 45) (.tmp 49) _ rfl 97 i0 _ 2 16 Try.underlying91 hi0 hz0 hz1 hz2 rfl (by omega) _ L.length (flat2 L) rfl (Slc.alloc (KS.out.drewN _) _) (some ⟨w1.heap.size, 0, none⟩) 1 1 [.int .u64 s1.x, .int .u64 1] rfl (Src.pair (w1.drewN _) 97 _ _) (by simp [Value.oneCell']) (by omega) (by simp only [maxLen]; omega) ?_)
  intro v3 w3 hs3 ho3 hat3
  obtain ⟨A3, cap3, e3, -⟩ := hs3.shape
  subst e3
  have kb3 := Blk.only ((KB.out.drewN _).alloc _) ho3 NB.out
  have q5 : w3.cell? ⟨r, 4, none⟩ = some (.slice A L.length cap) := kb3.cell 4
  have l5 : w3.frozen? ⟨r, 4, none⟩ = false := kb3.free 4
  have own3 : ∀ g, (Value.slice A3 (L.length + 1) cap3).ownBlock = some g → (Value.slice A L.length cap).ownBlock = some g ∨ w.heap.size ≤ g := by
    intro g hg
    rcases hat3 with h | h <;> rw [h] at hg
    · exact .inl hg
    · have hs := o1.size
      simp at hg
      exact .inr (by omega)
  have nr3 : (Value.slice A3 (L.length + 1) cap3).ownBlock ≠ some r := by
    rcases hat3 with h | h <;> rw [h]
    · exact NB.out
    · simp; omega
  have KB3 := Lib.hid kb3
  have HS3 := Lib.hid hs3
  have HO3 := Lib.hid ho3
  have OWN3 := Lib.hid own3
  have NR3 := Lib.hid nr3
  clear kb3 hs3 ho3 hat3 own3 nr3
  go_wp2_with fail
  go_ret2
  have KR' := KR.out
  refine ⟨rfl, .slice A3 (L.length + 1) cap3, L ++ [(s1.x, 1)], ⟨KB3.out.put 4 _, ?_, ⟨by simp; omega, ?_, ?_⟩⟩, ?_, OWN3.out⟩
  · have h := HS3.out.far (p := ⟨r, 4, none⟩) NR3.out (.slice A3 (L.length + 1) cap3)
    rw [flat2_append]
    simpa [flat2] using h
  · intro e he
    rcases List.mem_append.1 he with he | he
    · exact KR'.el e he
    · simp at he; subst he; exact ⟨Int.le_refl _, by simp only; omega⟩
  · have h := KR'.sum
    rw [sumW_append]
    simp only [sumW, if_true]
    omega
  · refine Only.setCell (F := fun i => i = r ∨ (Value.slice A L.length cap).ownBlock = some i) (Only.trans (F := fun i => i = r ∨ (Value.slice A L.length cap).ownBlock = some i) ?_ HO3.out (fun g _ h => .inr h)) (fun _ => .inl rfl) _
    exact ((Only.mono o1 (fun g _ h => .inl h)).drewN _).alloc _
theorem rnewo_any (b p f : Int) (w : World) (bf : 0 ≤ f) (bf' : f ≤ 18446744073709551615) :
    Calls Try.prog 31 #[.agg #[.int .u64 b, .int .u64 p], .int .u64 f] w fun e w' => ∃ r, e = .returned (.pointer (some ⟨r, 0, none⟩)) ∧ w.heap.size ≤ r ∧ IsO w' r (.slice none 0 0) [] ⟨b, p, f, f, 0, 0⟩ 0 ∧ Below w.heap.size w w' := by
  go_enter Try.func31, Try.ntmps31
  go_wp2_with fail
  go_ret
  exact ⟨w.heap.size + 1, by simp, by omega, ⟨by have := Blk.new (w.alloc (.cells #[.int .u64 b, .int .u64 p] 39)) 93 [.int .u64 b, .int .u64 p, .int .u64 f, .int .u64 f, .slice none 0 0]; simpa using this, Slc.nil _ _ _, ⟨by simp, by simp, rfl⟩⟩, ((Below.refl _ _).alloc (Nat.le_refl _) _).alloc (by simp) _⟩
end
end Go.Proofs.Ytbfhohcimomphaa
