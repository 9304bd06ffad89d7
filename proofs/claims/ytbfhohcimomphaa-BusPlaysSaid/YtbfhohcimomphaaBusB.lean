/- Layer 6 (bus): who has the slot. -/
import Derived.Test.YtbfhohcimomphaaBus
import Derived.Test.YtbfhohcimomphaaRThen
namespace Go.Proofs.Ytbfhohcimomphaa
open Go.RowKit
set_option linter.unusedVariables false
set_option linter.unusedSimpArgs false
def prB (B : Bu) (i : Nat) : Int := match B.L[i]? with
  | some m => m.q
  | none => 0
/-- Of the first i masters that may, and want it, the most urgent; -1: nobody. And the meters. -/
def bestB (T : Int) (want : Nat → Bool) (B : Bu) : Nat → Int × List Ms
  | 0 => (-1, B.M)
  | i + 1 => (if (isB T want B (bestB T want B i).2 i).1 = true ∧ ((bestB T want B i).1 = -1 ∨ prB B i < prB B (bestB T want B i).1.toNat) then (i : Int) else (bestB T want B i).1, (isB T want B (bestB T want B i).2 i).2)
theorem bestB_rng (T : Int) (want : Nat → Bool) (B : Bu) (i : Nat) : (bestB T want B i).1 = -1 ∨ ∃ b : Nat, (bestB T want B i).1 = b ∧ b < i := by
  induction i with
  | zero => exact .inl rfl
  | succ i ih =>
    unfold bestB
    simp only
    split
    · exact .inr ⟨i, rfl, by omega⟩
    · rcases ih with h | ⟨b, h, hb⟩
      · exact .inl h
      · exact .inr ⟨b, h, by omega⟩
theorem bestB_len (T : Int) (want : Nat → Bool) (B : Bu) (i : Nat) : (bestB T want B i).2.length = B.M.length := by
  induction i with
  | zero => rfl
  | succ i ih => unfold bestB; simp only; rw [isB_len]; exact ih
theorem bestB_ok {T : Int} {want : Nat → Bool} {B : Bu} (h : ∀ s ∈ B.M, s.ok) (i : Nat) : ∀ s ∈ (bestB T want B i).2, s.ok := by
  induction i with
  | zero => exact h
  | succ i ih => unfold bestB; exact isB_ok ih
theorem bestB_succ (T : Int) (want : Nat → Bool) (B : Bu) (i : Nat) : bestB T want B (i + 1) = (if (isB T want B (bestB T want B i).2 i).1 = true ∧ ((bestB T want B i).1 = -1 ∨ prB B i < prB B (bestB T want B i).1.toNat) then (i : Int) else (bestB T want B i).1, (isB T want B (bestB T want B i).2 i).2) := rfl
def RelBest (w : World) (A : Bl) (B : Bu) (T : Int) (want : Nat → Bool) (a b c : Nat) (bv iv : Value) (wr : World) : Prop :=
  ∃ i : Nat, iv = .int .i64 i ∧ i ≤ B.L.length ∧ bv = .int .i64 (bestB T want B i).1 ∧ IsB wr A { B with M := (bestB T want B i).2 } ∧ Only A.own w wr ∧ Blk wr a 70 (wantCells want) ∧ Blk wr b 26 [.pointer (some ⟨A.p, 0, none⟩)] ∧ Blk wr c 30 [.int .u64 T]
set_option maxRecDepth 100000 in
set_option maxHeartbeats 2000000 in
theorem bestb_any {w : World} {A : Bl} {B : Bu} (k : IsB w A B) (hok : ∀ s ∈ B.M, s.ok) (T : Int) (h0 : 0 ≤ T) (h1 : T ≤ 18446744073709551615) (hn : B.L.length ≤ 16) (want : Nat → Bool) (a b c : Nat)
    (ha : Blk w a 70 (wantCells want)) (hb : Blk w b 26 [.pointer (some ⟨A.p, 0, none⟩)]) (hc : Blk w c 30 [.int .u64 T]) (na : ¬ A.own a) (nb : ¬ A.own b) (nc : ¬ A.own c) :
    Calls Try.prog 24 #[.pointer (some ⟨A.p, 0, none⟩), .func (.func 25) #[] #[.pointer (some ⟨a, 0, none⟩), .pointer (some ⟨b, 0, none⟩), .pointer (some ⟨c, 0, none⟩)]] w fun e w' => e = .returned (.int .i64 (bestB T want B B.L.length).1) ∧ IsB w' A { B with M := (bestB T want B B.L.length).2 } ∧ Only A.own w w' := by
  obtain ⟨c0, c1, c18, c19, c20, c21, c22⟩ := k.cells
  have K := Lib.hid k
  have OKS := Lib.hid hok
  have HA := Lib.hid ha
  have HB := Lib.hid hb
  have HC := Lib.hid hc
  have NA := Lib.hid na
  have NB := Lib.hid nb
  have NC := Lib.hid nc
  obtain ⟨A0, cp0, ev, -⟩ := k.list.shape
  rw [ev] at c0
  have EV := Lib.hid ev
  clear k hok ha hb hc na nb nc ev
  go_enter Try.func24, Try.ntmps24
  go_wp2_with fail
  go_loopw [5, 13] (fun bv iv wr => Hid (RelBest w A B T want a b c bv iv wr)) (fun _ iv _ => B.L.length - (intOf iv).toNat)
  case atStart => exact ⟨0, rfl, by omega, rfl, K.out, Only.refl _ _, HA.out, HB.out, HC.out⟩
  case round =>
    clear c0 c1 c18 c19 c20 c21 c22 K HA HB HC
    obtain ⟨i, rfl, hi, rfl, kI, oI, ha, hb, hc⟩ := hrel
    have rng := bestB_rng T want B i
    have es := bestB_succ T want B i
    have hln : (bestB T want B i).2.length = B.M.length := bestB_len T want B i
    have okM := bestB_ok OKS.out i (T := T) (want := want)
    generalize hbq : (bestB T want B i).1 = bq at *
    generalize hMq : (bestB T want B i).2 = Mq at *
    have ES := Lib.hid es
    have HBQ := Lib.hid hbq
    have HMQ := Lib.hid hMq
    clear es hbq hMq
    by_cases hil : i < B.L.length
    · have hi2 : (i : Int) < B.L.length := by omega
      have hm : B.L[i]? = some B.L[i] := List.getElem?_eq_getElem hil
      have hpr : prB B i = B.L[i].q := by unfold prB; rw [hm]
      obtain ⟨g, off, cp, ev, a0, a1, a2, a3, hg⟩ := kI.master hm
      have ev2 : A.v = .slice A0 B.L.length cp0 := EV.out
      rw [ev2] at ev
      injection ev with ev1 ev2 ev3
      subst ev1 ev3
      have SL := fun W (kk : IsB W A { B with M := Mq }) ha' hb' hc' => Lib.hid (slot1_any kk okM T h0 h1 hn want (i := i) hil a b c ha' hb' hc')
      generalize hm2 : B.L[i] = m at *
      have hres : isB T want { B with M := Mq } Mq i = isB T want B Mq i := rfl
      simp only [hres] at SL
      generalize hs1 : (isB T want B Mq i).1 = s1 at *
      generalize hs2 : (isB T want B Mq i).2 = M2 at *
      have c0 := kI.cells.1
      rw [EV.out] at c0
      have hplt := kI.blk.lt
      have nl : ¬ A.own wr.heap.size := fun h => by have := kI.lt (.inl h); omega
      have KI : ∀ o, Hid (IsB (wr.alloc o).drew A { B with M := Mq }) := fun o => (kI.alloc o).drew
      have OI := Lib.hid oI
      have HA := fun o => Lib.hid (Blk.drew (Blk.alloc ha o))
      have HB := fun o => Lib.hid (Blk.drew (Blk.alloc hb o))
      have HC := fun o => Lib.hid (Blk.drew (Blk.alloc hc o))
      have HPR := Lib.hid hpr
      have NL := Lib.hid nl
      have LM := Lib.hid (Blk.drew (Blk.new wr 41 (mpCells m)))
      have OA : ∀ o, Hid (Only A.own w (wr.alloc o).drew) := fun o => (oI.alloc o).drew
      have EVV := EV
      clear kI oI ha hb hc hres hs1 hs2 hm hm2 hln okM OKS hpr nl
      have es := ES.out
      cases s1 with
      | false =>
        rw [if_neg (by simp)] at es
        have ES2 := Lib.hid es
        clear es ES
        go_wp2_with fail
        refine wp_region_cut 2 (by kernel_rfl) rfl rfl (by kernel_rfl) ?_
        simp only [List.take_succ_cons, List.take_zero, List.drop_succ_cons, List.drop_zero]
        refine ⟨_, Or.inl ⟨rfl, fun w => rfl⟩, ?_⟩
        refine ⟨_, Or.inl ⟨rfl, fun w => rfl⟩, ?_⟩
        intro K hK
        go_simp
        (go_at_call 25; (with_reducible refine Calls.mono (SL _ (KI _).out (HA _).out ((HB _).out.cell 0) ((HC _).out.cell 0)).out ?_); rintro e w2 ⟨rfl, k2, o2⟩; have K2 := Lib.hid k2; have O2 := Lib.hid ((OA _).out.trans o2 (fun _ _ h => h)); have HA2 := Lib.hid (Blk.only (HA _).out o2 NA.out); have HB2 := Lib.hid (Blk.only (HB _).out o2 NB.out); have HC2 := Lib.hid (Blk.only (HC _).out o2 NC.out); clear k2 o2)
        refine hK _ _ ?_
        clear hK K
        unfold restW
        repeat (go_big_quiet_step (fail))
        refine wpQuiet_nil ?_
        intro _ hw'
        obtain ⟨nq, rfl⟩ := hw'
        all_goals
          go_wp2_with fail
          go_roundw
          case rel => exact ⟨i + 1, by go_num, by omega, by rw [ES2.out], by rw [ES2.out]; exact K2.out.drewN _, O2.out.drewN _, HA2.out, HB2.out, HC2.out⟩
          case measure => simp [intOf]; omega
      | true =>
        rcases rng with rfl | ⟨bb, rfl, hbi⟩
        · rw [if_pos ⟨rfl, .inl rfl⟩] at es
          have ES2 := Lib.hid es
          clear es ES
          go_wp2_with fail
          refine wp_region_cut 2 (by kernel_rfl) rfl rfl (by kernel_rfl) ?_
          simp only [List.take_succ_cons, List.take_zero, List.drop_succ_cons, List.drop_zero]
          refine ⟨_, Or.inl ⟨rfl, fun w => rfl⟩, ?_⟩
          refine ⟨_, Or.inl ⟨rfl, fun w => rfl⟩, ?_⟩
          intro K hK
          go_simp
          (go_at_call 25; (with_reducible refine Calls.mono (SL _ (KI _).out (HA _).out ((HB _).out.cell 0) ((HC _).out.cell 0)).out ?_); rintro e w2 ⟨rfl, k2, o2⟩; have K2 := Lib.hid k2; have O2 := Lib.hid ((OA _).out.trans o2 (fun _ _ h => h)); have HA2 := Lib.hid (Blk.only (HA _).out o2 NA.out); have HB2 := Lib.hid (Blk.only (HB _).out o2 NB.out); have HC2 := Lib.hid (Blk.only (HC _).out o2 NC.out); clear k2 o2)
          refine hK _ _ ?_
          clear hK K
          unfold restW
          repeat (go_big_quiet_step (fail))
          refine wpQuiet_nil ?_
          intro _ hw'
          obtain ⟨nq, rfl⟩ := hw'
          all_goals
            go_wp2_with fail
            go_roundw
            case rel => exact ⟨i + 1, by go_num, by omega, by rw [ES2.out], by rw [ES2.out]; exact K2.out.drewN _, O2.out.drewN _, HA2.out, HB2.out, HC2.out⟩
            case measure => simp [intOf]; omega
        · have hbl : bb < B.L.length := by omega
          have hmb : B.L[bb]? = some B.L[bb] := List.getElem?_eq_getElem hbl
          have hpb : prB B bb = B.L[bb].q := by unfold prB; rw [hmb]
          have e1 : (((bb : Nat) : Int) == -1) = false := beq_eq_false_iff_ne.2 (by omega)
          have b0 : (0 : Int) ≤ bb := by omega
          have b2 : (bb : Int) < B.L.length := by omega
          generalize B.L[bb] = mb at *
          have HMB := Lib.hid hmb
          have ht : ((bb : Nat) : Int).toNat = bb := by omega
          rw [ht, HPR.out, hpb] at es
          clear ht hmb hpb ES
          by_cases hq : m.q < mb.q
          all_goals
            first | (rw [if_pos ⟨rfl, .inr hq⟩] at es; have d1 : decide (m.q < mb.q) = true := decide_eq_true hq) | (rw [if_neg (by rintro ⟨-, h | h⟩; omega; exact hq h)] at es; have d1 : decide (m.q < mb.q) = false := decide_eq_false hq)
            have ES2 := Lib.hid es
            clear es hq
            go_wp2_with fail
            refine wp_region_cut 2 (by kernel_rfl) rfl rfl (by kernel_rfl) ?_
            simp only [List.take_succ_cons, List.take_zero, List.drop_succ_cons, List.drop_zero]
            refine ⟨_, Or.inl ⟨rfl, fun w => rfl⟩, ?_⟩
            refine ⟨_, Or.inl ⟨rfl, fun w => rfl⟩, ?_⟩
            intro K hK
            go_simp
            (go_at_call 25; (with_reducible refine Calls.mono (SL _ (KI _).out (HA _).out ((HB _).out.cell 0) ((HC _).out.cell 0)).out ?_); rintro e w2 ⟨rfl, k2, o2⟩; have lm2 := Blk.only LM.out o2 NL.out; have x0 : w2.cell? ⟨wr.heap.size, 0, none⟩ = some (.int .i64 m.q) := lm2.cell 0; have x1 := k2.cells.1; rw [EVV.out] at x1; obtain ⟨g2, off2, cp2, ew, y0, -, -, -, -⟩ := k2.master HMB.out; rw [EVV.out] at ew; injection ew with ew1 ew2 ew3; injection ew1 with ew1; injection ew1 with ew4 ew5 ew6; subst ew4 ew5; have K2 := Lib.hid k2; have O2 := Lib.hid ((OA _).out.trans o2 (fun _ _ h => h)); have HA2 := Lib.hid (Blk.only (HA _).out o2 NA.out); have HB2 := Lib.hid (Blk.only (HB _).out o2 NB.out); have HC2 := Lib.hid (Blk.only (HC _).out o2 NC.out); clear k2 o2 lm2 ew2 ew3 ew6)
            refine hK _ _ ?_
            clear hK K
            unfold restW
            repeat (go_big_quiet_step (fail))
            refine wpQuiet_nil ?_
            intro _ hw'
            obtain ⟨nq, rfl⟩ := hw'
            all_goals
              go_wp2_with fail
              go_roundw
              case rel => exact ⟨i + 1, by go_num, by omega, by rw [ES2.out], by rw [ES2.out]; exact K2.out.drewN _, O2.out.drewN _, HA2.out, HB2.out, HC2.out⟩
              case measure => simp [intOf]; omega
    · have hi2 : ¬ (i : Int) < B.L.length := by omega
      obtain rfl : i = B.L.length := by omega
      have KI := Lib.hid kI
      have OI := Lib.hid oI
      clear kI oI ha hb hc ES
      go_wp2_with fail
      go_ret
      rw [HBQ.out, HMQ.out]
      exact ⟨rfl, KI.out, OI.out⟩
end Go.Proofs.Ytbfhohcimomphaa
