/- The contracts of layer 14 (spor): a budget is a block of four cells and the row of the times when units come back. -/
import Derived.Test.YthfnaeppolgpaaaTick
import Derived.Test.YthfnaeppolgpaaaSlc
import Derived.Deep.QuietTactic
import Derived.BigQuiet
import Derived.StillTailTactics
import Derived.Deep.RegionLaw
import Derived.BigRegion
namespace Go.Proofs.Ythfnaeppolgpaaa
open Go.RowKit
set_option linter.unusedVariables false
set_option linter.unusedSimpArgs false

/-- A budget: the server's budget and period, when units come back, the time. -/
structure Bs where
  u : Int
  p : Int
  back : List Int
  now : Int
structure Bs.ok (s : Bs) : Prop where
  u0 : 1 ≤ s.u
  u1 : s.u ≤ 200
  p0 : s.u ≤ s.p
  p1 : s.p ≤ 1099511627776
  len : (s.back.length : Int) ≤ s.u
  n0 : 0 ≤ s.now
  n1 : s.now < 4611686018427387904
  el : ∀ x ∈ s.back, 0 ≤ x ∧ x ≤ s.now + s.p
  sorted : s.back.Pairwise (· ≤ ·)
/-- The budget in memory; 'tight': its row has no spare room. -/
def IsB (w : World) (b : Nat) (s : Bs) (tight : Bool) : Prop :=
  ∃ v, Blk w b 51 [.int .i64 s.u, .int .u64 s.p, v, .int .u64 s.now] ∧ Slc w 22 1 v s.back.length (s.back.map (Value.int .u64)) ∧ (tight = true → ∀ A c, v = .slice A s.back.length c → c = s.back.length)

def leftB (now : Int) (s : Bs) : (Int × Int) × Bs :=
  if 4611686018427387904 ≤ now then ((0, 2), s) else if now < s.now then ((0, 1), s) else
    ((s.u - ((s.back.dropWhile (· ≤ now)).length : Int), 0), { s with back := s.back.dropWhile (· ≤ now), now := now })

/-- How many are back by now: the least place that isn't. -/
theorem dropWhile_at (l : List Int) (now : Int) (k : Nat) (hk : k ≤ l.length) (h : ∀ j (hj : j < k), l[j]'(by omega) ≤ now) (hl : ∀ hj : k < l.length, now < l[k]) : l.dropWhile (· ≤ now) = l.drop k := by
  induction l generalizing k with
  | nil => simp
  | cons a l ih =>
    cases k with
    | zero => have := hl (by simp); simp at this; rw [List.dropWhile_cons_of_neg (by simp; omega)]; simp
    | succ k =>
      have h0 := h 0 (by omega)
      simp at h0
      rw [List.dropWhile_cons_of_pos (by simpa using h0)]
      simp only [List.drop_succ_cons]
      exact ih k (by simp at hk; omega) (fun j hj => by have := h (j + 1) (by omega); simpa using this) (fun hj => by have := hl (by simp; omega); simpa using this)

section
variable {w : World} {b : Nat} {s : Bs} {t : Bool}
set_option maxHeartbeats 1000000 in
theorem left_any (k : IsB w b s t) (ok : s.ok) (now : Int) (hn : 0 ≤ now) (hn' : now ≤ 18446744073709551615) :
    Calls Try.prog 14 #[.pointer (some ⟨b, 0, none⟩), .int .u64 now] w fun e w' => e = .returned (.tuple #[.int .i64 (leftB now s).1.1, .int .i64 (leftB now s).1.2]) ∧ IsB w' b (leftB now s).2 (t || (leftB now s).1.2 == 0) ∧ Only (· = b) w w' := by
  have K := Lib.hid k
  obtain ⟨v, kb, ks, kt⟩ := k
  have k3 : w.cell? ⟨b, 3, none⟩ = some (.int .u64 s.now) := kb.cell 3
  have l3 : w.frozen? ⟨b, 3, none⟩ = false := kb.free 3
  by_cases z1 : 4611686018427387904 ≤ now
  · have e : leftB now s = ((0, 2), s) := by unfold leftB; rw [if_pos z1]
    rw [e]
    have z3 : decide (now < 4611686018427387904) = false := decide_eq_false (by omega)
    clear e kb ks kt
    go_enter Try.func14, Try.ntmps14
    go_wp2_with (go_at_call 16; refine (may_any _ _).mono ?_; rintro e w' ⟨rfl, rfl⟩)
    go_ret2
    exact ⟨rfl, by simpa using K.out, Only.refl _ _⟩
  · have z3 : decide (now < 4611686018427387904) = true := decide_eq_true (by omega)
    have z4 : now < 4611686018427387904 := by omega
    by_cases z2 : now < s.now
    · have e : leftB now s = ((0, 1), s) := by unfold leftB; rw [if_neg z1, if_pos z2]
      rw [e]
      clear e kb ks kt
      go_enter Try.func14, Try.ntmps14
      go_wp2_with (go_at_call 16; refine (may_any _ _).mono ?_; rintro e w' ⟨rfl, rfl⟩)
      go_ret2
      exact ⟨rfl, by simpa using K.out, Only.refl _ _⟩
    · have e : leftB now s = ((s.u - ((s.back.dropWhile (· ≤ now)).length : Int), 0), { s with back := s.back.dropWhile (· ≤ now), now := now }) := by unfold leftB; rw [if_neg z1, if_neg z2]
      have E := Lib.hid e
      clear e
      have k0 : w.cell? ⟨b, 0, none⟩ = some (.int .i64 s.u) := kb.cell 0
      have k2 : w.cell? ⟨b, 2, none⟩ = some v := kb.cell 2
      have l2 : w.frozen? ⟨b, 2, none⟩ = false := kb.free 2
      obtain ⟨A, cap, hv, hnc⟩ := ks.shape
      subst hv
      have KB := Lib.hid kb
      have KS := Lib.hid ks
      have OK := Lib.hid ok
      have hu0 := ok.u0
      have hu1 := ok.u1
      have hlen200 : s.back.length ≤ 200 := by have := ok.len; have := ok.u1; omega
      clear kb ks kt ok
      go_enter Try.func14, Try.ntmps14
      go_wp2_with (go_at_call 16; refine (may_any _ _).mono ?_; rintro e w' ⟨rfl, rfl⟩)
      go_loop [6] (fun jv => ∃ j : Nat, jv = .int .i64 j ∧ j ≤ s.back.length ∧ Hid (∀ i (hi : i < s.back.length), i < j → s.back[i] ≤ now)) (fun jv => (s.back.length - intOf jv).toNat)
      case atStart => exact ⟨0, rfl, by omega, fun i hi h => absurd h (by omega)⟩
      case round =>
        obtain ⟨j, rfl, hj, hall⟩ := hrel
        by_cases hjl : j < s.back.length
        · obtain ⟨gk, off, c', hv', -, -, -, hx, -⟩ := KS.out.at_ (by omega)
          simp only [Value.slice.injEq] at hv'
          obtain ⟨rfl, -, rfl⟩ := hv'
          have hxj : w.cell? ⟨gk, off + j, none⟩ = some (.int .u64 (s.back[j])) := hx j _ (by simp [hjl])
          have hne : gk ≠ b := fun e => Slc.ne KS.out KB.out (by decide) (by rw [← e]; rfl)
          by_cases hle : s.back[j] ≤ now
          · have hall' : Hid (∀ i (hi : i < s.back.length), i < j + 1 → s.back[i] ≤ now) := fun i hi h => by
              rcases Nat.lt_or_ge i j with h' | h'
              · exact hall.out i hi h'
              · have : i = j := by omega
                subst this; exact hle
            clear hx hall
            generalize s.back[j] = x at *
            go_wp2_with fail
            go_round
            case rel => exact ⟨j + 1, by go_num, by omega, hall'⟩
            case measure => simp [intOf]; omega
          · have hend := dropWhile_at s.back now j hj (fun i hi => hall.out i (by omega) hi) (fun _ => by omega)
            have HE := Lib.hid hend
            have HX := Lib.hid hx
            clear hx hall hend
            generalize s.back[j] = x at *
            go_wp2_with fail
            go_region
            go_wp2_with fail
            go_quiet (fail)
            go_wp2_with fail
            go_ret2
            rw [E.out, HE.out]
            have hl : (s.back.drop j).length = s.back.length - j := List.length_drop
            refine ⟨ret2 (by simp only [hl]) rfl, ⟨_, ((KB.out.put 3 _).put 2 _).drew.drewN _, ?_, fun _ A c hv => ?_⟩, ((Only.setCell (Only.setCell (Only.refl (· = b) w) (p := ⟨b, 3, none⟩) (fun _ => rfl) _) (p := ⟨b, 2, none⟩) (fun _ => rfl) _).drew).drewN _⟩
            · have h1 := Slc.drop (KS.out.clip (Nat.le_refl _) hnc) rfl (show j ≤ s.back.length by omega)
              rw [if_neg (by omega)] at h1
              have h2 : Slc w 22 1 (.slice (some ⟨gk, off + j, none⟩) (s.back.length - j) (s.back.length - j)) (s.back.drop j).length ((s.back.drop j).map (Value.int .u64)) := by
                rw [hl]
                simpa [Addr.add_lit, List.map_drop] using h1
              exact ((h2.far (p := ⟨b, 3, none⟩) (fun e => hne (by injection e)) _).far (p := ⟨b, 2, none⟩) (fun e => hne (by injection e)) _).drew.drewN _
            · simp only [Value.slice.injEq] at hv
              rw [← hv.2.2, hl]
        · have hj' : j = s.back.length := by omega
          subst hj'
          have hend := dropWhile_at s.back now s.back.length (Nat.le_refl _) (fun i hi => hall.out i (by omega) hi) (fun h => absurd h (by omega))
          rw [List.drop_length] at hend
          have HE := Lib.hid hend
          clear hall hend hj hjl
          go_wp2_with fail
          go_region
          go_wp2_with fail
          go_quiet (fail)
          go_wp2_with fail
          go_ret2
          rw [E.out, HE.out]
          have nb : (Value.slice A 0 0).ownBlock ≠ some b := by
            have := Slc.ne KS.out KB.out (by decide)
            cases A with
            | none => simp [Value.ownBlock]
            | some a => exact this
          refine ⟨ret2 (by simp) rfl, ⟨_, ((KB.out.put 3 _).put 2 _).drew.drewN _, ?_, fun _ A c hv => ?_⟩, ((Only.setCell (Only.setCell (Only.refl (· = b) w) (p := ⟨b, 3, none⟩) (fun _ => rfl) _) (p := ⟨b, 2, none⟩) (fun _ => rfl) _).drew).drewN _⟩
          · have h1 := Slc.drop (KS.out.clip (Nat.le_refl _) hnc) rfl (Nat.le_refl s.back.length)
            rw [if_pos rfl] at h1
            have h2 : Slc w 22 1 (.slice A 0 0) ([] : List Int).length (([] : List Int).map (Value.int .u64)) := by
              simp only [Nat.mul_one, ← List.map_drop, List.drop_length, Nat.sub_self] at h1
              exact h1
            exact ((h2.far (p := ⟨b, 3, none⟩) nb _).far (p := ⟨b, 2, none⟩) nb _).drew.drewN _
          · simp only [Value.slice.injEq] at hv
            rw [← hv.2.2]; rfl

theorem leftB_err {now : Int} {s : Bs} : (leftB now s).1.2 ≠ 0 → (leftB now s).1.1 = 0 := by
  unfold leftB; split
  · intro _; rfl
  · split
    · intro _; rfl
    · intro h; exact absurd rfl h
theorem leftB_ok {s : Bs} (ok : s.ok) (now : Int) (hn : 0 ≤ now) : (leftB now s).2.ok := by
  unfold leftB
  split
  · exact ok
  · split
    · exact ok
    · have hsub : (s.back.dropWhile (· ≤ now)).Sublist s.back := List.dropWhile_sublist _
      exact ⟨ok.u0, ok.u1, ok.p0, ok.p1, by have := hsub.length_le; have := ok.len; simp only; omega, hn, by simp only; omega,
        fun x hx => by have := ok.el x (hsub.subset hx); simp only; omega, ok.sorted.sublist hsub⟩
/-- Use: whether a unit is there, which is used. -/
def useB (now : Int) (s : Bs) : (Bool × Int) × Bs :=
  if (leftB now s).1.1 = 0 then ((false, (leftB now s).1.2), (leftB now s).2) else ((true, 0), { (leftB now s).2 with back := (leftB now s).2.back ++ [now + s.p] })
theorem info64 : (Try.prog.info? 22).map (fun i => (i.zero, i.size, i.bytes)) = some (some (.int .u64 0), 1, 8) := by kernel_rfl
theorem leftB_p (now : Int) (s : Bs) : (leftB now s).2.p = s.p := by unfold leftB; split <;> (try split) <;> rfl

set_option maxRecDepth 100000 in
set_option maxHeartbeats 4000000 in
theorem use_any (k : IsB w b s t) (ok : s.ok) (now : Int) (hn : 0 ≤ now) (hn' : now ≤ 18446744073709551615) :
    Calls Try.prog 10 #[.pointer (some ⟨b, 0, none⟩), .int .u64 now] w fun e w' => e = .returned (.tuple #[.bool (useB now s).1.1, .int .i64 (useB now s).1.2]) ∧ IsB w' b (useB now s).2 false ∧ Only (· = b) w w' := by
  have c := left_any k ok now hn hn'
  have ok1 := leftB_ok ok now hn
  have hp := leftB_p now s
  have he := leftB_err (now := now) (s := s)
  by_cases z : (leftB now s).1.1 = 0
  · have e : useB now s = ((false, (leftB now s).1.2), (leftB now s).2) := by unfold useB; rw [if_pos z]
    rw [e]
    rw [z] at c
    have C := Lib.hid c
    clear c e z he hp ok1 k ok
    go_enter Try.func10, Try.ntmps10
    go_wp2_with (go_at_call 14; (with_reducible refine Calls.mono C.out ?_); rintro e w1 ⟨rfl, k1, o1⟩)
    go_ret2
    refine ⟨rfl, ?_, o1⟩
    obtain ⟨v, h1, h2, _⟩ := k1
    exact ⟨v, h1, h2, fun h => by cases h⟩
  · have hnow : now < 4611686018427387904 := by
      apply Classical.byContradiction
      intro h
      exact z (by unfold leftB; rw [if_pos (by omega)])
    have e0 : (leftB now s).1.2 = 0 := by
      rcases Int.lt_trichotomy (leftB now s).1.2 0 with h | h | h
      · exact absurd (he (by omega)) z
      · exact h
      · exact absurd (he (by omega)) z
    have e : useB now s = ((true, 0), { (leftB now s).2 with back := (leftB now s).2.back ++ [now + s.p] }) := by unfold useB; rw [if_neg z]
    rw [e]
    rw [e0] at c
    have hp0 := ok.p0
    have hp1 := ok.p1
    have hu0 := ok.u0
    generalize (leftB now s).1.1 = n at *
    generalize (leftB now s).2 = s1 at *
    rw [← hp]
    rw [← hp] at hp1 hp0
    have C := Lib.hid c
    have OK1 := Lib.hid ok1
    have zz : (n == 0) = false := beq_eq_false_iff_ne.2 z
    obtain ⟨i0, hi0, hz0, hz1, hz2⟩ := info_parts info64
    have hlen : s1.back.length ≤ 200 := by have := ok1.len; have := ok1.u1; omega
    clear c e e0 z he hp ok1 k ok
    go_enter Try.func10, Try.ntmps10
    go_wp2_with fail
    refine Calls.mono C.out ?_
    rintro e w1 ⟨rfl, ⟨v, kb, ks, kt⟩, o1⟩
    have c1 : w1.cell? ⟨b, 1, none⟩ = some (.int .u64 s1.p) := kb.cell 1
    have c2 : w1.cell? ⟨b, 2, none⟩ = some v := kb.cell 2
    have hb := kb.lt
    have hfull := kt (by simp)
    have KB := Lib.hid kb
    have KS := Lib.hid ks
    have FULL := Lib.hid hfull
    have NB := Lib.hid (Slc.ne ks kb (by decide))
    clear kb ks kt hfull
    go_wp2_with fail
    have hsum : IntKind.u64.wrap (now + s1.p) = now + s1.p := IntWalk.u64_in _ (by omega)
    go_region_law ((refine step_append_fresh _ rfl (.tmp 21) (.tmp 29) _ rfl 22 i0 _ 1 8 Try.underlying49 hi0 hz0 hz1 hz2 rfl (by omega) v s1.back.length (s1.back.map (Value.int .u64)) rfl (Slc.drew (Slc.alloc KS.out _)) FULL.out _ 1 1 [.int .u64 (now + s1.p)] (by omega) rfl (Src.drew (Src.one w1 _ _)) (by simp [Value.oneCell']) (by omega) (by simp only [maxLen]; omega) ?_); intro v3 w3 hs3 ho3 hat3; have kb3 := Blk.only (Blk.drew (Blk.alloc KB.out (.cells #[.int .u64 (now + s1.p)] 22))) ho3 (fun h => h); have c32 := kb3.cell 2; simp only [List.getElem?_cons_succ, List.getElem?_cons_zero] at c32; have f32 := kb3.free 2; obtain ⟨A3, cap3, e3, -⟩ := hs3.shape; subst e3; have KB3 := Lib.hid kb3; have HS3 := Lib.hid hs3; have HO3 := Lib.hid ho3; have HAT3 := Lib.hid hat3; clear kb3 hs3 ho3 hat3)
    all_goals
      clear hsum
      go_wp2_with fail
      go_ret2
      have hnb : (Value.slice A3 (s1.back.length + 1) cap3).ownBlock ≠ some b := by
        rw [HAT3.out]; simp; omega
      refine ⟨rfl, ⟨.slice A3 (s1.back.length + 1) cap3, KB3.out.put 2 _, ?_, fun h => by cases h⟩, ?_⟩
      · have h := HS3.out.far (p := ⟨b, 2, none⟩) hnb (.slice A3 (s1.back.length + 1) cap3)
        simpa using h
      · exact Only.setCell ((o1.alloc _).drew.trans HO3.out (fun i hi e => e.elim)) (p := ⟨b, 2, none⟩) (fun _ => rfl) _
end
end Go.Proofs.Ythfnaeppolgpaaa
