/- CoalOnce: each raise is fired once, at most hold ticks behind it, as the time goes on tick by tick; a gatherer never has as many as count. No condition. -/
import Derived.Test.YtppkpelpdmkgjaaCoalAwake
import Derived.Test.YtppkpelpdmkgjaaSlc
import Derived.Test.YtppkpelpdmkgjaaArgs
import Derived.Test.YtppkpelpdmkgjaaArg
import Derived.Test.YtppkpelpdmkgjaaRows
import Derived.ProofKit
import Derived.OpenShut
import Derived.ShutString
import Derived.ChangeOld
import Derived.Below
import Derived.SizedLaws
namespace Go.Proofs.Ytppkpelpdmkgjaa
open Go.ChangeShapes Go.WideShapes Go.ChangeAt Go.RowKit
open Go.ChangeMaps (open_string shut_string)
set_option linter.unusedVariables false
set_option linter.unusedSimpArgs false
namespace coalOnce
/-- What holds at a tick's beginning: ts are the times of the raises that wait. -/
structure Head (c h T : Int) (ts : List Int) (g : Gs) : Prop where
  ok : g.ok
  hc : g.c = c
  hh : g.h = h
  len : (ts.length : Int) = g.n
  t : g.t ≤ T
  win : ∀ x ∈ ts, T - x ≤ h ∧ x ≤ T ∧ 0 ≤ x
  fst : ∀ x, ts[0]? = some x → x = g.f
  ge : ∀ x ∈ ts, g.f ≤ x
/-- Within a tick: n of ts were fired. -/
structure Mid (c h T : Int) (ts : List Int) (n : Nat) (g : Gs) : Prop where
  ok : g.ok
  hc : g.c = c
  hh : g.h = h
  le : n ≤ ts.length
  len : ((ts.drop n).length : Int) = g.n
  t : g.t = T
  win : ∀ x ∈ ts, T - x ≤ h ∧ x ≤ T ∧ 0 ≤ x
  fst : ∀ x, (ts.drop n)[0]? = some x → x = g.f
  ge : ∀ x ∈ ts.drop n, g.f ≤ x
  due : g.n ≠ 0 → T < g.f + h
theorem go_step {c h T : Int} {ts : List Int} {g : Gs} (s : Head c h T ts g) (h0 : 0 ≤ T) (h1 : T ≤ 300) (hh : h ≤ 40) : ∃ (n : Nat) (g1 : Gs), goF T g = (((n : Int), 0), g1) ∧ Mid c h T ts n g1 := by
  obtain ⟨ok, sc, sh, sl, st, sw, sf, sg⟩ := s
  have okr := goF_ok ok T h0
  unfold goF at okr ⊢
  rw [if_neg (by omega), if_neg (by omega)] at okr ⊢
  by_cases y : g.n = 0
  · have e : lateF { g with t := T } = (0, { g with t := T }) := by unfold lateF; rw [if_pos (.inl y)]
    rw [e] at okr ⊢
    have hts : ts = [] := List.eq_nil_of_length_eq_zero (by omega)
    subst hts
    exact ⟨0, _, rfl, ⟨okr, sc, sh, by simp, by simp [y], rfl, sw, fun x hx => by simp at hx, fun x hx => by simp at hx, fun hn => absurd y hn⟩⟩
  · by_cases z : T < g.f + g.h
    · have e : lateF { g with t := T } = (0, { g with t := T }) := by unfold lateF; rw [if_pos (.inr (.inr z))]
      rw [e] at okr ⊢
      exact ⟨0, _, rfl, ⟨okr, sc, sh, by simp, by simpa using sl, rfl, sw, fun x hx => sf x (by simpa using hx), fun x hx => sg x (by simpa using hx), fun _ => by simp only; omega⟩⟩
    · have hf := ok.f1
      have e : lateF { g with t := T } = (g.n, { g with t := T, n := 0 }) := by unfold lateF; rw [if_neg (by simp only; omega)]
      rw [e] at okr ⊢
      have hd : ts.drop ts.length = [] := List.drop_length
      exact ⟨ts.length, _, by rw [sl], ⟨okr, sc, sh, Nat.le_refl _, by simp, rfl, sw, fun x hx => by simp at hx, fun x hx => by simp at hx, fun hn => absurd rfl hn⟩⟩
theorem raise_step {c h T : Int} {ts : List Int} {n : Nat} {g : Gs} (s : Mid c h T ts n g) (h0 : 0 ≤ T) (h1 : T ≤ 300) (hh : 0 ≤ h) (hh' : h ≤ 40) : ∃ (m : Nat) (g1 : Gs), raiseF T g = (((m : Int), 0), g1) ∧ Mid c h T (ts ++ [T]) (n + m) g1 := by
  obtain ⟨ok, sc, sh, sle, sl, st, sw, sf, sg, sd⟩ := s
  have okr := raiseF_ok ok T h0
  have e1 : lateF { g with t := T } = (0, { g with t := T }) := by
    unfold lateF
    by_cases y : g.n = 0
    · rw [if_pos (.inl y)]
    · rw [if_pos (.inr (.inr (by have := sd y; simp only; omega)))]
  have hw : ∀ x ∈ ts ++ [T], T - x ≤ h ∧ x ≤ T ∧ 0 ≤ x := by
    intro x hx
    rcases List.mem_append.1 hx with hx | hx
    · exact sw x hx
    · simp at hx; subst hx; omega
  have hld : (ts.drop n).length = ts.length - n := List.length_drop
  have hdr : (ts ++ [T]).drop n = ts.drop n ++ [T] := List.drop_append_of_le_length sle
  unfold raiseF at okr ⊢
  rw [if_neg (by omega), if_neg (by omega), e1] at okr ⊢
  simp only at okr ⊢
  by_cases y : g.n + 1 = g.c ∨ g.h = 0
  · have e2 : doF T { g with t := T } = (g.n + 1, { g with t := T, n := 0, f := if g.n = 0 then T else g.f }) := by unfold doF; rw [if_pos y]
    rw [e2] at okr ⊢
    have hm : n + (ts.length - n + 1) = (ts ++ [T]).length := by simp; omega
    have hd : (ts ++ [T]).drop (n + (ts.length - n + 1)) = [] := by rw [hm, List.drop_length]
    refine ⟨ts.length - n + 1, { g with t := T, n := 0, f := if g.n = 0 then T else g.f }, ?_, ⟨okr, sc, sh, by omega, by rw [hd]; rfl, rfl, hw, fun x hx => by rw [hd] at hx; simp at hx, fun x hx => by rw [hd] at hx; simp at hx, fun hn => absurd rfl hn⟩⟩
    have : ((ts.length - n + 1 : Nat) : Int) = g.n + 1 := by omega
    rw [this]; simp
  · have e2 : doF T { g with t := T } = (0, { g with t := T, n := g.n + 1, f := if g.n = 0 then T else g.f }) := by unfold doF; rw [if_neg y]
    rw [e2] at okr ⊢
    refine ⟨0, { g with t := T, n := g.n + 1, f := if g.n = 0 then T else g.f }, by simp, ⟨okr, sc, sh, by simp; omega, ?_, rfl, hw, ?_, ?_, ?_⟩⟩
    · rw [Nat.add_zero, hdr]; simp; omega
    · intro x hx
      rw [Nat.add_zero, hdr] at hx
      simp only
      by_cases z : g.n = 0
      · have : ts.drop n = [] := List.eq_nil_of_length_eq_zero (by omega)
        rw [this] at hx; simp at hx; rw [if_pos z]; exact hx.symm
      · have hp : 0 < (ts.drop n).length := by omega
        rw [List.getElem?_append_left hp] at hx
        rw [if_neg z]; exact sf x hx
    · intro x hx
      rw [Nat.add_zero, hdr] at hx
      simp only
      by_cases z : g.n = 0
      · have : ts.drop n = [] := List.eq_nil_of_length_eq_zero (by omega)
        rw [this] at hx; simp at hx; rw [if_pos z]; omega
      · rw [if_neg z]
        rcases List.mem_append.1 hx with hx | hx
        · exact sg x hx
        · simp at hx; subst hx
          have hp : 0 < (ts.drop n).length := by omega
          have hm := List.getElem_mem hp
          have := sg _ hm
          have h2 := sw _ (List.mem_of_mem_drop hm)
          omega
    · intro _
      simp only
      by_cases z : g.n = 0
      · rw [if_pos z]; omega
      · rw [if_neg z]; exact sd z
theorem end_step {c h T : Int} {ts : List Int} {n : Nat} {g : Gs} (s : Mid c h T ts n g) : Head c h (T + 1) (ts.drop n) g ∧ ((ts.drop n).length : Int) < c ∧ ∀ x, (ts.drop n)[0]? = some x → T - x < h := by
  obtain ⟨ok, sc, sh, sle, sl, st, sw, sf, sg, sd⟩ := s
  refine ⟨⟨ok, sc, sh, sl, by omega, fun x hx => ?_, sf, sg⟩, by have := ok.n1; omega, fun x hx => ?_⟩
  · have hp : 0 < (ts.drop n).length := List.length_pos_of_mem hx
    have h1 := sd (by omega)
    have h2 := sg x hx
    have h3 := sw x (List.mem_of_mem_drop hx)
    omega
  · have hp : 0 < (ts.drop n).length := by
      rcases Nat.eq_zero_or_pos (ts.drop n).length with h | h
      · rw [List.eq_nil_of_length_eq_zero h] at hx; simp at hx
      · exact h
    have h1 := sd (by omega)
    have h2 := sf x hx
    omega
def TS (w : World) (v : Value) (ts : List Int) : Prop := Slc w 3 1 v ts.length (ts.map (Value.int .i64))
def RelT (w : World) (b : Nat) (c h : Int) (vv tv : Value) (wr : World) : Prop :=
  ∃ (T : Nat) (ts : List Int) (g : Gs), tv = .int .i64 T ∧ T ≤ 300 ∧ Head c h T ts g ∧ TS wr vv ts ∧ (∀ k, vv.ownBlock = some k → w.heap.size ≤ k) ∧ IsG wr b g ∧ Below w.heap.size w wr
def RelK (w : World) (b : Nat) (c h : Int) (T len0 : Nat) (u : Int) (vv nv kv : Value) (wr : World) : Prop :=
  ∃ (k n : Nat) (ts : List Int) (g : Gs), nv = .int .i64 n ∧ kv = .int .i64 k ∧ (k : Int) ≤ u % 4 ∧ ts.length ≤ len0 + k ∧ Mid c h T ts n g ∧ TS wr vv ts ∧ (∀ k, vv.ownBlock = some k → w.heap.size ≤ k) ∧ IsG wr b g ∧ Below w.heap.size w wr
theorem infoInt : (Try.prog.info? 3).map (fun i => (i.zero, i.size, i.bytes)) = some (some (.int .i64 0), 1, 8) := by kernel_rfl
set_option maxRecDepth 100000 in
set_option maxHeartbeats 8000000 in
theorem walk2 (w : World) (count : Int) (b0 : 0 ≤ count) (b0' : count ≤ 255) (hold : Int) (b1 : 0 ≤ hold) (b1' : hold ≤ 255) (A : Option Addr) (n cap : Nat) (U : Nat → Int) (hA : Hid (IntsAt w .u8 A n U)) (hU : Hid (∀ i, i < n → 0 ≤ U i ∧ U i ≤ 255)) (hn : n ≤ 140737488351232) :
    Calls Try.prog 4 #[.int .u8 count, .int .u8 hold, .slice A n cap] w fun e w' => e = .returned (.bool true) ∧ Below w.heap.size w w' := by
  by_cases hz : n = 0
  · subst hz
    go_enter Try.func4, Try.ntmps4
    go_wp2_with (first
      | (go_at_call 8; (with_reducible refine Calls.mono (awake_any _) ?_); rintro e w0 ⟨rfl, bel0⟩)
      | (go_at_call 9; (with_reducible refine Calls.mono (new_any (1 + count % 20) (hold % 40) _ (by omega) (by omega) (by omega) (by omega)) ?_); rintro e w1 ⟨b, rfl, hb, k1, bel1⟩))
    go_ret
    exact ⟨rfl, Below.next bel0 bel1⟩
  · have hn0 : 0 < n := by omega
    have hnz : ((n : Int) == 0) = false := beq_eq_false_iff_ne.2 (by omega)
    obtain ⟨i0, hi0, hz0, hz1, hz2⟩ := info_parts infoInt
    clear hz
    go_enter Try.func4, Try.ntmps4
    go_wp2_with (first
      | (go_at_call 8; (with_reducible refine Calls.mono (awake_any _) ?_); rintro e w0 ⟨rfl, bel0⟩)
      | (go_at_call 9; (with_reducible refine Calls.mono (new_any (1 + count % 20) (hold % 40) _ (by omega) (by omega) (by omega) (by omega)) ?_); rintro e w1 ⟨b, rfl, hb, k1, bel1⟩))
    have hwb : w.heap.size ≤ b := Nat.le_trans bel0.size hb
    go_loopw [11, 12] (fun vv tv wr => Hid (RelT w b (1 + count % 20) (hold % 40) vv tv wr)) (fun _ tv _ => 300 - (intOf tv).toNat)
    case atStart => exact ⟨0, [], _, rfl, by omega, ⟨g0_ok _ _ (by omega) (by omega) (by omega) (by omega), rfl, rfl, rfl, by simp, fun x hx => by simp at hx, fun x hx => by simp at hx, fun x hx => by simp at hx⟩, Slc.nil _ _ _, fun k hk => by simp [Value.ownBlock] at hk, k1, Below.next bel0 bel1⟩
    case round =>
      obtain ⟨T, ts, g, rfl, hT, st, hts, hown, hg, hbel⟩ := hrel
      by_cases hT3 : T < 300
      · obtain ⟨n0, g1, e1, mid⟩ := go_step st (by omega) (by omega) (by omega)
        have c1 := go_any hg st.ok (T : Int) (by omega) (by omega)
        rw [e1] at c1
        have hlen0 : ts.length ≤ 20 := by have := st.len; have := st.ok.n1; have := st.hc; omega
        have hmod : T % n < n := Nat.mod_lt _ hn0
        obtain ⟨ab, ao, rfl, hab, hc0⟩ := hA.out.at_ hmod
        obtain ⟨u0, u1⟩ := hU.out _ hmod
        generalize hU' : U (T % n) = u at *
        have C1 := Lib.hid c1
        have MID := Lib.hid mid
        have TSS := Lib.hid hts
        have OWN := Lib.hid hown
        have BEL := Lib.hid hbel
        have HC0 := Lib.hid hc0

        have HG := Lib.hid hg
        clear c1 mid hts hown hbel hU' st e1 hg hc0
        go_wp2_with (go_at_call 13; (with_reducible refine Calls.mono C1.out ?_); rintro e w2 ⟨rfl, k2, o2⟩)
        have hbz : ∀ wx, Below w.heap.size w wx → wx.cell? ⟨ab, ao + T % n, none⟩ = some (.int .u8 u) := fun wx hx => (hx.cell (p := ⟨ab, ao + T % n, none⟩) hab).trans HC0.out
        have HBZ := Lib.hid hbz
        clear hbz
        go_loopw [11, 13, 15] (fun vv nv kv wr => Hid (RelK w b (1 + count % 20) (hold % 40) T ts.length u vv nv kv wr)) (fun _ _ kv _ => (u % 4 - intOf kv).toNat)
        case atStart =>
          have nb : ¬ (u11.ownBlock = some b) := Slc.ne TSS.out HG.out (by decide)
          exact ⟨0, n0, ts, g1, rfl, rfl, by omega, Nat.le_refl _, MID.out, Slc.only TSS.out o2 (fun x hx e => nb (by rw [hx, e])), OWN.out, k2, Below.only BEL.out o2 hwb⟩
        case round =>
          obtain ⟨k, nn, ts2, g2, rfl, rfl, hk, hlen2, mid2, hts2, hown2, hg2, hbel2⟩ := hrel
          have hcell := HBZ.out _ hbel2
          have hle2 := mid2.le
          have TS2 := Lib.hid hts2
          have OWN2 := Lib.hid hown2
          have BEL2 := Lib.hid hbel2
          have HG2 := Lib.hid hg2
          by_cases hku : (k : Int) < u % 4
          · clear hts2 hown2 hg2 hbel2
            obtain ⟨m, g3, e3, mid3⟩ := raise_step mid2 (by omega) (by omega) (by omega) (by omega)
            have c3 := fun W (kk : IsG W b g2) => raise_any kk mid2.ok (T : Int) (by omega) (by omega)
            rw [e3] at c3
            have C3 := fun W kk => Lib.hid (c3 W kk)
            have MID3 := Lib.hid mid3
            have hlen3 := mid3.le
            have hlen4 : (ts2 ++ [(T : Int)]).length = ts2.length + 1 := by simp
            clear c3 mid2 mid3 e3
            go_wp2_with (at_builtin; refine wpList_append_slc _ rfl (.tmp 72) (.tmp 74) _ rfl 3 i0 _ 1 8 Try.underlying43 hi0 hz0 hz1 hz2 rfl (by omega) _ ts2.length (ts2.map (Value.int .i64)) rfl (Slc.alloc TS2.out _) (some ⟨wr.heap.size, 0, none⟩) 1 1 [.int .i64 T] rfl (Src.one wr 3 _) (by simp [Value.oneCell']) (by omega) (by simp only [maxLen]; omega) ?_)
            intro v3 w3 hs3 ho3 hat3
            have hwr : w.heap.size ≤ wr.heap.size := BEL2.out.size
            have kG3 := Blk.only (Blk.alloc HG2.out (.cells #[.int .i64 T] 3)) ho3 (Slc.ne TS2.out HG2.out (by decide))
            have own3 : ∀ k, v3.ownBlock = some k → w.heap.size ≤ k := by
              intro k hk
              rcases hat3 with h | h <;> rw [h] at hk
              · exact OWN2.out k hk
              · simp at hk; omega
            have bel3 : Below w.heap.size w w3 := Below.onlyF (BEL2.out.alloc hwr _) ho3 (fun i hi => OWN2.out i hi)
            have hs4 : TS w3 v3 (ts2 ++ [(T : Int)]) := by
              have h := hs3
              show Slc w3 3 1 v3 (ts2 ++ [(T : Int)]).length ((ts2 ++ [(T : Int)]).map (Value.int .i64))
              simpa using h
            have C4 := C3 w3 kG3
            have KG3 := Lib.hid kG3
            have OWN3 := Lib.hid own3
            have BEL3 := Lib.hid bel3
            have HS4 := Lib.hid hs4
            clear hs3 ho3 hat3 kG3 own3 bel3 hs4
            go_wp2_with (go_at_call 11; (with_reducible refine Calls.mono C4.out ?_); rintro e w4 ⟨rfl, k4, o4⟩)
            go_roundw
            case rel => exact ⟨k + 1, nn + m, ts2 ++ [(T : Int)], g3, by go_num, by go_num, by omega, by omega, MID3.out, Slc.only HS4.out o4 (fun x hx e => Slc.ne HS4.out KG3.out (by decide) (by rw [hx, e])), OWN3.out, k4, Below.only BEL3.out o4 hwb⟩
            case measure => simp [intOf]; omega
          · obtain ⟨hd, hlc, hw⟩ := end_step mid2
            obtain ⟨A2, cap2, hv, hnc⟩ := Slc.shape hts2
            subst hv
            have hok := mid2.ok
            have hlen5 : (ts2.drop nn).length = ts2.length - nn := List.length_drop
            clear hbel2 hg2 hown2
            have HTS2 := Lib.hid hts2
            have MID2 := Lib.hid mid2
            have HD := Lib.hid hd
            have HW := Lib.hid hw
            have hlen6 : ts2.length ≤ 24 := by omega
            clear hts2 mid2 hd hw
            go_wp2_with fail
            clear hcell
            go_loop [18] (fun jv => ∃ j : Nat, jv = .int .i64 j ∧ j ≤ nn) (fun jv => (nn - intOf jv).toNat)
            case atStart => exact ⟨0, rfl, by omega⟩
            case round =>
              obtain ⟨j, rfl, hj⟩ := hrel
              by_cases hjn : j < nn
              · obtain ⟨gk, off, c', hv', -, -, -, hx, -⟩ := HTS2.out.at_ (by omega)
                simp only [Value.slice.injEq] at hv'
                obtain ⟨rfl, -, rfl⟩ := hv'
                have hjl : j < ts2.length := by omega
                have hxj : wr.cell? ⟨gk, off + j, none⟩ = some (.int .i64 (ts2[j])) := hx j _ (by simp [hjl])
                have hwin := MID2.out.win _ (List.getElem_mem hjl)
                clear hx
                generalize ts2[j] = x at *
                obtain ⟨w1', w2', w3'⟩ := hwin
                go_wp2_with fail
                go_round
                case rel => exact ⟨j + 1, by go_num, by omega⟩
                case measure => simp [intOf]; omega
              · have H := fun W (kk : IsG W b g2) => Lib.hid (has_any kk)
                have hgn : g2.n = ((ts2.length - nn : Nat) : Int) := by have := HD.out.len; omega
                rw [hgn] at H
                rw [hlen5] at hlc
                have hjn' : j = nn := by omega
                subst hjn'
                clear hjn hj hgn
                by_cases hcap : cap2 = j
                · have hall : ts2.length = j := by omega
                  have hnil : ts2.drop j = [] := List.eq_nil_of_length_eq_zero (by omega)
                  rw [show ts2.length - j = 0 by omega] at H
                  have HALL := Lib.hid hall
                  have HNIL := Lib.hid hnil
                  have hTS : Hid (TS wr (.slice A2 0 0) []) := by
                    have := Slc.drop HTS2.out rfl hle2
                    rw [if_pos hcap, show ts2.length - j = 0 by omega, show cap2 - j = 0 by omega] at this
                    simp only [Nat.mul_one, ← List.map_drop, hnil] at this
                    exact this
                  have hA : ts2.length - j = 0 := by omega
                  subst hcap
                  rw [hall] at *
                  clear hall hnil hA
                  go_wp2_with (go_at_call 17; (with_reducible refine Calls.mono (H _ HG2.out).out ?_); rintro e w' ⟨rfl, rfl⟩)
                  go_roundw
                  case rel => exact ⟨T + 1, [], g2, by go_num, by omega, by have := HD.out; rw [HNIL.out] at this; simpa using this, hTS.out, fun k hk => OWN2.out k (by cases A2 with
                    | none => simp [Value.ownBlock] at hk
                    | some a => exact hk), HG2.out, BEL2.out⟩
                  case measure => simp [intOf]; omega
                · have hTS0 := HTS2.out
                  rcases hTS0.2 with ⟨hv', h0⟩ | ⟨gk, off, c', cs', hv', -⟩
                  · simp only [Value.slice.injEq] at hv'
                    omega
                  · simp only [Value.slice.injEq] at hv'
                    obtain ⟨rfl, -, rfl⟩ := hv'
                    have hTS : Hid (TS wr (.slice (some ⟨gk, off + j, none⟩) (ts2.length - j) (cap2 - j)) (ts2.drop j)) := by
                      have := Slc.drop hTS0 rfl hle2
                      rw [if_neg hcap] at this
                      show Slc wr 3 1 _ (ts2.drop j).length ((ts2.drop j).map (Value.int .i64))
                      rw [hlen5]
                      simpa [Addr.add_lit, List.map_drop] using this
                    clear hTS0
                    by_cases hpos : ts2.length - j = 0
                    · have HP := Lib.hid hpos
                      rw [hpos] at H
                      have hnn : ts2.length = j := by omega
                      go_wp2_with (go_at_call 17; (with_reducible refine Calls.mono (H _ HG2.out).out ?_); rintro e w' ⟨rfl, rfl⟩)
                      go_roundw
                      case rel => exact ⟨T + 1, ts2.drop j, g2, by go_num, by omega, by have := HD.out; simpa using this, by first | exact hTS.out | (have := hTS.out; rwa [HP.out] at this), OWN2.out, HG2.out, BEL2.out⟩
                      case measure => simp [intOf]; omega
                    · have hjl : j < ts2.length := by omega
                      obtain ⟨gk', off', c'', hv'', -, -, -, hx, -⟩ := HTS2.out.at_ (by omega)
                      simp only [Value.slice.injEq, Option.some.injEq, Addr.mk.injEq] at hv''
                      obtain ⟨⟨rfl, rfl, -⟩, -, rfl⟩ := hv''
                      have hxj : wr.cell? ⟨gk, off + j, none⟩ = some (.int .i64 (ts2[j])) := hx j _ (by simp [hjl])
                      have hwin := MID2.out.win _ (List.getElem_mem hjl)
                      have hfire := HW.out (ts2[j]) (by rw [List.getElem?_drop]; simp [hjl])
                      clear hx
                      generalize ts2[j] = x at *
                      obtain ⟨w1', w2', w3'⟩ := hwin
                      have hpos' : 0 < ts2.length - j := by omega
                      have hlc' : ((ts2.length - j : Nat) : Int) < 1 + count % 20 := hlc
                      go_wp2_with (go_at_call 17; (with_reducible refine Calls.mono (H _ HG2.out).out ?_); rintro e w' ⟨rfl, rfl⟩)
                      go_roundw
                      case rel => exact ⟨T + 1, ts2.drop j, g2, by go_num, by omega, by have := HD.out; simpa using this, hTS.out, OWN2.out, HG2.out, BEL2.out⟩
                      case measure => simp [intOf]; omega
      · go_wp2_with fail
        go_ret
        exact ⟨rfl, hbel⟩
theorem walk (w : World) (count : Int) (w0 : (Lit.int .u8 count).wf = true) (hold : Int) (w1 : (Lit.int .u8 hold).wf = true) (A : Option Addr) (n cap : Nat) (D : Nat → List Value) (w2 : Elems w [some .u8] A n D) (hl : n * 1 ≤ 140737488351232) :
    Calls Try.prog 4 #[.int .u8 count, .int .u8 hold, .slice A n cap] w fun e w' => e = .returned (.bool true) ∧ Below w.heap.size w w' := by
  obtain ⟨b0, b0'⟩ := bounds_u8 w0
  obtain ⟨b1, b1'⟩ := bounds_u8 w1
  obtain ⟨U, hU, hw⟩ := ints_of w2
  exact walk2 w count b0 b0' hold b1 b1' A n cap U hU (fun i hi => bounds_u8 (hw i hi)) (by omega)
end coalOnce
namespace coalOnce
theorem own : ownKnob Try.prog.godebug = none := by kernel_rfl
set_option maxRecDepth 100000 in
theorem lifted (os : Os) (started : os.Started) (H : Type) (enc : TypeId × Value → H) :
    ReturnsInHanded {} Try.checked os 4 .any (Rows.coalOnceSpec.pre6 enc Try.prog Try.f4 Rows.coalOnceRow.domain false) (Rows.coalOnceSpec.post enc Try.prog Try.f4 false true false false) := by
  refine returnsInHanded_of_change_sized (C := Try.checked) own started (by kernel_rfl) Try.func4
    (ChangeSpec.witness6 (enc := enc) (C := Try.checked) false ⟨#[], #[.int .u8 0, .int .u8 0, .slice none 0 0], []⟩ 8 (by kernel_rfl) (by kernel_rfl) (by kernel_rfl) (by kernel_rfl)) ?_
  intro W base args ds gs before hval0 hW hcnd hsz0 _
  have hsz : (DataW.weightsEach Try.prog (Try.f4.params.toList ++ Rows.coalOnceSpec.plain.varTypes Try.prog) (ds ++ gs)).all (· ≤ reachBytes) = true := hsz0
  have hval : ∀ (j : Nat) t v, Try.f4.params[j]? = some t → args[j]? = some v → Value.okWide Try.prog W .any base t v := hval0
  have hW' := hW
  obtain ⟨p, q, hA0, hV, rfl, hfz, hnd⟩ := hW
  have hA : DataW.TrodAll enc Try.prog W 0 (fun _ => true) true Try.f4.params.toList args.toList ds p := hA0
  rw [Try.params4] at hA hval hsz
  obtain ⟨v0, vs0, d0, ds0, p0, q0, hargs, rfl, rfl, h0, r0⟩ := trodAll_cons hA
  obtain ⟨v1, vs1, d1, ds1, p1, q1, rfl, rfl, rfl, h1, r1⟩ := trodAll_cons r0
  obtain ⟨v2, vs2, d2, ds2, p2, q2, rfl, rfl, rfl, h2, r2⟩ := trodAll_cons r1
  obtain ⟨rfl, rfl, rfl⟩ := trodAll_nil r2
  obtain rfl : args = #[v0, v1, v2] := by cases args; simp_all
  obtain ⟨rfl, rfl⟩ := trodVars_none hV
  obtain ⟨a0, rfl, w0⟩ := arg_one Try.underlying5 (hval 0 5 v0 rfl rfl) h0
  obtain ⟨a1, rfl, w1⟩ := arg_one Try.underlying5 (hval 1 5 v1 rfl rfl) h1
  obtain ⟨A2, n2, cap2, D2, rfl, w2, m2, z2⟩ := arg_slice [some .u8] Try.underlying42 6 (by kernel_rfl) (by kernel_rfl) (hval 2 42 v2 rfl rfl) h2
  have l2 : n2 * Try.prog.bytesOf 5 ≤ reachBytes := by
    rcases z2 with ⟨_, e⟩ | ⟨es, sp, e, el⟩
    · subst e; simp
    · subst e; subst el; exact Nat.le_trans (Nat.mul_le_mul_right _ (Nat.le_add_right _ _)) (sized_slice hsz (j := 2) (t := 42) (e := 5) rfl rfl Try.underlying42)
  have b2 : Try.prog.bytesOf 5 = 1 := by kernel_rfl
  rw [b2] at l2
  simp only [reachBytes] at l2
  clear z2 b2
  clear hA0 hval0 hsz0 hsz
  refine (walk W a0 w0 a1 w1 A2 n2 cap2 D2 w2 l2).mono fun e W' ⟨he, bel⟩ => ?_
  subst he
  exact ⟨_, rfl, _, _, _, [], _, [], hW', trodAll_mk1 (shut_bool Try.underlying4 _), (trodAll_cons_mk (Below.trod laidOut (by kernel_rfl) (of_decide_eq_true (by kernel_rfl)) h0 bel (fun x hx => by simpa using hW'.lt x (by simp [hx]))) (trodAll_cons_mk (Below.trod laidOut (by kernel_rfl) (of_decide_eq_true (by kernel_rfl)) h1 bel (fun x hx => by simpa using hW'.lt x (by simp [hx]))) (trodAll_cons_mk (Below.trod laidOut (by kernel_rfl) (of_decide_eq_true (by kernel_rfl)) h2 bel (fun x hx => by simpa using hW'.lt x (by simp [hx]))) trodAll_mk0))), rfl, bel.frame _, fun h => by cases h⟩
theorem over : Rows.coalOnceRow.holds Try.pinned (OpenSpec.ofChange Rows.coalOnceSpec) :=
  OpenClaim.holds_of_wide 4 Try.f4 rfl rfl rfl rfl rfl rfl rfl ⟨rfl, rfl, rfl, rfl, rfl⟩ rfl rfl rfl rfl rfl (by kernel_rfl) Try.func4 (by kernel_rfl)
    (of_decide_eq_true (by kernel_rfl)) (by unfold Func.isWrapper; first | (rw [if_pos (by decide +kernel)]; kernel_rfl) | (rw [if_neg (by decide +kernel)]; exact ⟨rfl, rfl⟩))
    (fun os started H enc _ => lifted os started H enc)
end coalOnce
theorem coalOnce_holds : Rows.CoalOnceSaid := coalOnce.over
#print axioms coalOnce_holds
end Go.Proofs.Ytppkpelpdmkgjaa
