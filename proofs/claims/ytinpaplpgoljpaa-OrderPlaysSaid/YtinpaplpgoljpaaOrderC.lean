/- Layer 18 (order): the search in a list that is in order. -/
import Derived.Test.YtinpaplpgoljpaaOrderB
namespace Go.Proofs.Ytinpaplpgoljpaa
open Go.RowKit
set_option linter.unusedVariables false
set_option linter.unusedSimpArgs false
/-- One stands ahead of another one. -/
def ltW (a b : Wt) : Prop := a.dead < b.dead ∨ (a.dead = b.dead ∧ (a.track < b.track ∨ (a.track = b.track ∧ a.id < b.id)))
theorem cmpI_neg {a b : Int} : cmpI a b < 0 ↔ a < b := by unfold cmpI; split; · simp; assumption
                                                          · split <;> simp <;> omega
theorem cmpI_zero {a b : Int} : cmpI a b ≠ 0 ↔ a ≠ b := by
  unfold cmpI
  by_cases h : a < b
  · rw [if_pos h]; omega
  · rw [if_neg h]
    by_cases h2 : b < a
    · rw [if_pos h2]; omega
    · rw [if_neg h2]; omega
theorem cmpW_neg {a b : Wt} : cmpW a b < 0 ↔ ltW a b := by
  unfold cmpW ltW
  by_cases h1 : a.dead = b.dead
  · rw [if_neg (by rw [cmpI_zero]; omega)]
    by_cases h2 : a.track = b.track
    · rw [if_neg (by rw [cmpI_zero]; omega), cmpI_neg]; omega
    · rw [if_pos (by rw [cmpI_zero]; omega), cmpI_neg]; omega
  · rw [if_pos (by rw [cmpI_zero]; omega), cmpI_neg]; omega
theorem ltW_trans {a b c : Wt} (h : ltW a b) (k : ltW b c) : ltW a c := by unfold ltW at *; omega
theorem ltW_irrefl (a : Wt) : ¬ ltW a a := by unfold ltW; omega
theorem ltW_total {a b : Wt} (h : ¬ ltW a b) (hn : a.id ≠ b.id) : ltW b a := by unfold ltW at *; omega
/-- In order, each ahead of all that follow. -/
def Sorted (l : List Wt) : Prop := l.Pairwise ltW
theorem Sorted.lt {l : List Wt} (h : Sorted l) {i j : Nat} {a b : Wt} (ha : l[i]? = some a) (hb : l[j]? = some b) (hij : i < j) : ltW a b := by
  obtain ⟨h1, e1⟩ := List.getElem?_eq_some_iff.1 ha
  obtain ⟨h2, e2⟩ := List.getElem?_eq_some_iff.1 hb
  have := List.pairwise_iff_getElem.1 h i j h1 h2 hij
  rwa [e1, e2] at this
/-- All ahead of p stand ahead of t, none from p on. -/
def Split (l : List Wt) (t : Wt) (p : Nat) : Prop := p ≤ l.length ∧ (∀ (k : Nat) x, k < p → l[k]? = some x → ltW x t) ∧ ∀ (k : Nat) x, p ≤ k → l[k]? = some x → ¬ ltW x t
def RelS (w : World) (l : List Wt) (t : Wt) (n : Nat) (iv jv : Value) (wr : World) : Prop :=
  ∃ i j : Nat, iv = .int .i64 i ∧ jv = .int .i64 j ∧ i ≤ j ∧ j ≤ n ∧ (∀ (k : Nat) x, k < i → l[k]? = some x → ltW x t) ∧ (∀ (k : Nat) x, j ≤ k → l[k]? = some x → ¬ ltW x t) ∧ Below w.heap.size w wr
def SearchPost (w : World) (l : List Wt) (t : Wt) (e : Ending) (w' : World) : Prop :=
  ∃ (p : Nat) (b : Bool), e = .returned (.tuple #[.int .i64 p, .bool b]) ∧ Split l t p ∧ Below w.heap.size w w'
set_option maxRecDepth 100000 in
set_option maxHeartbeats 1000000 in
theorem search_any (w : World) (A : Option Addr) (n c : Nat) (l : List Wt) (hs : Slc w 30 3 (.slice A n c) n (flatW l)) (hn : n ≤ 64) (t : Wt) (so : Sorted l) :
    Calls Try.prog 26 #[.slice A n c, wv t, .func (.func 27) #[] #[]] w (SearchPost w l t) := by
  have HL := Lib.hid hs.wlen
  have HS := Lib.hid hs
  have SO := Lib.hid so
  have bw : Below w.heap.size w (w.alloc (.cells ⟨wc t⟩ 30)) := (Below.refl _ _).alloc (Nat.le_refl _) _
  have BX := Lib.hid (Blk.new w 30 (wc t))
  have BW := Lib.hid bw
  have CM := fun a W => Lib.hid (comp_any a t W)
  clear hs so bw
  obtain ⟨t1, t2, t3⟩ := t
  unfold wv at CM ⊢
  unfold wc at BX BW
  simp only at CM BX BW ⊢
  go_enter Try.func26, Try.ntmps26
  go_wp2_with fail
  go_loopw [9, 10] (fun iv jv wr => Hid (RelS w l ⟨t1, t2, t3⟩ n iv jv wr) ∧ Hid (Blk wr w.heap.size 30 [.int .i64 t1, .int .u64 t2, .int .i64 t3])) (fun iv jv _ => (intOf jv - intOf iv).toNat)
  case atStart => exact ⟨⟨0, n, rfl, rfl, by omega, by omega, fun k x hk => by omega, fun k x hk hx => by have := (List.getElem?_eq_some_iff.1 hx).1; have := HL.out; omega, BW.out⟩, BX.out⟩
  case round =>
    obtain ⟨hr, hbx⟩ := hrel
    obtain ⟨i, j, rfl, rfl, hij, hjn, hlo, hhi, hb⟩ := hr
    have LO := Lib.hid hlo
    have HI := Lib.hid hhi
    have HB := Lib.hid hb
    have BK := hbx
    have b0 : wr.cell? ⟨w.heap.size, 0, none⟩ = some (.int .i64 t1) := hbx.out.cell 0
    have b1 : wr.cell? ⟨w.heap.size, 1, none⟩ = some (.int .u64 t2) := hbx.out.cell 1
    have b2 : wr.cell? ⟨w.heap.size, 2, none⟩ = some (.int .i64 t3) := hbx.out.cell 2
    have bl := hbx.out.lt
    clear hlo hhi hb hbx BX BW
    by_cases hlt : i < j
    · have hlt2 : (i : Int) < j := by omega
      obtain ⟨m, hm⟩ : ∃ m, (i + j) / 2 = m := ⟨_, rfl⟩
      have hmi : i ≤ m := by omega
      have hmj : m < j := by omega
      have hm2 : ((i : Int) + j) / 2 = m := by omega
      have hmn : (m : Int) < n := by omega
      obtain ⟨x, hx⟩ : ∃ x, l[m]? = some x := ⟨_, List.getElem?_eq_getElem (by have := HL.out; omega)⟩
      obtain ⟨g, off, c', ev, -, hgl, c0, c1, c2⟩ := HS.out.wat hx
      simp only [Value.slice.injEq] at ev
      obtain ⟨rfl, -, -⟩ := ev
      have c0 := (HB.out.cell (p := ⟨g, off + m * 3, none⟩) hgl).trans c0
      have c1 := (HB.out.cell (p := ⟨g, off + m * 3 + 1, none⟩) hgl).trans c1
      have c2 := (HB.out.cell (p := ⟨g, off + m * 3 + 2, none⟩) hgl).trans c2
      have HX := Lib.hid hx
      have HM2 := Lib.hid hm2
      clear hx hm hm2
      go_wp2_with fail
      rw [HM2.out]
      obtain ⟨x1, x2, x3⟩ := x
      simp only at c0 c1 c2
      have CX := fun W => Lib.hid ((CM ⟨x1, x2, x3⟩ W).out)
      simp only at CX
      by_cases hc : ltW ⟨x1, x2, x3⟩ ⟨t1, t2, t3⟩
      · have hcn := cmpW_neg.2 hc
        have HC := Lib.hid hc
        generalize cmpW ⟨x1, x2, x3⟩ ⟨t1, t2, t3⟩ = cc at *
        have d1 : decide (cc < 0) = true := decide_eq_true hcn
        clear hc hcn CM
        go_region_with (go_at_call 27; (with_reducible refine Calls.mono (CX _).out ?_); rintro e w5 ⟨rfl, b5⟩; have B5 := Lib.hid b5; clear b5)
        all_goals
          go_wp2_with fail
          have bb := Below.trans ((Below.refl wr.heap.size wr).drew) B5.out
          refine ⟨⟨⟨m + 1, j, by go_num, rfl, by omega, hjn, fun k y hk hy => ?_, HI.out, Below.next HB.out bb⟩, BK.out.below bb BK.out.lt⟩, by simp [intOf]; omega⟩
          by_cases e : k = m
          · subst e
            have := HX.out
            rw [hy] at this
            injection this with this
            rw [this]; exact HC.out
          · exact ltW_trans (SO.out.lt hy HX.out (by omega)) HC.out
      · have hcn : ¬ cmpW ⟨x1, x2, x3⟩ ⟨t1, t2, t3⟩ < 0 := fun h => hc (cmpW_neg.1 h)
        have HC := Lib.hid hc
        generalize cmpW ⟨x1, x2, x3⟩ ⟨t1, t2, t3⟩ = cc at *
        have d1 : decide (cc < 0) = false := decide_eq_false hcn
        clear hc hcn CM
        go_region_with (go_at_call 27; (with_reducible refine Calls.mono (CX _).out ?_); rintro e w5 ⟨rfl, b5⟩; have B5 := Lib.hid b5; clear b5)
        all_goals
          go_wp2_with fail
          have bb := Below.trans ((Below.refl wr.heap.size wr).drew) B5.out
          refine ⟨⟨⟨i, m, rfl, rfl, hmi, by omega, LO.out, fun k y hk hy => ?_, Below.next HB.out bb⟩, BK.out.below bb BK.out.lt⟩, by simp [intOf]; omega⟩
          by_cases e : k = m
          · subst e
            have := HX.out
            rw [hy] at this
            injection this with this
            rw [this]; exact HC.out
          · exact fun h2 => HC.out (ltW_trans (SO.out.lt HX.out hy (by omega)) h2)
    · obtain rfl : i = j := by omega
      have hlt2 : ¬ (i : Int) < i := by omega
      have SP : Hid (Split l ⟨t1, t2, t3⟩ i) := ⟨by have := HL.out; omega, LO.out, HI.out⟩
      by_cases hin : i < n
      · have hin2 : (i : Int) < n := by omega
        obtain ⟨x, hx⟩ : ∃ x, l[i]? = some x := ⟨_, List.getElem?_eq_getElem (by have := HL.out; omega)⟩
        obtain ⟨g, off, c', ev, -, hgl, c0, c1, c2⟩ := HS.out.wat hx
        simp only [Value.slice.injEq] at ev
        obtain ⟨rfl, -, -⟩ := ev
        have c0 := (HB.out.cell (p := ⟨g, off + i * 3, none⟩) hgl).trans c0
        have c1 := (HB.out.cell (p := ⟨g, off + i * 3 + 1, none⟩) hgl).trans c1
        have c2 := (HB.out.cell (p := ⟨g, off + i * 3 + 2, none⟩) hgl).trans c2
        clear hx
        have e1 : decide ((i : Int) < n) = true := decide_eq_true hin2
        have e1' : decide (i < n) = true := decide_eq_true hin
        obtain ⟨x1, x2, x3⟩ := x
        simp only at c0 c1 c2
        have CX := fun W => Lib.hid ((CM ⟨x1, x2, x3⟩ W).out)
        simp only at CX
        generalize cmpW ⟨x1, x2, x3⟩ ⟨t1, t2, t3⟩ = cc at *
        have hgl' := Nat.lt_of_lt_of_le hgl HB.out.size
        have s0 := SubW.cell c0 hgl'
        have s1 := SubW.cell c1 hgl'
        have s2 := SubW.cell c2 hgl'
        have s3 := SubW.cell b0 bl
        have s4 := SubW.cell b1 bl
        have s5 := SubW.cell b2 bl
        clear CM LO HI SO HS
        go_wp2_with fail
        refine wp_region_sub (by kernel_rfl) (by kernel_rfl) ?_
        repeat (go_big_quiet_step ((go_at_call 27; exact sub_call _ (CX _).out)))
        refine wpQuiet_nil ?_
        intro _ hw'
        obtain ⟨⟨w5, hw5⟩, rfl⟩ := hw'
        have B5 := Lib.hid (Below.next HB.out hw5)
        clear s0 s1 s2 s3 s4 s5 hw5
        go_wp2_with fail
        go_ret2
        exact ⟨i, _, rfl, SP.out, B5.out⟩
      · obtain rfl : i = n := by omega
        have hin2 : ¬ (i : Int) < i := by omega
        have e1 : decide ((i : Int) < i) = false := decide_eq_false hin2
        have e1' : decide (i < i) = false := decide_eq_false (by omega)
        go_wp2_with fail
        go_quiet (fail)
        go_wp2_with fail
        go_ret2
        exact ⟨i, _, rfl, SP.out, Below.drewN' HB.out _⟩
end Go.Proofs.Ytinpaplpgoljpaa
