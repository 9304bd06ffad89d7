/- Layer 18 (order): the document's queue in memory; May, find, Add of it. -/
import Derived.Test.YtinpaplpgoljpaaOrderArg
import Derived.Test.YtinpaplpgoljpaaRZone
namespace Go.Proofs.Ytinpaplpgoljpaa
open Go.RowKit
set_option linter.unusedVariables false
set_option linter.unusedSimpArgs false
/-- The document's queue: requests as they came. -/
structure IsR (w : World) (R : Qp) (l : List Wt) (h : Int) (d : Bool) : Prop where
  blk : Blk w R.q 45 [R.v, .int .i64 h, .bool d]
  row : Slc w 30 3 R.v l.length (flatW l)
  len : l.length ≤ 64
section
variable {w w' : World} {R : Qp} {l : List Wt} {h : Int} {d : Bool} {F : Nat → Prop}
theorem IsR.lt (k : IsR w R l h d) {g : Nat} (hg : R.all g) : g < w.heap.size := hg.elim (fun e => e ▸ k.blk.lt) (fun e => k.row.lt e)
theorem IsR.only (k : IsR w R l h d) (o : Only F w w') (hF : ∀ g, F g → ¬ R.all g) : IsR w' R l h d := ⟨k.blk.only o fun f => hF _ f (.inl rfl), k.row.only o fun g hg f => hF _ f (.inr hg), k.len⟩
theorem IsR.below (k : IsR w R l h d) (o : Below w.heap.size w w') : IsR w' R l h d := ⟨k.blk.below o k.blk.lt, k.row.below o fun g hg => k.row.lt hg, k.len⟩
theorem IsR.alloc (k : IsR w R l h d) (o : Obj) : IsR (w.alloc o) R l h d := k.below ((Below.refl _ _).alloc (Nat.le_refl _) _)
theorem IsR.drewN (k : IsR w R l h d) (n : Nat) : IsR (w.drewN n) R l h d := ⟨k.blk.drewN n, k.row.drewN n, k.len⟩
theorem IsR.drew (k : IsR w R l h d) : IsR w.drew R l h d := ⟨k.blk.drew, k.row.drew, k.len⟩
end
def StepR (w w' : World) (R : Qp) (l : List Wt) (h : Int) (d : Bool) : Prop := ∃ v', IsR w' ⟨R.q, v'⟩ l h d ∧ Only R.all w w' ∧ ∀ g, v'.ownBlock = some g → R.v.ownBlock = some g ∨ w.heap.size ≤ g
theorem StepR.same {w w' : World} {R : Qp} {l : List Wt} {h : Int} {d : Bool} (k : IsR w R l h d) (b : Below w.heap.size w w') : StepR w w' R l h d := ⟨R.v, k.below b, Only.of_below b, fun g hg => .inl hg⟩
theorem rtmay_any (t : Int) (w : World) : Calls Try.prog 33 #[.int .u64 t] w fun e w' => e = .returned (.bool (decide (t < 4611686018427387904))) ∧ w' = w := by
  have E : decide (t ≤ 4611686018427387903) = decide (t < 4611686018427387904) := decide_eq_decide.2 (by omega)
  have EH := Lib.hid E
  clear E
  go_enter Try.func33, Try.ntmps33
  go_wp2_with fail
  go_ret
  exact ⟨retb EH.out, rfl⟩
set_option maxHeartbeats 1000000 in
theorem rmayw_any (x : Wt) (w : World) : Calls Try.prog 18 #[wv x] w fun e w' => e = .returned (.bool (mayW x)) ∧ Below w.heap.size w w' := by
  obtain ⟨a, b, c⟩ := x
  unfold wv
  simp only
  have T := fun W => Lib.hid (rtmay_any b W)
  have fin : ∀ n, Below w.heap.size w ((w.alloc (.cells #[.int .i64 a, .int .u64 b, .int .i64 c] 30)).drewN n) := fun n => Below.drewN' ((Below.refl _ _).alloc (Nat.le_refl _) _) n
  have FIN := Lib.hid fin
  clear fin
  have go : ∀ r : Bool, (mayW ⟨a, b, c⟩ = r) → Hid (mayW ⟨a, b, c⟩ = r) := fun r h => h
  by_cases h1 : 0 ≤ a
  · have d1 : decide (0 ≤ a) = true := decide_eq_true h1
    by_cases h2 : a < 65536
    · have d2 : decide (a < 65536) = true := decide_eq_true h2
      by_cases h3 : b < 4611686018427387904
      · have d3 : decide (b < 4611686018427387904) = true := decide_eq_true h3
        rw [d3] at T
        by_cases h4 : 0 ≤ c
        · have d4 : decide (0 ≤ c) = true := decide_eq_true h4
          by_cases h5 : c ≤ 1048576
          · have d5 : decide (c ≤ 1048576) = true := decide_eq_true h5
            have E := go true (decide_eq_true ⟨h1, by show a ≤ 65535; omega, h3, h4, h5⟩)
            (clear go; go_enter Try.func18, Try.ntmps18; go_wp2_with (go_at_call 33; (with_reducible refine Calls.mono (T _).out ?_); rintro e w' ⟨rfl, rfl⟩); go_ret; exact ⟨retb E.out.symm, FIN.out 0⟩)
          · have d5 : decide (c ≤ 1048576) = false := decide_eq_false h5
            have E := go false (decide_eq_false fun h => h5 h.2.2.2.2)
            (clear go; go_enter Try.func18, Try.ntmps18; go_wp2_with (go_at_call 33; (with_reducible refine Calls.mono (T _).out ?_); rintro e w' ⟨rfl, rfl⟩); go_ret; exact ⟨retb E.out.symm, FIN.out 0⟩)
        · have d4 : decide (0 ≤ c) = false := decide_eq_false h4
          have E := go false (decide_eq_false fun h => h4 h.2.2.2.1)
          (clear go; go_enter Try.func18, Try.ntmps18; go_wp2_with (go_at_call 33; (with_reducible refine Calls.mono (T _).out ?_); rintro e w' ⟨rfl, rfl⟩); go_ret; exact ⟨retb E.out.symm, FIN.out 0⟩)
      · have d3 : decide (b < 4611686018427387904) = false := decide_eq_false h3
        rw [d3] at T
        have E := go false (decide_eq_false fun h => h3 h.2.2.1)
        (clear go; go_enter Try.func18, Try.ntmps18; go_wp2_with (go_at_call 33; (with_reducible refine Calls.mono (T _).out ?_); rintro e w' ⟨rfl, rfl⟩); go_ret; exact ⟨retb E.out.symm, FIN.out 0⟩)
    · have d2 : decide (a < 65536) = false := decide_eq_false h2
      have E := go false (decide_eq_false fun h => h2 (by have := h.2.1; simp only at this; omega))
      (clear go; go_enter Try.func18, Try.ntmps18; go_wp2_with (go_at_call 33; (with_reducible refine Calls.mono (T _).out ?_); rintro e w' ⟨rfl, rfl⟩); go_ret; exact ⟨retb E.out.symm, FIN.out 0⟩)
  · have d1 : decide (0 ≤ a) = false := decide_eq_false h1
    have E := go false (decide_eq_false fun h => h1 h.1)
    (clear go; go_enter Try.func18, Try.ntmps18; go_wp2_with (go_at_call 33; (with_reducible refine Calls.mono (T _).out ?_); rintro e w' ⟨rfl, rfl⟩); go_ret; exact ⟨retb E.out.symm, FIN.out 0⟩)
def RelF (n : Nat) (id : Int) (l : List Wt) (iv : Value) : Prop := ∃ i : Nat, iv = .int .i64 i ∧ i ≤ n ∧ (∀ (j : Nat) y, j < i → l[j]? = some y → (fun x : Wt => x.id == id) y = false)
set_option maxHeartbeats 1000000 in
theorem rfind_any {w : World} {R : Qp} {l : List Wt} {h : Int} {d : Bool} (k : IsR w R l h d) (id : Int) :
    Calls Try.prog 32 #[.pointer (some ⟨R.q, 0, none⟩), .int .i64 id] w fun e w' => e = .returned (.int .i64 (idxB (fun x => x.id == id) l)) ∧ w' = w := by
  have c0 : w.cell? ⟨R.q, 0, none⟩ = some R.v := k.blk.cell 0
  have hq := k.blk.lt
  obtain ⟨A, c, ev, -⟩ := k.row.shape
  have hs := k.row
  rw [ev] at c0 hs
  have HS := Lib.hid hs
  have hn := k.len
  obtain ⟨n, hnl⟩ : ∃ n, n = l.length := ⟨_, rfl⟩
  rw [← hnl] at c0 hn
  have HL := Lib.hid hnl
  clear k ev hs hnl
  go_enter Try.func32, Try.ntmps32
  go_wp2_with fail
  go_loop [5] (fun iv => Hid (RelF n id l iv)) (fun iv => (n - intOf iv).toNat)
  case atStart => exact ⟨0, rfl, by omega, fun j y hj => by omega⟩
  case round =>
    obtain ⟨i, rfl, hi, hno⟩ := hrel
    have NO := Lib.hid hno
    clear hno
    by_cases hin : i < n
    · have hin2 : (i : Int) < n := by omega
      obtain ⟨x, hx⟩ : ∃ x, l[i]? = some x := ⟨_, List.getElem?_eq_getElem (by have := HL.out; omega)⟩
      obtain ⟨g, off, c', ev, -, hlt, k0, k1, k2⟩ := HS.out.wat hx
      simp only [Value.slice.injEq] at ev
      obtain ⟨rfl, -, -⟩ := ev
      have HX := Lib.hid hx
      clear hx k1 k2
      by_cases hp : x.id = id
      · have f1 : (x.id == id) = true := beq_iff_eq.2 hp
        have RR := Lib.hid (idxB_at (P := fun x => x.id == id) HX.out f1 NO.out)
        clear hp
        go_wp2_with fail
        go_ret
        exact ⟨ret1 RR.out.symm, rfl⟩
      · have f1 : (x.id == id) = false := beq_eq_false_iff_ne.2 hp
        have NO2 := Lib.hid (fun (j : Nat) (y : Wt) (hj : j < i + 1) (hy : l[j]? = some y) => show (fun x : Wt => x.id == id) y = false from by
          by_cases e : j = i
          · subst e
            have := HX.out
            rw [hy] at this
            injection this with this
            rw [this]; exact f1
          · exact NO.out j y (by omega) hy)
        have g1 : IntKind.i64.wrap ((i : Int) + 1) = i + 1 := IntWalk.i64_in _ (by omega)
        clear hp
        go_wp2_with fail
        go_round
        case rel => exact ⟨i + 1, by go_num, by omega, NO2.out⟩
        case measure => simp [intOf]; omega
    · obtain rfl : i = n := by omega
      have hin2 : ¬ (i : Int) < i := by omega
      have RR := Lib.hid (idxB_no (P := fun x => x.id == id) (l := l) (fun j y hy => NO.out j y (by have := (List.getElem?_eq_some_iff.1 hy).1; have := HL.out; omega) hy))
      go_wp2_with fail
      go_ret
      exact ⟨ret1 RR.out.symm, rfl⟩
def addR (l : List Wt) (t : Wt) : Int × List Wt := if mayW t = true then (if idxB (fun x => x.id == t.id) l ≥ 0 then (7, l) else if l.length ≥ 64 then (4, l) else (0, l ++ [t])) else (1, l)
theorem srcW {w : World} {g : Nat} {t : TypeId} {cs : List Value} (k : Blk w g t cs) {size m : Nat} (h : cs.length = m * size) : Src w size (some ⟨g, 0, none⟩) m cs := by
  refine ⟨h, .inr ⟨_, rfl, fun j u hu => ?_⟩⟩
  have e : (⟨g, 0, none⟩ : Addr).add j = ⟨g, j, none⟩ := by cases j <;> simp [Addr.add]
  rw [e, k.cell j]
  exact hu
/-- The cells that Add's last line reads. -/
def SR (r B : Nat) (v : Value) (h : Int) (d : Bool) (a b c : Int) (W : World) : Prop := Blk W r 45 [v, .int .i64 h, .bool d] ∧ Blk W B 30 [.int .i64 a, .int .u64 b, .int .i64 c]
theorem SR.only {r B : Nat} {v : Value} {h : Int} {d : Bool} {a b c : Int} {w w' : World} {F : Nat → Prop} (s : SR r B v h d a b c w) (o : Only F w w') (h1 : ¬ F r) (h2 : ¬ F B) : SR r B v h d a b c w' := ⟨s.1.only o h1, s.2.only o h2⟩
theorem SR.alloc {r B : Nat} {v : Value} {h : Int} {d : Bool} {a b c : Int} {w : World} (s : SR r B v h d a b c w) (o : Obj) : SR r B v h d a b c (w.alloc o) := ⟨s.1.alloc o, s.2.alloc o⟩
theorem add_step {w w2 w' : World} {R : Qp} {l l' : List Wt} {h : Int} {d : Bool} {A : Option Addr} {n c : Nat} (k : IsR w R l h d) (b : Below w.heap.size w w2) (hn : n = l'.length) (hl : l'.length ≤ 64)
    (hs : Slc w' 30 3 (.slice A n c) n (flatW l')) (ho : Only (fun g => R.v.ownBlock = some g) w2 w') (ha : (Value.slice A n c).ownBlock = R.v.ownBlock ∨ ∃ g, (Value.slice A n c).ownBlock = some g ∧ w.heap.size ≤ g) :
    StepR w (w'.setCell ⟨R.q, 0, none⟩ (.slice A n c)) R l' h d := by
  subst hn
  have bq := ((k.below b).blk).only ho (k.row.ne k.blk (by decide))
  refine ⟨.slice A l'.length c, ⟨bq.put 0 _, hs.far (hs.ne bq (by decide)) _, hl⟩, ?_, fun g e => ?_⟩
  · exact ((Only.of_below (F := R.all) b).trans ho (fun i _ e => .inr e)).setCell (fun _ => .inl rfl) _
  · rcases ha with ha | ⟨g', e', hg⟩
    · exact .inl (by rw [← ha]; exact e)
    · rw [e'] at e; injection e with e; exact .inr (by omega)
set_option maxRecDepth 100000 in
set_option maxHeartbeats 2000000 in
theorem radd_any {w : World} {R : Qp} {l : List Wt} {h : Int} {d : Bool} (k : IsR w R l h d) (t : Wt) :
    Calls Try.prog 17 #[.pointer (some ⟨R.q, 0, none⟩), wv t] w fun e w' => e = .returned (.int .i64 (addR l t).1) ∧ StepR w w' R (addR l t).2 h d := by
  have KH := Lib.hid k
  have M := fun W => Lib.hid (rmayw_any t W)
  have bw : Below w.heap.size w (w.alloc (.cells ⟨wc t⟩ 30)) := (Below.refl _ _).alloc (Nat.le_refl _) _
  have BW := Lib.hid bw
  have BX := Lib.hid (Blk.new w 30 (wc t))
  have FI : ∀ W, Hid (Below w.heap.size w W → Calls Try.prog 32 #[.pointer (some ⟨R.q, 0, none⟩), .int .i64 t.id] W fun e w' => e = .returned (.int .i64 (idxB (fun x => x.id == t.id) l)) ∧ w' = W) := fun W b => rfind_any (k.below b) t.id
  have hq := k.blk.lt
  obtain ⟨A, c, ev, -⟩ := k.row.shape
  have EV := Lib.hid ev
  have hlen := k.len
  have AF : Hid (addR l t = if mayW t = true then (if idxB (fun x => x.id == t.id) l ≥ 0 then (7, l) else if l.length ≥ 64 then (4, l) else (0, l ++ [t])) else (1, l)) := rfl
  obtain ⟨ix, hix⟩ : ∃ ix, idxB (fun x => x.id == t.id) l = ix := ⟨_, rfl⟩
  rw [hix] at FI AF
  obtain ⟨mw, hmw⟩ : ∃ mw, mayW t = mw := ⟨_, rfl⟩
  rw [hmw] at M AF
  have T0 := Lib.hid (rfl : t = t)
  clear hix hmw bw ev
  obtain ⟨t1, t2, t3⟩ := t
  unfold wv wc at *
  simp only at FI BW BX M ⊢
  cases mw with
  | false =>
    have AE := Lib.hid (show addR l ⟨t1, t2, t3⟩ = (1, l) from AF.out)
    go_enter Try.func17, Try.ntmps17
    go_wp2_with (first
      | (go_at_call 18; (with_reducible refine Calls.mono (M _).out ?_); rintro e w1 ⟨rfl, b1⟩; have B1 := Lib.hid (Below.next BW.out b1); clear b1))
    go_ret
    rw [AE.out]
    exact ⟨rfl, .same KH.out B1.out⟩
  | true =>
    by_cases hp : ix ≥ 0
    · have d1 : decide (0 ≤ ix) = true := decide_eq_true hp
      have AE := Lib.hid (show addR l ⟨t1, t2, t3⟩ = (7, l) by rw [AF.out, if_pos rfl, if_pos hp])
      clear hp
      go_enter Try.func17, Try.ntmps17
      go_wp2_with (first
        | (go_at_call 18; (with_reducible refine Calls.mono (M _).out ?_); rintro e w1 ⟨rfl, b1⟩; have B1 := Lib.hid (Below.next BW.out b1); have X1 := Lib.hid (BX.out.below b1 BX.out.lt); have x1 := X1.out.cell 0; have xl := X1.out.lt; clear b1)
        | (go_at_call 32; (with_reducible refine Calls.mono ((FI _).out B1.out) ?_); rintro e w2 ⟨rfl, rfl⟩))
      go_ret
      rw [AE.out]
      exact ⟨rfl, .same KH.out B1.out⟩
    · have d1 : decide (0 ≤ ix) = false := decide_eq_false hp
      by_cases hf : 64 ≤ l.length
      · have d2 : decide (64 ≤ (l.length : Int)) = true := decide_eq_true (by omega)
        have AE := Lib.hid (show addR l ⟨t1, t2, t3⟩ = (4, l) by rw [AF.out, if_pos rfl, if_neg hp, if_pos hf])
        clear hp hf
        go_enter Try.func17, Try.ntmps17
        go_wp2_with (first
          | (go_at_call 18; (with_reducible refine Calls.mono (M _).out ?_); rintro e w1 ⟨rfl, b1⟩; have B1 := Lib.hid (Below.next BW.out b1); have X1 := Lib.hid (BX.out.below b1 BX.out.lt); have x1 := X1.out.cell 0; have xl := X1.out.lt; have k1 := KH.out.below B1.out; have r0 := k1.blk.cell 0; have rl := k1.blk.lt; rw [EV.out] at r0; clear b1 k1)
          | (go_at_call 32; (with_reducible refine Calls.mono ((FI _).out B1.out) ?_); rintro e w2 ⟨rfl, rfl⟩))
        go_ret
        rw [AE.out]
        exact ⟨rfl, .same KH.out B1.out⟩
      · have d2 : decide (64 ≤ (l.length : Int)) = false := decide_eq_false (by omega)
        have AE := Lib.hid (show addR l ⟨t1, t2, t3⟩ = (0, l ++ [⟨t1, t2, t3⟩]) by rw [AF.out, if_pos rfl, if_neg hp, if_neg hf])
        clear hp AF
        obtain ⟨i0, hi0, hz0, hz1, hz2⟩ := info_parts infoW
        go_enter Try.func17, Try.ntmps17
        go_wp2_with (first
          | (go_at_call 18; (with_reducible refine Calls.mono (M _).out ?_); rintro e w1 ⟨rfl, b1⟩; have B1 := Lib.hid (Below.next BW.out b1); have X1 := Lib.hid (BX.out.below b1 BX.out.lt); have x1 := X1.out.cell 0; have xl := X1.out.lt; have K1 := Lib.hid (KH.out.below B1.out); have r0 := K1.out.blk.cell 0; have rl := K1.out.blk.lt; rw [EV.out] at r0; clear b1)
          | (go_at_call 32; (with_reducible refine Calls.mono ((FI _).out B1.out) ?_); rintro e w2 ⟨rfl, rfl⟩))
        have hs1 := K1.out.blk
        have hr1 := K1.out.row
        rw [EV.out] at hs1 hr1
        have HSD : Hid (SR R.q w.heap.size (.slice A l.length c) h d t1 t2 t3 w2.drew) := ⟨hs1.drew, X1.out.drew⟩
        have HR := Lib.hid hr1.drew
        have NQ := Lib.hid (hr1.ne hs1 (by decide))
        have NX := Lib.hid (show ¬ (Value.slice A l.length c).ownBlock = some w.heap.size from fun e => by rw [← EV.out] at e; have := KH.out.row.lt e; omega)
        clear hs1 hr1
        refine wp_region_zone (SR R.q w.heap.size (.slice A l.length c) h d t1 t2 t3) (fun j => decide (j < 10)) (by kernel_rfl) ?_
        refine wpAnyZ_move (i := 0) (v := ?_) rfl (by kernel_rfl) (by kernel_rfl) (by kernel_rfl) (fun _ _ _ h => h) (Or.inl ⟨by rfl, ?_⟩) ?_
        (rotate_left 1; (focus (intro W; go_simp; try with_reducible rfl)))
        try simp only [Act.put, List.setIfInBounds_toArray, List.set_cons_zero, List.set_cons_succ, List.getElem_toArray, List.getElem_cons_succ, List.getElem_cons_zero]
        refine wpAnyZ_move (i := 1) (v := ?_) rfl (by kernel_rfl) (by kernel_rfl) (by kernel_rfl) (fun _ _ _ h => h) (Or.inl ⟨by rfl, ?_⟩) ?_
        (rotate_left 1; (focus (intro W; go_simp; try with_reducible rfl)))
        try simp only [Act.put, List.setIfInBounds_toArray, List.set_cons_zero, List.set_cons_succ, List.getElem_toArray, List.getElem_cons_succ, List.getElem_cons_zero]
        refine wpAnyZ_move (i := 2) (v := ?_) rfl (by kernel_rfl) (by kernel_rfl) (by kernel_rfl) (fun _ _ _ h => h) (Or.inl ⟨by rfl, ?_⟩) ?_
        (rotate_left 1; (focus (intro W; go_simp; try with_reducible rfl)))
        try simp only [Act.put, List.setIfInBounds_toArray, List.set_cons_zero, List.set_cons_succ, List.getElem_toArray, List.getElem_cons_succ, List.getElem_cons_zero]
        refine wpAnyZ_move (i := 3) (v := ?_) rfl (by kernel_rfl) (by kernel_rfl) (by kernel_rfl) (fun _ _ _ h => h) (Or.inl ⟨by rfl, ?_⟩) ?_
        (rotate_left 1; (focus (intro W; go_simp; try with_reducible rfl)))
        try simp only [Act.put, List.setIfInBounds_toArray, List.set_cons_zero, List.set_cons_succ, List.getElem_toArray, List.getElem_cons_succ, List.getElem_cons_zero]
        refine wpAnyZ_take (i := 4) (v := ?_) rfl (by kernel_rfl) (by kernel_rfl) (by kernel_rfl) (by kernel_rfl) (fun _ _ _ h => h) (Or.inl ⟨by rfl, ?_⟩) HSD.out ?_
        (rotate_left 1; (focus (intro W hS; have y0 := hS.1.cell 0; have yl := hS.1.lt; go_simp; try with_reducible rfl)))
        try simp only [Act.put, List.setIfInBounds_toArray, List.set_cons_zero, List.set_cons_succ, List.getElem_toArray, List.getElem_cons_succ, List.getElem_cons_zero]
        refine wpAnyZ_take (i := 5) (v := ?_) rfl (by kernel_rfl) (by kernel_rfl) (by kernel_rfl) (by kernel_rfl) (fun _ _ _ h => h) (Or.inl ⟨by rfl, ?_⟩) HSD.out ?_
        (rotate_left 1; (focus (intro W hS; have y0 := hS.2.cell 0; have y1 := hS.2.cell 1; have y2 := hS.2.cell 2; have yl := hS.2.lt; go_simp; try with_reducible rfl)))
        try simp only [Act.put, List.setIfInBounds_toArray, List.set_cons_zero, List.set_cons_succ, List.getElem_toArray, List.getElem_cons_succ, List.getElem_cons_zero]
        refine wpAnyZ_one (i := 6) (by kernel_rfl) rfl (fun K hK => ?_)
        go_simp
        refine hK.out _ _ (fun _ _ => HSD.out.alloc _) ?_
        clear hK K
        refine wpAnyZ_one (i := 7) (by kernel_rfl) rfl (fun K hK => ?_)
        refine step_append_slc _ rfl (.tmp 23) (.tmp 25) _ rfl 30 i0 _ 3 24 Try.underlying22 hi0 hz0 hz1 hz2 rfl (by omega) (.slice A l.length c) l.length (flatW l) rfl (HR.out.alloc _) (some ⟨w2.heap.size, 0, none⟩) 1 1 [.int .i64 t1, .int .u64 t2, .int .i64 t3] rfl (srcW (Blk.new w2.drew 30 [.int .i64 t1, .int .u64 t2, .int .i64 t3]) rfl) (by simp [Value.oneCell']) (by omega) (by simp only [maxLen]; omega) ?_
        intro v' w' hs' ho' hat'
        obtain ⟨A4, c4, e4, -⟩ := hs'.shape
        subst e4
        have sr := (HSD.out.alloc (.cells #[.int .i64 t1, .int .u64 t2, .int .i64 t3] 30)).only ho' (fun e => NQ.out e) (fun e => NX.out e)
        have FIN := Lib.hid (add_step (A := A4) (n := l.length + 1) (c := c4) (l' := l ++ [⟨t1, t2, t3⟩]) KH.out ((B1.out.drew).alloc B1.out.size _) (by simp) (by simp; omega) (by rw [flatW_app]; exact hs') (by rw [EV.out]; exact ho') (by rw [EV.out]; exact hat'.imp_right fun e => ⟨_, e, (by have := B1.out.size; simp; omega)⟩))
        have q0 : w'.frozen? ⟨R.q, 0, none⟩ = false := sr.1.free 0
        have q1 := sr.1.cell 0
        have ql := sr.1.lt
        have SRH := Lib.hid sr
        clear hs' ho' hat' sr
        try go_simp
        refine hK.out _ _ (fun _ _ => SRH.out) ?_
        clear hK K
        refine wpAnyZ_move (i := 8) (v := ?_) rfl (by kernel_rfl) (by kernel_rfl) (by kernel_rfl) (fun _ _ _ h => h) (Or.inl ⟨by rfl, ?_⟩) ?_
        (rotate_left 1; (focus (intro W; go_simp; try with_reducible rfl)))
        try simp only [Act.put, List.setIfInBounds_toArray, List.set_cons_zero, List.set_cons_succ, List.getElem_toArray, List.getElem_cons_succ, List.getElem_cons_zero]
        refine wpAnyZ_move (i := 9) (v := ?_) rfl (by kernel_rfl) (by kernel_rfl) (by kernel_rfl) (fun _ _ _ h => h) (Or.inl ⟨by rfl, ?_⟩) ?_
        (rotate_left 1; (focus (intro W; go_simp; try with_reducible rfl)))
        try simp only [Act.put, List.setIfInBounds_toArray, List.set_cons_zero, List.set_cons_succ, List.getElem_toArray, List.getElem_cons_succ, List.getElem_cons_zero]
        refine wpAnyZ_one (i := 10) (by kernel_rfl) rfl (fun K hK => ?_)
        go_simp
        refine hK.out _ _ (fun h => absurd h (by decide)) ?_
        clear hK K
        refine wpAnyZ_done (by kernel_rfl) ?_ _
        go_wp2_with fail
        go_ret
        rw [AE.out]
        exact ⟨rfl, FIN.out⟩
end Go.Proofs.Ytinpaplpgoljpaa
