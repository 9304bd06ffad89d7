/- Layer 18 (order): Add and Drop. -/
import Derived.Test.YtinpaplpgoljpaaOrderE
namespace Go.Proofs.Ytinpaplpgoljpaa
open Go.RowKit
set_option linter.unusedVariables false
set_option linter.unusedSimpArgs false
def insW (t : Wt) : List Wt → List Wt
  | [] => [t]
  | x :: r => if cmpW x t < 0 then x :: insW t r else t :: x :: r
theorem insW_split {t : Wt} : ∀ {l : List Wt} {p : Nat}, Split l t p → l.take p ++ t :: l.drop p = insW t l
  | [], p, h => by simp [insW]
  | x :: r, 0, h => by
    have := h.2.2 0 x (by omega) rfl
    simp only [insW]
    rw [if_neg (fun e => this (cmpW_neg.1 e))]
    rfl
  | x :: r, p + 1, h => by
    have := h.2.1 0 x (by omega) rfl
    simp only [insW]
    rw [if_pos (cmpW_neg.2 this), ← insW_split (l := r) (p := p) ⟨by have := h.1; simp at this; omega, fun k y hk hy => h.2.1 (k + 1) y (by omega) (by simpa using hy), fun k y hk hy => h.2.2 (k + 1) y (by omega) (by simpa using hy)⟩]
    rfl
theorem insW_len (t : Wt) : ∀ l : List Wt, (insW t l).length = l.length + 1
  | [] => rfl
  | x :: r => by
    simp only [insW]
    split
    · simp [insW_len t r]
    · rfl
def addF (l : List Wt) (t : Wt) : Int × List Wt := if mayW t = true then (if idxB (fun x => x.id == t.id) l ≥ 0 then (7, l) else if l.length ≥ 64 then (4, l) else (0, insW t l)) else (1, l)
def dropF (l : List Wt) (id : Int) : Int × List Wt := if idxB (fun x => x.id == id) l < 0 then (6, l) else (0, l.eraseIdx (idxB (fun x => x.id == id) l).toNat)
/-- A step: what is touched, and what comes to be the queue's. -/
def StepQ (w w' : World) (Q : Qp) (l : List Wt) (h : Int) (d : Bool) : Prop := ∃ v', IsQ w' ⟨Q.q, v'⟩ l h d ∧ Only Q.all w w' ∧ ∀ g, v'.ownBlock = some g → Q.v.ownBlock = some g ∨ w.heap.size ≤ g
theorem StepQ.same {w w' : World} {Q : Qp} {l : List Wt} {h : Int} {d : Bool} (k : IsQ w Q l h d) (b : Below w.heap.size w w') : StepQ w w' Q l h d := ⟨Q.v, k.below b, Only.of_below b, fun g hg => .inl hg⟩
theorem ins_done {w W w4 : World} {Q : Qp} {l l' : List Wt} {h : Int} {d : Bool} {A : Option Addr} {n c : Nat} {e : Ending} (k : IsQ w Q l h d) (b : Below w.heap.size w W) (ev : Q.v = .slice A n c) (ip : InsPost W A n c l' e w4) (hl : l'.length ≤ 64) :
    ∃ A' n' c', e = .returned (.slice A' n' c') ∧ Blk w4 Q.q 53 [Q.v, .int .i64 h, .bool d] ∧ StepQ w (w4.setCell ⟨Q.q, 0, none⟩ (.slice A' n' c')) Q l' h d ∧ ∀ m, StepQ w ((w4.drewN m).setCell ⟨Q.q, 0, none⟩ (.slice A' n' c')) Q l' h d := by
  obtain ⟨A', c', rfl, hs, ho, hg⟩ := ip
  rw [← ev] at ho hg
  have hne : Q.v.ownBlock ≠ some Q.q := k.row.ne k.blk (by decide)
  have bq : Blk w4 Q.q 53 [Q.v, .int .i64 h, .bool d] := ((k.below b).blk).only ho hne
  have all : ∀ m, StepQ w ((w4.drewN m).setCell ⟨Q.q, 0, none⟩ (.slice A' l'.length c')) Q l' h d := fun m => by
    have hs2 : Slc (w4.drewN m) 30 3 (.slice A' l'.length c') l'.length (flatW l') := hs.drewN m
    have bq2 := bq.drewN m
    refine ⟨.slice A' l'.length c', ⟨bq2.put 0 _, hs2.far (hs2.ne bq2 (by decide)) _, hl⟩, ?_, fun g e => ?_⟩
    · refine (((Only.of_below (F := Q.all) b).trans ho (fun i _ e => .inr e)).drewN m).setCell (fun _ => .inl rfl) _
    · exact (hg g e).elim .inl (fun e => .inr (by have := b.size; omega))
  exact ⟨_, _, _, rfl, bq, all 0, all⟩
set_option maxRecDepth 100000 in
set_option maxHeartbeats 4000000 in
theorem add_any {w : World} {Q : Qp} {l : List Wt} {h : Int} {d : Bool} (k : IsQ w Q l h d) (so : Sorted l) (t : Wt) :
    Calls Try.prog 11 #[.pointer (some ⟨Q.q, 0, none⟩), wv t] w fun e w' => e = .returned (.int .i64 (addF l t).1) ∧ StepQ w w' Q (addF l t).2 h d := by
  have KH := Lib.hid k
  have M := fun W => Lib.hid (mayw_any t W)
  have PL : ∀ W, Hid (Below w.heap.size w W → Calls Try.prog 25 #[.pointer (some ⟨Q.q, 0, none⟩), .int .i64 t.id] W fun e w' => e = .returned (.int .i64 (idxB (fun x => x.id == t.id) l)) ∧ Below W.heap.size W w') := fun W b => place_any (k.below b) t.id
  have C0 : ∀ W, Below w.heap.size w W → W.cell? ⟨Q.q, 0, none⟩ = some Q.v := fun W b => ((k.below b).blk).cell 0
  have F0 : ∀ W, Below w.heap.size w W → W.frozen? ⟨Q.q, 0, none⟩ = false := fun W b => ((k.below b).blk).free 0
  have hq := k.blk.lt
  have BX := Lib.hid (Blk.new w 30 (wc t))
  have bw : Below w.heap.size w (w.alloc (.cells ⟨wc t⟩ 30)) := (Below.refl _ _).alloc (Nat.le_refl _) _
  have BW := Lib.hid bw
  obtain ⟨A, c, ev, -⟩ := k.row.shape
  have hlen := k.len
  have CS : ∀ W, Hid (Below w.heap.size w W → Calls Try.prog 26 #[.slice A l.length c, wv t, .func (.func 27) #[] #[]] W (SearchPost W l t)) := fun W b => search_any W A l.length c l (by have := (k.below b).row; rwa [ev] at this) hlen t so
  have hI : ∀ W B p, Hid (Below w.heap.size w W → w.heap.size ≤ B → Blk W B 30 (wc t) → l.length ≤ 63 → p ≤ l.length → Calls Try.prog 28 #[.slice A l.length c, .int .i64 (p : Nat), .slice (some ⟨B, 0, none⟩) 1 1] W (InsPost W A l.length c (l.take p ++ t :: l.drop p))) :=
    fun W B p b hB hb hl hp => insert_any W A l.length c p l t B (by have := (k.below b).row; rwa [ev] at this) hl hp hb (fun e => by rw [← ev] at e; have := k.row.lt e; omega)
  rw [ev] at C0
  have IX := (show ∀ t', t' = idxB (fun x => x.id == t.id) l → Hid (t' = idxB (fun x => x.id == t.id) l) from fun _ h => h) _ rfl
  obtain ⟨ix, hix⟩ : ∃ ix, idxB (fun x => x.id == t.id) l = ix := ⟨_, rfl⟩
  have AF : Hid (addF l t = if mayW t = true then (if ix ≥ 0 then (7, l) else if l.length ≥ 64 then (4, l) else (0, insW t l)) else (1, l)) := by show _ = _; rw [← hix]; rfl
  rw [hix] at PL
  have SP : Hid (∀ p, Split l t p → l.take p ++ t :: l.drop p = insW t l) := fun p hp => insW_split hp
  have T := Lib.hid (rfl : t = t)
  have EV := Lib.hid ev
  clear k so IX hix ev
  obtain ⟨mw, hmw⟩ : ∃ mw, mayW t = mw := ⟨_, rfl⟩
  rw [hmw] at M AF
  clear hmw
  cases mw with
  | false =>
    obtain ⟨t1, t2, t3⟩ := t
    unfold wv at *
    unfold wc at *
    simp only at *
    have AE := Lib.hid (show addF l ⟨t1, t2, t3⟩ = (1, l) from AF.out)
    go_enter Try.func11, Try.ntmps11
    go_wp2_with (go_at_call 14; (with_reducible refine Calls.mono (M _).out ?_); rintro e w1 ⟨rfl, b1⟩; have B1 := Lib.hid (Below.next BW.out b1); clear b1)
    go_ret
    rw [AE.out]
    exact ⟨rfl, .same KH.out B1.out⟩
  | true =>
    by_cases hp : ix ≥ 0
    · have d1 : decide (0 ≤ ix) = true := decide_eq_true hp
      have AE := Lib.hid (show addF l t = (7, l) by rw [AF.out, if_pos rfl, if_pos hp])
      obtain ⟨t1, t2, t3⟩ := t
      unfold wv at *
      unfold wc at *
      simp only at *
      clear hp
      go_enter Try.func11, Try.ntmps11
      go_wp2_with (first
        | (go_at_call 14; (with_reducible refine Calls.mono (M _).out ?_); rintro e w1 ⟨rfl, b1⟩; have B1 := Lib.hid (Below.next BW.out b1); have X1 := Lib.hid (BX.out.below b1 BX.out.lt); have x1 := X1.out.cell 0; clear b1)
        | (go_at_call 25; (with_reducible refine Calls.mono ((PL _).out B1.out) ?_); rintro e w2 ⟨rfl, b2⟩; have B2 := Lib.hid (Below.next B1.out b2); clear b2))
      go_ret
      rw [AE.out]
      exact ⟨rfl, .same KH.out B2.out⟩
    · have d1 : decide (0 ≤ ix) = false := decide_eq_false hp
      by_cases hf : 64 ≤ l.length
      · have d2 : decide (64 ≤ (l.length : Int)) = true := decide_eq_true (by omega)
        have AE := Lib.hid (show addF l t = (4, l) by rw [AF.out, if_pos rfl, if_neg hp, if_pos hf])
        obtain ⟨t1, t2, t3⟩ := t
        unfold wv at *
        unfold wc at *
        simp only at *
        clear hp hf
        go_enter Try.func11, Try.ntmps11
        go_wp2_with (first
          | (go_at_call 14; (with_reducible refine Calls.mono (M _).out ?_); rintro e w1 ⟨rfl, b1⟩; have B1 := Lib.hid (Below.next BW.out b1); have X1 := Lib.hid (BX.out.below b1 BX.out.lt); have x1 := X1.out.cell 0; clear b1)
          | (go_at_call 25; (with_reducible refine Calls.mono ((PL _).out B1.out) ?_); rintro e w2 ⟨rfl, b2⟩; have B2 := Lib.hid (Below.next B1.out b2); have c0 := C0 _ B2.out; have X2 := Lib.hid (X1.out.below b2 X1.out.lt); clear b2))
        go_ret
        rw [AE.out]
        exact ⟨rfl, .same KH.out B2.out⟩
      · have d2 : decide (64 ≤ (l.length : Int)) = false := decide_eq_false (by omega)
        have AE := Lib.hid (show addF l t = (0, insW t l) by rw [AF.out, if_pos rfl, if_neg hp, if_neg hf])
        have LI : Hid ((insW t l).length ≤ 64) := by
          show _ ≤ _
          rw [insW_len]; omega
        have hl63 : Hid (l.length ≤ 63) := by show _ ≤ _; omega
        obtain ⟨t1, t2, t3⟩ := t
        unfold wv at *
        unfold wc at *
        simp only at *
        clear hp hf
        go_enter Try.func11, Try.ntmps11
        go_wp2_with (first
          | (go_at_call 14; (with_reducible refine Calls.mono (M _).out ?_); rintro e w1 ⟨rfl, b1⟩; have B1 := Lib.hid (Below.next BW.out b1); have X1 := Lib.hid (BX.out.below b1 BX.out.lt); have x1 := X1.out.cell 0; clear b1)
          | (go_at_call 25; (with_reducible refine Calls.mono ((PL _).out B1.out) ?_); rintro e w2 ⟨rfl, b2⟩; have B2 := Lib.hid (Below.next B1.out b2); have c0 := C0 _ B2.out; have X2 := Lib.hid (X1.out.below b2 X1.out.lt); clear b2))
        have x20 := X2.out.cell 0
        have x21 := X2.out.cell 1
        have x22 := X2.out.cell 2
        go_region_with (go_at_call 26; (with_reducible refine Calls.mono ((CS _).out B2.out.drew) ?_); rintro e w3 ⟨p, bb, rfl, sp, b3⟩; have SPL := Lib.hid sp; have SPB := Lib.hid sp.1; have B3 := Lib.hid (Below.next B2.out.drew b3); have X3 := Lib.hid (X2.out.drew.below b3 X2.out.drew.lt); clear sp b3)
        all_goals
          have c3 := C0 _ B3.out
          have x30 := X3.out.cell 0
          have ql3 : Q.q < w3.heap.size := Nat.lt_of_lt_of_le hq B3.out.size
          have xl3 : w.heap.size < w3.heap.size := X3.out.lt
          have x31 := X3.out.cell 1
          have x32 := X3.out.cell 2
          go_wp2_with fail
          go_region_with (go_at_call 28; (with_reducible refine Calls.mono ((hI _ _ p).out (B3.out.alloc B3.out.size _).drew B3.out.size (Blk.new _ _ _).drew hl63.out SPB.out) ?_); rintro e w4 ip; rw [SP.out _ SPL.out] at ip; obtain ⟨A5, n5, c5, rfl, bq, fin, finN⟩ := ins_done KH.out (B3.out.alloc B3.out.size _).drew EV.out ip LI.out; have FIN := Lib.hid fin; have FINN := Lib.hid finN; have q0 : w4.cell? ⟨Q.q, 0, none⟩ = some Q.v := bq.cell 0; have q1 : w4.frozen? ⟨Q.q, 0, none⟩ = false := bq.free 0; have ql := bq.lt; clear ip fin finN bq)
          all_goals
            go_wp2_with fail
            go_ret
            rw [AE.out]
            exact ⟨rfl, FIN.out⟩
set_option maxHeartbeats 1000000 in
theorem drop_any {w : World} {Q : Qp} {l : List Wt} {h : Int} {d : Bool} (k : IsQ w Q l h d) (id : Int) :
    Calls Try.prog 12 #[.pointer (some ⟨Q.q, 0, none⟩), .int .i64 id] w fun e w' => e = .returned (.int .i64 (dropF l id).1) ∧ StepQ w w' Q (dropF l id).2 h d := by
  have KH := Lib.hid k
  have PL := place_any k id
  have C0 : ∀ W, Below w.heap.size w W → W.cell? ⟨Q.q, 0, none⟩ = some Q.v := fun W b => ((k.below b).blk).cell 0
  have hq := k.blk.lt
  obtain ⟨A, c, ev, -⟩ := k.row.shape
  have hlen := k.len
  have EV := Lib.hid ev
  rw [ev] at C0
  rcases idxB_cases (fun x => x.id == id) l with ⟨e, -⟩ | ⟨i, e, hi⟩
  · have AE : Hid (dropF l id = (6, l)) := by show _ = _; unfold dropF; rw [if_pos (by rw [e]; omega)]
    rw [e] at PL
    have P := Lib.hid PL
    clear k ev e PL
    go_enter Try.func12, Try.ntmps12
    go_wp2_with (go_at_call 25; (with_reducible refine Calls.mono P.out ?_); rintro e w1 ⟨rfl, b1⟩; have B1 := Lib.hid b1; clear b1)
    go_ret
    rw [AE.out]
    exact ⟨rfl, .same KH.out B1.out⟩
  · have AE : Hid (dropF l id = (0, l.eraseIdx i)) := by show _ = _; unfold dropF; rw [if_neg (by rw [e]; omega), e]; rfl
    rw [e] at PL
    have P := Lib.hid PL
    have hD : ∀ W, Hid (Below w.heap.size w W → Calls Try.prog 29 #[.slice A l.length c, .int .i64 i, .int .i64 ((i : Int) + 1)] W (InsPost W A l.length c (l.take i ++ l.drop (i + 1)))) :=
      fun W b => delete_any W A l.length c i l (by have := (k.below b).row; rwa [ev] at this) hlen hi
    have LI : Hid ((l.take i ++ l.drop (i + 1)).length ≤ 64) := by show _ ≤ _; rw [List.length_append, List.length_take, List.length_drop]; omega
    have SP := Lib.hid (List.eraseIdx_eq_take_drop_succ l i).symm
    have g1 : IntKind.i64.wrap ((i : Int) + 1) = i + 1 := IntWalk.i64_in _ (by omega)
    clear k ev e PL
    go_enter Try.func12, Try.ntmps12
    go_wp2_with (first
      | (go_at_call 25; (with_reducible refine Calls.mono P.out ?_); rintro e w1 ⟨rfl, b1⟩; have B1 := Lib.hid b1; have c1 := C0 _ b1; clear b1)
      | (go_at_call 29; (with_reducible refine Calls.mono ((hD _).out B1.out) ?_); rintro e w4 ip; obtain ⟨A5, n5, c5, rfl, bq, fin, finN⟩ := ins_done KH.out B1.out EV.out ip LI.out; rw [SP.out] at fin; have FIN := Lib.hid fin; have q0 : w4.cell? ⟨Q.q, 0, none⟩ = some Q.v := bq.cell 0; have q1 : w4.frozen? ⟨Q.q, 0, none⟩ = false := bq.free 0; have ql := bq.lt; clear ip fin finN bq))
    go_ret
    rw [AE.out]
    exact ⟨rfl, FIN.out⟩
end Go.Proofs.Ytinpaplpgoljpaa
