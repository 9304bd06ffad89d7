/- OrderEarly: whoever must come out first is next, wherever it is, and however the head goes. No condition. -/
import Derived.Test.YtinpaplpgoljpaaOrderArg
import Derived.Test.YtinpaplpgoljpaaRZone
import Derived.Test.YtinpaplpgoljpaaArg
import Derived.Test.YtinpaplpgoljpaaRows
import Derived.ProofKit
import Derived.OpenShut
import Derived.ShutString
import Derived.ChangeOld
import Derived.Below
import Derived.SizedLaws
namespace Go.Proofs.Ytinpaplpgoljpaa
open Go.ChangeShapes Go.WideShapes Go.ChangeAt Go.RowKit
open Go.ChangeMaps (open_string shut_string)
set_option linter.unusedVariables false
set_option linter.unusedSimpArgs false
namespace orderEarly
def Ok (x : Wt) (l : List Wt) : Prop := ∀ y ∈ l, x.dead ≤ y.dead ∧ y.id ≠ x.id ∧ 0 ≤ y.track
theorem early {x : Wt} {l : List Wt} (f : Fine l) (ok : Ok x l) (hl : l.length ≤ 60) (hm : mayW x = true) (hd : 0 < x.dead) (h : Int) (d : Bool) : ∃ dn l3, addF l ⟨x.id, x.dead - 1, x.track⟩ = (0, ⟨x.id, x.dead - 1, x.track⟩ :: l) ∧
    nextF (⟨x.id, x.dead - 1, x.track⟩ :: l) h d = (⟨x.id, x.dead - 1, x.track⟩, dn, 0) ∧ takeF (⟨x.id, x.dead - 1, x.track⟩ :: l) h d = ((⟨x.id, x.dead - 1, x.track⟩, 0), (l3, x.track, dn)) := by
  have hm' := of_decide_eq_true hm
  have fr : insW ⟨x.id, x.dead - 1, x.track⟩ l = ⟨x.id, x.dead - 1, x.track⟩ :: l := insW_front fun z hz hn => by
    have := (ok z hz).1
    have := cmpW_neg.1 hn
    unfold ltW at this
    simp only at this
    omega
  have ha : addF l ⟨x.id, x.dead - 1, x.track⟩ = (0, ⟨x.id, x.dead - 1, x.track⟩ :: l) := by
    unfold addF
    rw [if_pos (may_mk (a := x.id) (b := x.dead - 1) (c := x.track) (by omega)), if_neg, if_neg (by omega), fr]
    rw [idxB_no (fun j y hy => by have := (ok y (List.mem_of_getElem? hy)).2.1; simpa using this)]
    omega
  have f2 : Fine (⟨x.id, x.dead - 1, x.track⟩ :: l) := by have := f.add ⟨x.id, x.dead - 1, x.track⟩; rwa [ha] at this
  obtain ⟨z, dn, n⟩ := next_spec f2 (by simp) (fun y hy => by
    rcases List.mem_cons.1 hy with rfl | hy
    · exact hm'.2.2.2.1
    · exact (ok y hy).2.2) h d
  have hz : z = ⟨x.id, x.dead - 1, x.track⟩ := by
    rcases List.mem_cons.1 n.mem with e | hz
    · exact e
    · have h1 := (ok z hz).1
      have h2 := n.least ⟨x.id, x.dead - 1, x.track⟩ (List.mem_cons_self ..)
      simp only at h2
      omega
  subst hz
  exact ⟨dn, _, ha, n.eq, (take_spec f2 n).1⟩
theorem ok_add {x y : Wt} {l : List Wt} (ok : Ok x l) (h1 : x.dead ≤ y.dead) (h2 : y.id ≠ x.id) : Ok x (addF l y).2 := fun z hz =>
  (add_sub hz).elim (ok z) (fun ⟨e, m⟩ => e ▸ ⟨h1, h2, may_track m⟩)
theorem add_count (l : List Wt) (x : Wt) : ((addF l x).1 = 0 ∧ (addF l x).2.length = l.length + 1) ∨ ((addF l x).1 ≠ 0 ∧ (addF l x).2 = l) := by
  unfold addF
  split
  · split
    · exact .inr ⟨by simp, rfl⟩
    · split
      · exact .inr ⟨by simp, rfl⟩
      · exact .inl ⟨rfl, insW_len _ _⟩
  · exact .inr ⟨by simp, rfl⟩
theorem taken {x : Wt} {l : List Wt} (f : Fine l) (ok : Ok x l) (hl : 0 < l.length) (h : Int) (d : Bool) : ∃ a b c l2 h2 d2, takeF l h d = ((⟨a, b, c⟩, 0), (l2, h2, d2)) ∧ Ok x l2 ∧ l2.length ≤ l.length := by
  obtain ⟨z, dn, n⟩ := next_spec f (by rintro rfl; simp at hl) (fun y hy => (ok y hy).2.2) h d
  obtain ⟨t1, t2⟩ := take_spec f n
  exact ⟨z.id, z.dead, z.track, _, _, _, t1, fun y hy => ok y (List.mem_filter.1 hy).1, by omega⟩
def S7 (b off i B : Nat) (a1 a2 a3 x1 x2 x3 : Int) (W : World) : Prop := W.cell? ⟨b, off + i * 3, none⟩ = some (.int .i64 a1) ∧ W.cell? ⟨b, off + i * 3 + 1, none⟩ = some (.int .u64 a2) ∧ W.cell? ⟨b, off + i * 3 + 2, none⟩ = some (.int .i64 a3) ∧ W.cell? ⟨B, 0, none⟩ = some (.int .i64 x1) ∧ W.cell? ⟨B, 1, none⟩ = some (.int .u64 x2) ∧ W.cell? ⟨B, 2, none⟩ = some (.int .i64 x3)
def Rel1 (w1 : World) (n p base : Nat) (x : Wt) (mv iv : Value) (wr : World) : Prop :=
  ∃ (i : Nat) (l : List Wt), iv = .int .i64 i ∧ mv = .int .i64 (l.length : Nat) ∧ i ≤ n ∧ l.length ≤ i ∧ Ok x l ∧ KeptQ wr p base NF l 0 false ∧ base ≤ wr.heap.size ∧ Below w1.heap.size w1 wr
set_option maxRecDepth 100000 in
set_option maxHeartbeats 4000000 in
theorem walk2 (w : World) (A : Option Addr) (n c : Nat) (U : Nat → Wt) (hs : Hid (WantsAt w A n U)) (hn : n ≤ 140737488351232) (x : Wt) (hx0 : 0 ≤ x.dead) :
    Calls Try.prog 5 #[.slice A n c, wv x] w fun e w' => e = .returned (.bool true) ∧ Below w.heap.size w w' := by
  have CN := fun W => Lib.hid (newq_k W)
  have M := fun W => Lib.hid (mayw_any x W)
  have bx := Blk.new w 30 (wc x)
  have bw : Below w.heap.size w (w.alloc (.cells ⟨wc x⟩ 30)) := (Below.refl _ _).alloc (Nat.le_refl _) _
  have BX := Lib.hid bx
  have BW := Lib.hid bw
  have HS1 := Lib.hid (hs.out.below bw)
  have XX := Lib.hid (rfl : x = x)
  clear bx bw
  obtain ⟨mw, hmw⟩ : ∃ mw, mayW x = mw := ⟨_, rfl⟩
  rw [hmw] at M
  have HMW := Lib.hid hmw
  clear hmw
  by_cases h60 : 60 < n
  · have d1 : decide ((60 : Int) < n) = true := decide_eq_true (by omega)
    obtain ⟨x1, x2, x3⟩ := x
    unfold wv at *
    unfold wc at *
    simp only at *
    go_enter Try.func5, Try.ntmps5
    go_wp2_with (first
      | (go_at_call 9; (with_reducible refine Calls.mono (awake_any _) ?_); rintro e w0 ⟨rfl, bel0⟩; have HB := Lib.hid bel0; have X0 := Lib.hid (BX.out.below bel0 BX.out.lt); have x0 := X0.out.cell 0; have xx1 := X0.out.cell 1; have xx2 := X0.out.cell 2; have xl := X0.out.lt; clear bel0))
    go_ret
    exact ⟨rfl, Below.next BW.out HB.out⟩
  · have d1 : decide ((60 : Int) < n) = false := decide_eq_false (by omega)
    cases mw with
    | false =>
      obtain ⟨x1, x2, x3⟩ := x
      unfold wv at *
      unfold wc at *
      simp only at *
      go_enter Try.func5, Try.ntmps5
      go_wp2_with (first
        | (go_at_call 9; (with_reducible refine Calls.mono (awake_any _) ?_); rintro e w0 ⟨rfl, bel0⟩; have HB := Lib.hid bel0; have X0 := Lib.hid (BX.out.below bel0 BX.out.lt); have x0 := X0.out.cell 0; have xx1 := X0.out.cell 1; have xx2 := X0.out.cell 2; have xl := X0.out.lt; clear bel0)
        | (go_at_call 14; (with_reducible refine Calls.mono (M _).out ?_); rintro e w1 ⟨rfl, b1⟩; have HB1 := Lib.hid (Below.next HB.out b1); clear b1))
      go_ret
      exact ⟨rfl, Below.next BW.out HB1.out⟩
    | true =>
      by_cases hz : x.dead = 0
      · obtain ⟨x1, x2, x3⟩ := x
        unfold wv at *
        unfold wc at *
        simp only at *
        subst hz
        go_enter Try.func5, Try.ntmps5
        go_wp2_with (first
          | (go_at_call 9; (with_reducible refine Calls.mono (awake_any _) ?_); rintro e w0 ⟨rfl, bel0⟩; have HB := Lib.hid bel0; have X0 := Lib.hid (BX.out.below bel0 BX.out.lt); have x0 := X0.out.cell 0; have xx1 := X0.out.cell 1; have xx2 := X0.out.cell 2; have xl := X0.out.lt; clear bel0)
          | (go_at_call 14; (with_reducible refine Calls.mono (M _).out ?_); rintro e w1 ⟨rfl, b1⟩; have HB1 := Lib.hid (Below.next HB.out b1); have X1 := Lib.hid (X0.out.below b1 X0.out.lt); have y0 := X1.out.cell 0; have y1 := X1.out.cell 1; have y2 := X1.out.cell 2; have yl := X1.out.lt; clear b1))
        go_ret
        exact ⟨rfl, Below.next BW.out HB1.out⟩
      · have hd : 0 < x.dead := by omega
        have dl : x.dead < 4611686018427387904 := (of_decide_eq_true HMW.out).2.2.1
        have fz : (x.dead == 0) = false := beq_eq_false_iff_ne.2 hz
        have wr1 : IntKind.u64.wrap (x.dead - 1) = x.dead - 1 := by
          exact IntWalk.u64_in _ (by omega)
        have EA := fun (l : List Wt) (f : Fine l) (ok : Ok x l) (hl : l.length ≤ 60) (h : Int) (d : Bool) => Lib.hid (early f ok hl HMW.out hd h d)
        clear hz
        obtain ⟨x1, x2, x3⟩ := x
        unfold wv at *
        unfold wc at *
        simp only at fz wr1 dl hd hx0 M BX BW ⊢
        go_enter Try.func5, Try.ntmps5
        go_wp2_with (first
          | (go_at_call 9; (with_reducible refine Calls.mono (awake_any _) ?_); rintro e w0 ⟨rfl, bel0⟩; have HB := Lib.hid bel0; have X0 := Lib.hid (BX.out.below bel0 BX.out.lt); have x0 := X0.out.cell 0; have xx1 := X0.out.cell 1; have xx2 := X0.out.cell 2; have xl := X0.out.lt; clear bel0)
          | (go_at_call 14; (with_reducible refine Calls.mono (M _).out ?_); rintro e w1 ⟨rfl, b1⟩; have HB1 := Lib.hid (Below.next HB.out b1); have X1 := Lib.hid (X0.out.below b1 X0.out.lt); have y0 := X1.out.cell 0; have y1 := X1.out.cell 1; have y2 := X1.out.cell 2; have yl := X1.out.lt; clear b1)
          | (go_at_call 10; (with_reducible refine Calls.mono (CN _).out ?_); rintro e w2 ⟨p, rfl, k2, b2⟩; have K2 := Lib.hid (show KeptQ w2 p w1.heap.size NF [] 0 false from k2); have S2 := Lib.hid b2.size; have B2 := Lib.hid (Below.next HB1.out b2); clear k2 b2))
        go_loopw [6, 7] (fun mv iv wr => Hid (Rel1 (w.alloc (.cells #[.int .i64 x1, .int .u64 x2, .int .i64 x3] 30)) n p w1.heap.size ⟨x1, x2, x3⟩ mv iv wr)) (fun _ iv _ => (n - intOf iv).toNat)
        case atStart => exact ⟨0, [], rfl, rfl, by omega, by simp, fun y hy => (by cases hy), K2.out, S2.out, B2.out⟩
        case round =>
          obtain ⟨i, l, rfl, rfl, hi, hli, hok, ki, si, bi⟩ := hrel
          have KI := Lib.hid ki
          have SI := Lib.hid si
          have BI := Lib.hid bi
          have f := ki.fine
          have XI := Lib.hid (BX.out.below bi BX.out.lt)
          have z0 := XI.out.cell 0
          have z1 := XI.out.cell 1
          have z2 := XI.out.cell 2
          have zl := XI.out.lt
          clear ki si bi K2 S2 B2 x0 xx1 xx2 xl y0 y1 y2 yl
          by_cases hin : i < n
          · have hin2 : (i : Int) < n := by omega
            obtain ⟨b, off, rfl, hlt, c0, c1, c2⟩ := HS1.out.at_ hin
            have g1 : IntKind.i64.wrap ((i : Int) + 1) = i + 1 := IntWalk.i64_in _ (by omega)
            have g2 : IntKind.i64.wrap ((l.length : Int) + 1) = l.length + 1 := IntWalk.i64_in _ (by omega)
            obtain ⟨u, hux⟩ : ∃ u, U i = u := ⟨_, rfl⟩
            rw [hux] at c0 c1 c2
            have HC := Lib.hid (And.intro c0 (And.intro c1 c2))
            have c0 := (BI.out.cell (p := ⟨b, off + i * 3, none⟩) hlt).trans c0
            have c1 := (BI.out.cell (p := ⟨b, off + i * 3 + 1, none⟩) hlt).trans c1
            have c2 := (BI.out.cell (p := ⟨b, off + i * 3 + 2, none⟩) hlt).trans c2
            have hbl := Nat.lt_of_lt_of_le hlt BI.out.size
            have HOK := Lib.hid hok
            by_cases h1 : x2 ≤ u.dead
            · have f1 : decide (x2 ≤ u.dead) = true := decide_eq_true h1
              by_cases h2 : u.id = x1
              · have f2 : (u.id == x1) = true := beq_iff_eq.2 h2
                obtain ⟨a1, a2, a3⟩ := u
                simp only at *
                subst h2
                clear hux h1 f hok
                go_wp2_with fail
                go_quiet (fail)
                go_wp2_with fail
                go_roundw
                case rel => exact ⟨i + 1, l, by go_num, rfl, by omega, by omega, HOK.out, KI.out.below (Below.drewN' (Below.refl _ _) _), SI.out, Below.drewN' BI.out _⟩
                case measure => simp [intOf]; omega
              · have f2 : (u.id == x1) = false := beq_eq_false_iff_ne.2 h2
                have ac := add_count l u
                have ok2 := ok_add (y := u) hok h1 h2
                obtain ⟨⟨e, l1⟩, hr⟩ : ∃ r, addF l u = r := ⟨_, rfl⟩
                rw [hr] at ac ok2
                simp only at ac ok2
                have OK2 := Lib.hid ok2
                obtain ⟨a1, a2, a3⟩ := u
                have R1 := Lib.hid hr
                simp only at c0 c1 c2 f1 f2
                have f2b : (a1 != x1) = true := by simpa using f2
                have f2c : ¬ a1 = x1 := by simpa using f2
                have f2d : decide (a1 = x1) = false := decide_eq_false f2c
                clear hr hux ok2 hok f h1 h2
                rcases ac with ⟨rfl, hl1⟩ | ⟨he, rfl⟩
                · have HL := Lib.hid hl1
                  clear hl1
                  go_wp2_with fail
                  have HSD : Hid (S7 b off i w.heap.size a1 a2 a3 x1 x2 x3 wr.drew) := ⟨c0, c1, c2, z0, z1, z2⟩
                  refine wp_region_zone (S7 b off i w.heap.size a1 a2 a3 x1 x2 x3) (fun j => true) (by kernel_rfl) ?_
                  refine wpAnyZ_move (i := 0) (v := ?_) rfl (by kernel_rfl) (by kernel_rfl) (by kernel_rfl) (fun _ _ _ h => h) (Or.inl ⟨by rfl, ?_⟩) ?_
                  (rotate_left 1; (focus (intro W; go_simp; try with_reducible rfl)))
                  try simp only [Act.put, List.setIfInBounds_toArray, List.set_cons_zero, List.set_cons_succ, List.getElem_toArray, List.getElem_cons_succ, List.getElem_cons_zero]
                  refine wpAnyZ_move (i := 1) (v := ?_) rfl (by kernel_rfl) (by kernel_rfl) (by kernel_rfl) (fun _ _ _ h => h) (Or.inl ⟨by rfl, ?_⟩) ?_
                  (rotate_left 1; (focus (intro W; go_simp; try with_reducible rfl)))
                  try simp only [Act.put, List.setIfInBounds_toArray, List.set_cons_zero, List.set_cons_succ, List.getElem_toArray, List.getElem_cons_succ, List.getElem_cons_zero]
                  refine wpAnyZ_move (i := 2) (v := ?_) rfl (by kernel_rfl) (by kernel_rfl) (by kernel_rfl) (fun _ _ _ h => h) (Or.inl ⟨by rfl, ?_⟩) ?_
                  (rotate_left 1; (focus (intro W; go_simp; try with_reducible rfl)))
                  try simp only [Act.put, List.setIfInBounds_toArray, List.set_cons_zero, List.set_cons_succ, List.getElem_toArray, List.getElem_cons_succ, List.getElem_cons_zero]
                  refine wpAnyZ_move (i := 3) (v := ?_) rfl (by kernel_rfl) (by kernel_rfl) (by kernel_rfl) (fun _ _ _ h => h) (Or.inl ⟨by rfl, ?_⟩) ?_
                  (rotate_left 1; (focus (intro W; go_simp; try with_reducible rfl)))
                  try simp only [Act.put, List.setIfInBounds_toArray, List.set_cons_zero, List.set_cons_succ, List.getElem_toArray, List.getElem_cons_succ, List.getElem_cons_zero]
                  refine wpAnyZ_take (i := 4) (v := ?_) rfl (by kernel_rfl) (by kernel_rfl) (by kernel_rfl) (by kernel_rfl) (fun _ _ _ h => h) (Or.inl ⟨by rfl, ?_⟩) HSD.out ?_
                  (rotate_left 1; (focus (intro W hS; obtain ⟨y0, y1, y2, y3, y4, y5⟩ := hS; go_simp; try with_reducible rfl)))
                  try simp only [Act.put, List.setIfInBounds_toArray, List.set_cons_zero, List.set_cons_succ, List.getElem_toArray, List.getElem_cons_succ, List.getElem_cons_zero]
                  refine wpAnyZ_move (i := 5) (v := ?_) rfl (by kernel_rfl) (by kernel_rfl) (by kernel_rfl) (fun _ _ _ h => h) (Or.inl ⟨by rfl, ?_⟩) ?_
                  (rotate_left 1; (focus (intro W; go_simp; try with_reducible rfl)))
                  try simp only [Act.put, List.setIfInBounds_toArray, List.set_cons_zero, List.set_cons_succ, List.getElem_toArray, List.getElem_cons_succ, List.getElem_cons_zero]
                  refine wpAnyZ_take (i := 6) (v := ?_) rfl (by kernel_rfl) (by kernel_rfl) (by kernel_rfl) (by kernel_rfl) (fun _ _ _ h => h) (Or.inl ⟨by rfl, ?_⟩) HSD.out ?_
                  (rotate_left 1; (focus (intro W hS; obtain ⟨y0, y1, y2, y3, y4, y5⟩ := hS; go_simp; try with_reducible rfl)))
                  try simp only [Act.put, List.setIfInBounds_toArray, List.set_cons_zero, List.set_cons_succ, List.getElem_toArray, List.getElem_cons_succ, List.getElem_cons_zero]
                  refine wpAnyZ_move (i := 7) (v := ?_) rfl (by kernel_rfl) (by kernel_rfl) (by kernel_rfl) (fun _ _ _ h => h) (Or.inl ⟨by rfl, ?_⟩) ?_
                  (rotate_left 1; (focus (intro W; go_simp; try with_reducible rfl)))
                  try simp only [Act.put, List.setIfInBounds_toArray, List.set_cons_zero, List.set_cons_succ, List.getElem_toArray, List.getElem_cons_succ, List.getElem_cons_zero]
                  refine wpAnyZ_move (i := 8) (v := ?_) rfl (by kernel_rfl) (by kernel_rfl) (by kernel_rfl) (fun _ _ _ h => h) (Or.inl ⟨by rfl, ?_⟩) ?_
                  (rotate_left 1; (focus (intro W; go_simp; try with_reducible rfl)))
                  try simp only [Act.put, List.setIfInBounds_toArray, List.set_cons_zero, List.set_cons_succ, List.getElem_toArray, List.getElem_cons_succ, List.getElem_cons_zero]
                  refine wpAnyZ_move (i := 9) (v := ?_) rfl (by kernel_rfl) (by kernel_rfl) (by kernel_rfl) (fun _ _ _ h => h) (Or.inl ⟨by rfl, ?_⟩) ?_
                  (rotate_left 1; (focus (intro W; go_simp; try with_reducible rfl)))
                  try simp only [Act.put, List.setIfInBounds_toArray, List.set_cons_zero, List.set_cons_succ, List.getElem_toArray, List.getElem_cons_succ, List.getElem_cons_zero]
                  refine wpAnyZ_move (i := 10) (v := ?_) rfl (by kernel_rfl) (by kernel_rfl) (by kernel_rfl) (fun _ _ _ h => h) (Or.inl ⟨by rfl, ?_⟩) ?_
                  (rotate_left 1; (focus (intro W; go_simp; try with_reducible rfl)))
                  try simp only [Act.put, List.setIfInBounds_toArray, List.set_cons_zero, List.set_cons_succ, List.getElem_toArray, List.getElem_cons_succ, List.getElem_cons_zero]
                  refine wpAnyZ_move (i := 11) (v := ?_) rfl (by kernel_rfl) (by kernel_rfl) (by kernel_rfl) (fun _ _ _ h => h) (Or.inl ⟨by rfl, ?_⟩) ?_
                  (rotate_left 1; (focus (intro W; go_simp; try with_reducible rfl)))
                  try simp only [Act.put, List.setIfInBounds_toArray, List.set_cons_zero, List.set_cons_succ, List.getElem_toArray, List.getElem_cons_succ, List.getElem_cons_zero]
                  refine wpAnyZ_move (i := 12) (v := ?_) rfl (by kernel_rfl) (by kernel_rfl) (by kernel_rfl) (fun _ _ _ h => h) (Or.inl ⟨by rfl, ?_⟩) ?_
                  (rotate_left 1; (focus (intro W; go_simp; try with_reducible rfl)))
                  try simp only [Act.put, List.setIfInBounds_toArray, List.set_cons_zero, List.set_cons_succ, List.getElem_toArray, List.getElem_cons_succ, List.getElem_cons_zero]
                  refine wpAnyZ_take (i := 13) (v := ?_) rfl (by kernel_rfl) (by kernel_rfl) (by kernel_rfl) (by kernel_rfl) (fun _ _ _ h => h) (Or.inl ⟨by rfl, ?_⟩) HSD.out ?_
                  (rotate_left 1; (focus (intro W hS; obtain ⟨y0, y1, y2, y3, y4, y5⟩ := hS; go_simp; try with_reducible rfl)))
                  try simp only [Act.put, List.setIfInBounds_toArray, List.set_cons_zero, List.set_cons_succ, List.getElem_toArray, List.getElem_cons_succ, List.getElem_cons_zero]
                  refine wpAnyZ_move (i := 14) (v := ?_) rfl (by kernel_rfl) (by kernel_rfl) (by kernel_rfl) (fun _ _ _ h => h) (Or.inl ⟨by rfl, ?_⟩) ?_
                  (rotate_left 1; (focus (intro W; go_simp; try with_reducible rfl)))
                  try simp only [Act.put, List.setIfInBounds_toArray, List.set_cons_zero, List.set_cons_succ, List.getElem_toArray, List.getElem_cons_succ, List.getElem_cons_zero]
                  refine wpAnyZ_take (i := 15) (v := ?_) rfl (by kernel_rfl) (by kernel_rfl) (by kernel_rfl) (by kernel_rfl) (fun _ _ _ h => h) (Or.inl ⟨by rfl, ?_⟩) HSD.out ?_
                  (rotate_left 1; (focus (intro W hS; obtain ⟨y0, y1, y2, y3, y4, y5⟩ := hS; go_simp; try with_reducible rfl)))
                  try simp only [Act.put, List.setIfInBounds_toArray, List.set_cons_zero, List.set_cons_succ, List.getElem_toArray, List.getElem_cons_succ, List.getElem_cons_zero]
                  refine wpAnyZ_move (i := 16) (v := ?_) rfl (by kernel_rfl) (by kernel_rfl) (by kernel_rfl) (fun _ _ _ h => h) (Or.inl ⟨by rfl, ?_⟩) ?_
                  (rotate_left 1; (focus (intro W; go_simp; try with_reducible rfl)))
                  try simp only [Act.put, List.setIfInBounds_toArray, List.set_cons_zero, List.set_cons_succ, List.getElem_toArray, List.getElem_cons_succ, List.getElem_cons_zero]
                  refine wpAnyZ_move (i := 17) (v := ?_) rfl (by kernel_rfl) (by kernel_rfl) (by kernel_rfl) (fun _ _ _ h => h) (Or.inl ⟨by rfl, ?_⟩) ?_
                  (rotate_left 1; (focus (intro W; go_simp; try with_reducible rfl)))
                  try simp only [Act.put, List.setIfInBounds_toArray, List.set_cons_zero, List.set_cons_succ, List.getElem_toArray, List.getElem_cons_succ, List.getElem_cons_zero]
                  refine wpAnyZ_move (i := 18) (v := ?_) rfl (by kernel_rfl) (by kernel_rfl) (by kernel_rfl) (fun _ _ _ h => h) (Or.inl ⟨by rfl, ?_⟩) ?_
                  (rotate_left 1; (focus (intro W; go_simp; try with_reducible rfl)))
                  try simp only [Act.put, List.setIfInBounds_toArray, List.set_cons_zero, List.set_cons_succ, List.getElem_toArray, List.getElem_cons_succ, List.getElem_cons_zero]
                  refine wpAnyZ_move (i := 19) (v := ?_) rfl (by kernel_rfl) (by kernel_rfl) (by kernel_rfl) (fun _ _ _ h => h) (Or.inl ⟨by rfl, ?_⟩) ?_
                  (rotate_left 1; (focus (intro W; go_simp; try with_reducible rfl)))
                  try simp only [Act.put, List.setIfInBounds_toArray, List.set_cons_zero, List.set_cons_succ, List.getElem_toArray, List.getElem_cons_succ, List.getElem_cons_zero]
                  refine wpAnyZ_move (i := 20) (v := ?_) rfl (by kernel_rfl) (by kernel_rfl) (by kernel_rfl) (fun _ _ _ h => h) (Or.inl ⟨by rfl, ?_⟩) ?_
                  (rotate_left 1; (focus (intro W; go_simp; try with_reducible rfl)))
                  try simp only [Act.put, List.setIfInBounds_toArray, List.set_cons_zero, List.set_cons_succ, List.getElem_toArray, List.getElem_cons_succ, List.getElem_cons_zero]
                  refine wpAnyZ_move (i := 21) (v := ?_) rfl (by kernel_rfl) (by kernel_rfl) (by kernel_rfl) (fun _ _ _ h => h) (Or.inl ⟨by rfl, ?_⟩) ?_
                  (rotate_left 1; (focus (intro W; go_simp; try with_reducible rfl)))
                  try simp only [Act.put, List.setIfInBounds_toArray, List.set_cons_zero, List.set_cons_succ, List.getElem_toArray, List.getElem_cons_succ, List.getElem_cons_zero]
                  refine wpAnyZ_move (i := 22) (v := ?_) rfl (by kernel_rfl) (by kernel_rfl) (by kernel_rfl) (fun _ _ _ h => h) (Or.inl ⟨by rfl, ?_⟩) ?_
                  (rotate_left 1; (focus (intro W; go_simp; try with_reducible rfl)))
                  try simp only [Act.put, List.setIfInBounds_toArray, List.set_cons_zero, List.set_cons_succ, List.getElem_toArray, List.getElem_cons_succ, List.getElem_cons_zero]
                  refine wpAnyZ_take (i := 23) (v := ?_) rfl (by kernel_rfl) (by kernel_rfl) (by kernel_rfl) (by kernel_rfl) (fun _ _ _ h => h) (Or.inl ⟨by rfl, ?_⟩) HSD.out ?_
                  (rotate_left 1; (focus (intro W hS; obtain ⟨y0, y1, y2, y3, y4, y5⟩ := hS; go_simp; try with_reducible rfl)))
                  try simp only [Act.put, List.setIfInBounds_toArray, List.set_cons_zero, List.set_cons_succ, List.getElem_toArray, List.getElem_cons_succ, List.getElem_cons_zero]
                  refine wpAnyZ_one (i := 24) (by kernel_rfl) rfl (fun K hK => ?_)
                  go_simp
                  have KID := Lib.hid (KI.out.below (Below.refl _ _).drew)
                  have SID := Lib.hid (show w1.heap.size ≤ wr.drew.heap.size from SI.out)
                  go_wp2_with (go_at_call 11; (with_reducible refine Calls.mono (add_at KID.out nf SID.out R1.out) ?_); rintro e w4 ⟨rfl, k4, o4⟩; have K4 := Lib.hid k4; have S4 := Lib.hid (Nat.le_trans SI.out o4.size); have B4 := Lib.hid (Below.onlyF BI.out.drew o4 (fun i h => Nat.le_trans HB1.out.size h.1)); clear k4 o4)
                  refine hK.out _ _ (fun _ _ => ?_) ?_
                  (focus (exact ⟨(B4.out.cell (p := ⟨b, off + i * 3, none⟩) hlt).trans HC.out.1, (B4.out.cell (p := ⟨b, off + i * 3 + 1, none⟩) hlt).trans HC.out.2.1, (B4.out.cell (p := ⟨b, off + i * 3 + 2, none⟩) hlt).trans HC.out.2.2, (BX.out.below B4.out BX.out.lt).cell 0, (BX.out.below B4.out BX.out.lt).cell 1, (BX.out.below B4.out BX.out.lt).cell 2⟩))
                  clear hK K
                  refine wpAnyZ_move (i := 25) (v := ?_) rfl (by kernel_rfl) (by kernel_rfl) (by kernel_rfl) (fun _ _ _ h => h) (Or.inl ⟨by rfl, ?_⟩) ?_
                  (rotate_left 1; (focus (intro W; go_simp; try with_reducible rfl)))
                  try simp only [Act.put, List.setIfInBounds_toArray, List.set_cons_zero, List.set_cons_succ, List.getElem_toArray, List.getElem_cons_succ, List.getElem_cons_zero]
                  refine wpAnyZ_move (i := 26) (v := ?_) rfl (by kernel_rfl) (by kernel_rfl) (by kernel_rfl) (fun _ _ _ h => h) (Or.inl ⟨by rfl, ?_⟩) ?_
                  (rotate_left 1; (focus (intro W; go_simp; try with_reducible rfl)))
                  try simp only [Act.put, List.setIfInBounds_toArray, List.set_cons_zero, List.set_cons_succ, List.getElem_toArray, List.getElem_cons_succ, List.getElem_cons_zero]
                  refine wpAnyZ_done (by kernel_rfl) ?_ _
                  go_wp2_with fail
                  go_roundw

                  case rel => exact ⟨i + 1, l1, by go_num, by rw [HL.out]; go_num, by omega, by rw [HL.out]; omega, OK2.out, K4.out, S4.out, B4.out⟩
                  case measure => simp [intOf]; omega
                · have f3 : (e == 0) = false := beq_eq_false_iff_ne.2 he
                  clear he
                  go_wp2_with fail
                  have HSD : Hid (S7 b off i w.heap.size a1 a2 a3 x1 x2 x3 wr.drew) := ⟨c0, c1, c2, z0, z1, z2⟩
                  refine wp_region_zone (S7 b off i w.heap.size a1 a2 a3 x1 x2 x3) (fun j => true) (by kernel_rfl) ?_
                  refine wpAnyZ_move (i := 0) (v := ?_) rfl (by kernel_rfl) (by kernel_rfl) (by kernel_rfl) (fun _ _ _ h => h) (Or.inl ⟨by rfl, ?_⟩) ?_
                  (rotate_left 1; (focus (intro W; go_simp; try with_reducible rfl)))
                  try simp only [Act.put, List.setIfInBounds_toArray, List.set_cons_zero, List.set_cons_succ, List.getElem_toArray, List.getElem_cons_succ, List.getElem_cons_zero]
                  refine wpAnyZ_move (i := 1) (v := ?_) rfl (by kernel_rfl) (by kernel_rfl) (by kernel_rfl) (fun _ _ _ h => h) (Or.inl ⟨by rfl, ?_⟩) ?_
                  (rotate_left 1; (focus (intro W; go_simp; try with_reducible rfl)))
                  try simp only [Act.put, List.setIfInBounds_toArray, List.set_cons_zero, List.set_cons_succ, List.getElem_toArray, List.getElem_cons_succ, List.getElem_cons_zero]
                  refine wpAnyZ_move (i := 2) (v := ?_) rfl (by kernel_rfl) (by kernel_rfl) (by kernel_rfl) (fun _ _ _ h => h) (Or.inl ⟨by rfl, ?_⟩) ?_
                  (rotate_left 1; (focus (intro W; go_simp; try with_reducible rfl)))
                  try simp only [Act.put, List.setIfInBounds_toArray, List.set_cons_zero, List.set_cons_succ, List.getElem_toArray, List.getElem_cons_succ, List.getElem_cons_zero]
                  refine wpAnyZ_move (i := 3) (v := ?_) rfl (by kernel_rfl) (by kernel_rfl) (by kernel_rfl) (fun _ _ _ h => h) (Or.inl ⟨by rfl, ?_⟩) ?_
                  (rotate_left 1; (focus (intro W; go_simp; try with_reducible rfl)))
                  try simp only [Act.put, List.setIfInBounds_toArray, List.set_cons_zero, List.set_cons_succ, List.getElem_toArray, List.getElem_cons_succ, List.getElem_cons_zero]
                  refine wpAnyZ_take (i := 4) (v := ?_) rfl (by kernel_rfl) (by kernel_rfl) (by kernel_rfl) (by kernel_rfl) (fun _ _ _ h => h) (Or.inl ⟨by rfl, ?_⟩) HSD.out ?_
                  (rotate_left 1; (focus (intro W hS; obtain ⟨y0, y1, y2, y3, y4, y5⟩ := hS; go_simp; try with_reducible rfl)))
                  try simp only [Act.put, List.setIfInBounds_toArray, List.set_cons_zero, List.set_cons_succ, List.getElem_toArray, List.getElem_cons_succ, List.getElem_cons_zero]
                  refine wpAnyZ_move (i := 5) (v := ?_) rfl (by kernel_rfl) (by kernel_rfl) (by kernel_rfl) (fun _ _ _ h => h) (Or.inl ⟨by rfl, ?_⟩) ?_
                  (rotate_left 1; (focus (intro W; go_simp; try with_reducible rfl)))
                  try simp only [Act.put, List.setIfInBounds_toArray, List.set_cons_zero, List.set_cons_succ, List.getElem_toArray, List.getElem_cons_succ, List.getElem_cons_zero]
                  refine wpAnyZ_take (i := 6) (v := ?_) rfl (by kernel_rfl) (by kernel_rfl) (by kernel_rfl) (by kernel_rfl) (fun _ _ _ h => h) (Or.inl ⟨by rfl, ?_⟩) HSD.out ?_
                  (rotate_left 1; (focus (intro W hS; obtain ⟨y0, y1, y2, y3, y4, y5⟩ := hS; go_simp; try with_reducible rfl)))
                  try simp only [Act.put, List.setIfInBounds_toArray, List.set_cons_zero, List.set_cons_succ, List.getElem_toArray, List.getElem_cons_succ, List.getElem_cons_zero]
                  refine wpAnyZ_move (i := 7) (v := ?_) rfl (by kernel_rfl) (by kernel_rfl) (by kernel_rfl) (fun _ _ _ h => h) (Or.inl ⟨by rfl, ?_⟩) ?_
                  (rotate_left 1; (focus (intro W; go_simp; try with_reducible rfl)))
                  try simp only [Act.put, List.setIfInBounds_toArray, List.set_cons_zero, List.set_cons_succ, List.getElem_toArray, List.getElem_cons_succ, List.getElem_cons_zero]
                  refine wpAnyZ_move (i := 8) (v := ?_) rfl (by kernel_rfl) (by kernel_rfl) (by kernel_rfl) (fun _ _ _ h => h) (Or.inl ⟨by rfl, ?_⟩) ?_
                  (rotate_left 1; (focus (intro W; go_simp; try with_reducible rfl)))
                  try simp only [Act.put, List.setIfInBounds_toArray, List.set_cons_zero, List.set_cons_succ, List.getElem_toArray, List.getElem_cons_succ, List.getElem_cons_zero]
                  refine wpAnyZ_move (i := 9) (v := ?_) rfl (by kernel_rfl) (by kernel_rfl) (by kernel_rfl) (fun _ _ _ h => h) (Or.inl ⟨by rfl, ?_⟩) ?_
                  (rotate_left 1; (focus (intro W; go_simp; try with_reducible rfl)))
                  try simp only [Act.put, List.setIfInBounds_toArray, List.set_cons_zero, List.set_cons_succ, List.getElem_toArray, List.getElem_cons_succ, List.getElem_cons_zero]
                  refine wpAnyZ_move (i := 10) (v := ?_) rfl (by kernel_rfl) (by kernel_rfl) (by kernel_rfl) (fun _ _ _ h => h) (Or.inl ⟨by rfl, ?_⟩) ?_
                  (rotate_left 1; (focus (intro W; go_simp; try with_reducible rfl)))
                  try simp only [Act.put, List.setIfInBounds_toArray, List.set_cons_zero, List.set_cons_succ, List.getElem_toArray, List.getElem_cons_succ, List.getElem_cons_zero]
                  refine wpAnyZ_move (i := 11) (v := ?_) rfl (by kernel_rfl) (by kernel_rfl) (by kernel_rfl) (fun _ _ _ h => h) (Or.inl ⟨by rfl, ?_⟩) ?_
                  (rotate_left 1; (focus (intro W; go_simp; try with_reducible rfl)))
                  try simp only [Act.put, List.setIfInBounds_toArray, List.set_cons_zero, List.set_cons_succ, List.getElem_toArray, List.getElem_cons_succ, List.getElem_cons_zero]
                  refine wpAnyZ_move (i := 12) (v := ?_) rfl (by kernel_rfl) (by kernel_rfl) (by kernel_rfl) (fun _ _ _ h => h) (Or.inl ⟨by rfl, ?_⟩) ?_
                  (rotate_left 1; (focus (intro W; go_simp; try with_reducible rfl)))
                  try simp only [Act.put, List.setIfInBounds_toArray, List.set_cons_zero, List.set_cons_succ, List.getElem_toArray, List.getElem_cons_succ, List.getElem_cons_zero]
                  refine wpAnyZ_take (i := 13) (v := ?_) rfl (by kernel_rfl) (by kernel_rfl) (by kernel_rfl) (by kernel_rfl) (fun _ _ _ h => h) (Or.inl ⟨by rfl, ?_⟩) HSD.out ?_
                  (rotate_left 1; (focus (intro W hS; obtain ⟨y0, y1, y2, y3, y4, y5⟩ := hS; go_simp; try with_reducible rfl)))
                  try simp only [Act.put, List.setIfInBounds_toArray, List.set_cons_zero, List.set_cons_succ, List.getElem_toArray, List.getElem_cons_succ, List.getElem_cons_zero]
                  refine wpAnyZ_move (i := 14) (v := ?_) rfl (by kernel_rfl) (by kernel_rfl) (by kernel_rfl) (fun _ _ _ h => h) (Or.inl ⟨by rfl, ?_⟩) ?_
                  (rotate_left 1; (focus (intro W; go_simp; try with_reducible rfl)))
                  try simp only [Act.put, List.setIfInBounds_toArray, List.set_cons_zero, List.set_cons_succ, List.getElem_toArray, List.getElem_cons_succ, List.getElem_cons_zero]
                  refine wpAnyZ_take (i := 15) (v := ?_) rfl (by kernel_rfl) (by kernel_rfl) (by kernel_rfl) (by kernel_rfl) (fun _ _ _ h => h) (Or.inl ⟨by rfl, ?_⟩) HSD.out ?_
                  (rotate_left 1; (focus (intro W hS; obtain ⟨y0, y1, y2, y3, y4, y5⟩ := hS; go_simp; try with_reducible rfl)))
                  try simp only [Act.put, List.setIfInBounds_toArray, List.set_cons_zero, List.set_cons_succ, List.getElem_toArray, List.getElem_cons_succ, List.getElem_cons_zero]
                  refine wpAnyZ_move (i := 16) (v := ?_) rfl (by kernel_rfl) (by kernel_rfl) (by kernel_rfl) (fun _ _ _ h => h) (Or.inl ⟨by rfl, ?_⟩) ?_
                  (rotate_left 1; (focus (intro W; go_simp; try with_reducible rfl)))
                  try simp only [Act.put, List.setIfInBounds_toArray, List.set_cons_zero, List.set_cons_succ, List.getElem_toArray, List.getElem_cons_succ, List.getElem_cons_zero]
                  refine wpAnyZ_move (i := 17) (v := ?_) rfl (by kernel_rfl) (by kernel_rfl) (by kernel_rfl) (fun _ _ _ h => h) (Or.inl ⟨by rfl, ?_⟩) ?_
                  (rotate_left 1; (focus (intro W; go_simp; try with_reducible rfl)))
                  try simp only [Act.put, List.setIfInBounds_toArray, List.set_cons_zero, List.set_cons_succ, List.getElem_toArray, List.getElem_cons_succ, List.getElem_cons_zero]
                  refine wpAnyZ_move (i := 18) (v := ?_) rfl (by kernel_rfl) (by kernel_rfl) (by kernel_rfl) (fun _ _ _ h => h) (Or.inl ⟨by rfl, ?_⟩) ?_
                  (rotate_left 1; (focus (intro W; go_simp; try with_reducible rfl)))
                  try simp only [Act.put, List.setIfInBounds_toArray, List.set_cons_zero, List.set_cons_succ, List.getElem_toArray, List.getElem_cons_succ, List.getElem_cons_zero]
                  refine wpAnyZ_move (i := 19) (v := ?_) rfl (by kernel_rfl) (by kernel_rfl) (by kernel_rfl) (fun _ _ _ h => h) (Or.inl ⟨by rfl, ?_⟩) ?_
                  (rotate_left 1; (focus (intro W; go_simp; try with_reducible rfl)))
                  try simp only [Act.put, List.setIfInBounds_toArray, List.set_cons_zero, List.set_cons_succ, List.getElem_toArray, List.getElem_cons_succ, List.getElem_cons_zero]
                  refine wpAnyZ_move (i := 20) (v := ?_) rfl (by kernel_rfl) (by kernel_rfl) (by kernel_rfl) (fun _ _ _ h => h) (Or.inl ⟨by rfl, ?_⟩) ?_
                  (rotate_left 1; (focus (intro W; go_simp; try with_reducible rfl)))
                  try simp only [Act.put, List.setIfInBounds_toArray, List.set_cons_zero, List.set_cons_succ, List.getElem_toArray, List.getElem_cons_succ, List.getElem_cons_zero]
                  refine wpAnyZ_move (i := 21) (v := ?_) rfl (by kernel_rfl) (by kernel_rfl) (by kernel_rfl) (fun _ _ _ h => h) (Or.inl ⟨by rfl, ?_⟩) ?_
                  (rotate_left 1; (focus (intro W; go_simp; try with_reducible rfl)))
                  try simp only [Act.put, List.setIfInBounds_toArray, List.set_cons_zero, List.set_cons_succ, List.getElem_toArray, List.getElem_cons_succ, List.getElem_cons_zero]
                  refine wpAnyZ_move (i := 22) (v := ?_) rfl (by kernel_rfl) (by kernel_rfl) (by kernel_rfl) (fun _ _ _ h => h) (Or.inl ⟨by rfl, ?_⟩) ?_
                  (rotate_left 1; (focus (intro W; go_simp; try with_reducible rfl)))
                  try simp only [Act.put, List.setIfInBounds_toArray, List.set_cons_zero, List.set_cons_succ, List.getElem_toArray, List.getElem_cons_succ, List.getElem_cons_zero]
                  refine wpAnyZ_take (i := 23) (v := ?_) rfl (by kernel_rfl) (by kernel_rfl) (by kernel_rfl) (by kernel_rfl) (fun _ _ _ h => h) (Or.inl ⟨by rfl, ?_⟩) HSD.out ?_
                  (rotate_left 1; (focus (intro W hS; obtain ⟨y0, y1, y2, y3, y4, y5⟩ := hS; go_simp; try with_reducible rfl)))
                  try simp only [Act.put, List.setIfInBounds_toArray, List.set_cons_zero, List.set_cons_succ, List.getElem_toArray, List.getElem_cons_succ, List.getElem_cons_zero]
                  refine wpAnyZ_one (i := 24) (by kernel_rfl) rfl (fun K hK => ?_)
                  go_simp
                  have KID := Lib.hid (KI.out.below (Below.refl _ _).drew)
                  have SID := Lib.hid (show w1.heap.size ≤ wr.drew.heap.size from SI.out)
                  go_wp2_with (go_at_call 11; (with_reducible refine Calls.mono (add_at KID.out nf SID.out R1.out) ?_); rintro e w4 ⟨rfl, k4, o4⟩; have K4 := Lib.hid k4; have S4 := Lib.hid (Nat.le_trans SI.out o4.size); have B4 := Lib.hid (Below.onlyF BI.out.drew o4 (fun i h => Nat.le_trans HB1.out.size h.1)); clear k4 o4)
                  refine hK.out _ _ (fun _ _ => ?_) ?_
                  (focus (exact ⟨(B4.out.cell (p := ⟨b, off + i * 3, none⟩) hlt).trans HC.out.1, (B4.out.cell (p := ⟨b, off + i * 3 + 1, none⟩) hlt).trans HC.out.2.1, (B4.out.cell (p := ⟨b, off + i * 3 + 2, none⟩) hlt).trans HC.out.2.2, (BX.out.below B4.out BX.out.lt).cell 0, (BX.out.below B4.out BX.out.lt).cell 1, (BX.out.below B4.out BX.out.lt).cell 2⟩))
                  clear hK K
                  refine wpAnyZ_move (i := 25) (v := ?_) rfl (by kernel_rfl) (by kernel_rfl) (by kernel_rfl) (fun _ _ _ h => h) (Or.inl ⟨by rfl, ?_⟩) ?_
                  (rotate_left 1; (focus (intro W; go_simp; try with_reducible rfl)))
                  try simp only [Act.put, List.setIfInBounds_toArray, List.set_cons_zero, List.set_cons_succ, List.getElem_toArray, List.getElem_cons_succ, List.getElem_cons_zero]
                  refine wpAnyZ_move (i := 26) (v := ?_) rfl (by kernel_rfl) (by kernel_rfl) (by kernel_rfl) (fun _ _ _ h => h) (Or.inl ⟨by rfl, ?_⟩) ?_
                  (rotate_left 1; (focus (intro W; go_simp; try with_reducible rfl)))
                  try simp only [Act.put, List.setIfInBounds_toArray, List.set_cons_zero, List.set_cons_succ, List.getElem_toArray, List.getElem_cons_succ, List.getElem_cons_zero]
                  refine wpAnyZ_done (by kernel_rfl) ?_ _
                  go_wp2_with fail
                  go_roundw

                  case rel => exact ⟨i + 1, l1, by go_num, rfl, by omega, by omega, OK2.out, K4.out, S4.out, B4.out⟩
                  case measure => simp [intOf]; omega
            · have f1 : decide (x2 ≤ u.dead) = false := decide_eq_false h1
              obtain ⟨a1, a2, a3⟩ := u
              simp only at *
              clear hux h1 f hok
              go_wp2_with fail
              go_quiet (fail)
              go_wp2_with fail
              go_roundw
              case rel => exact ⟨i + 1, l, by go_num, rfl, by omega, by omega, HOK.out, KI.out.below (Below.drewN' (Below.refl _ _) _), SI.out, Below.drewN' BI.out _⟩
              case measure => simp [intOf]; omega
          · obtain rfl : i = n := by omega
            have hin2 : ¬ (i : Int) < i := by omega
            have HOK := Lib.hid hok
            clear hok
            by_cases h1 : 1 < l.length
            · have e1 : decide (1 < (l.length : Int)) = true := decide_eq_true (by omega)
              have e2 : (1 : Int) < (l.length : Int) := by omega
              obtain ⟨a, b, c, l2, hd2, d2, tk, ok3, hl3⟩ := taken f HOK.out (by omega) 0 false
              have f2 := f.take 0 false
              rw [tk] at f2
              simp only at f2
              obtain ⟨dn, l3, ha, hn, ht⟩ := (EA l2 f2 ok3 (by omega) hd2 d2).out
              have R1 := Lib.hid tk
              have HA := Lib.hid ha
              have HN := Lib.hid hn
              have HT := Lib.hid ht
              clear tk ok3 hl3 f f2 ha hn ht EA
              go_wp2_with (first
                | (go_at_call 13; (with_reducible refine Calls.mono (take_at KI.out nf SI.out R1.out) ?_); rintro e w4 ⟨rfl, k4, o4⟩; have K4 := Lib.hid k4; have S4 := Lib.hid (Nat.le_trans SI.out o4.size); have B4 := Lib.hid (Below.onlyF BI.out o4 (fun i h => Nat.le_trans HB1.out.size h.1)); have x4 := XI.out.only o4 (fun h => (by have := HB1.out.size; have := h.1; simp at *; omega)); have z0 := x4.cell 0; have z1 := x4.cell 1; have z2 := x4.cell 2; have zl := x4.lt; have X8 := Lib.hid (Blk.new w4 30 [.int .i64 x1, .int .u64 (x2 - 1), .int .i64 x3]); have k5 := K4.out.re (Far' := F1 w4.heap.size) (fun g hg h => absurd h (by show ¬ _ = _; omega)); have K5 := Lib.hid (k5.below ((Below.refl _ _).alloc (Nat.le_refl _) (.cells #[.int .i64 x1, .int .u64 (x2 - 1), .int .i64 x3] 30))); have S5 := Lib.hid (show w1.heap.size ≤ (w4.alloc (.cells #[.int .i64 x1, .int .u64 (x2 - 1), .int .i64 x3] 30)).heap.size from (by have := S4.out; simp at *; omega)); have B5 := Lib.hid (B4.out.alloc B4.out.size (.cells #[.int .i64 x1, .int .u64 (x2 - 1), .int .i64 x3] 30)); have HF5 : Hid (∀ g, F1 w4.heap.size g → g < (w4.alloc (.cells #[.int .i64 x1, .int .u64 (x2 - 1), .int .i64 x3] 30)).heap.size) := (fun g h => (by subst h; simp)); clear k5; clear k4 o4 x4)
                | (go_at_call 11; (with_reducible refine Calls.mono (add_at K5.out HF5.out S5.out HA.out) ?_); rintro e w6 ⟨rfl, k6, o6⟩; have K6 := Lib.hid k6; have X8 := Lib.hid (X8.out.only o6 (fun h => h.2 rfl)); have S6 := Lib.hid (Nat.le_trans S5.out o6.size); have B6 := Lib.hid (Below.onlyF B5.out o6 (fun i h => Nat.le_trans HB1.out.size h.1)); clear k6 o6)
                | (go_at_call 15; (with_reducible refine Calls.mono (nextq_at K6.out HN.out) ?_); rintro e w7 ⟨rfl, k7, b7⟩; have X9 := Lib.hid (Blk.new w7 30 [.int .i64 x1, .int .u64 (x2 - 1), .int .i64 x3]); have x8 := X8.out.below b7 X8.out.lt; have X8 := Lib.hid (x8.alloc (.cells #[.int .i64 x1, .int .u64 (x2 - 1), .int .i64 x3] 30)); have k8 := k7.re (Far' := F2 w4.heap.size w7.heap.size) (fun g hg h => h.elim (fun h => h) (fun h => absurd h (by show ¬ _ = _; omega))); have K7 := Lib.hid (k8.below ((Below.refl _ _).alloc (Nat.le_refl _) (.cells #[.int .i64 x1, .int .u64 (x2 - 1), .int .i64 x3] 30))); have S7 := Lib.hid (show w1.heap.size ≤ (w7.alloc (.cells #[.int .i64 x1, .int .u64 (x2 - 1), .int .i64 x3] 30)).heap.size from (by have := S6.out; have := b7.size; simp at *; omega)); have B7 := Lib.hid ((Below.next B6.out b7).alloc (Below.next B6.out b7).size (.cells #[.int .i64 x1, .int .u64 (x2 - 1), .int .i64 x3] 30)); have HF7 : Hid (∀ g, F2 w4.heap.size w7.heap.size g → g < (w7.alloc (.cells #[.int .i64 x1, .int .u64 (x2 - 1), .int .i64 x3] 30)).heap.size) := (fun g h => h.elim (fun h => h ▸ X8.out.lt) (fun h => (by subst h; simp))); clear k7 k8 x8 b7)
                | (go_at_call 13; (with_reducible refine Calls.mono (take_at K7.out HF7.out S7.out HT.out) ?_); rintro e w8 ⟨rfl, k8, o8⟩; have X10 := Lib.hid (Blk.new w8 30 [.int .i64 x1, .int .u64 (x2 - 1), .int .i64 x3]); have X8 := Lib.hid ((X8.out.only o8 (fun h => h.2 (.inl rfl))).alloc (.cells #[.int .i64 x1, .int .u64 (x2 - 1), .int .i64 x3] 30)); have X9 := Lib.hid ((X9.out.only o8 (fun h => h.2 (.inr rfl))).alloc (.cells #[.int .i64 x1, .int .u64 (x2 - 1), .int .i64 x3] 30)); have K8 := Lib.hid (k8.below ((Below.refl _ _).alloc (Nat.le_refl _) (.cells #[.int .i64 x1, .int .u64 (x2 - 1), .int .i64 x3] 30))); have B8 := Lib.hid ((Below.onlyF B7.out o8 (fun i h => Nat.le_trans HB1.out.size h.1)).alloc (Below.onlyF B7.out o8 (fun i h => Nat.le_trans HB1.out.size h.1)).size (.cells #[.int .i64 x1, .int .u64 (x2 - 1), .int .i64 x3] 30)); clear k8 o8)
                | (go_at_call 16; (with_reducible refine Calls.mono (head_k K8.out) ?_); rintro e w9 ⟨rfl, k9, b9⟩; have B9 := Lib.hid (Below.next B8.out b9); have y80 := (X8.out.below b9 X8.out.lt).cell 0; have y81 := (X8.out.below b9 X8.out.lt).cell 1; have y82 := (X8.out.below b9 X8.out.lt).cell 2; have y90 := (X9.out.below b9 X9.out.lt).cell 0; have y91 := (X9.out.below b9 X9.out.lt).cell 1; have y92 := (X9.out.below b9 X9.out.lt).cell 2; have y100 := (X10.out.below b9 X10.out.lt).cell 0; have y101 := (X10.out.below b9 X10.out.lt).cell 1; have y102 := (X10.out.below b9 X10.out.lt).cell 2; have y8l := (X8.out.below b9 X8.out.lt).lt; have y9l := (X9.out.below b9 X9.out.lt).lt; have y10l := (X10.out.below b9 X10.out.lt).lt; clear k9 b9))
              go_ret
              exact ⟨rfl, Below.next BW.out B9.out⟩
            · have e1 : decide (1 < (l.length : Int)) = false := decide_eq_false (by omega)
              have e2 : ¬ (1 : Int) < (l.length : Int) := by omega
              obtain ⟨dn, l3, ha, hn, ht⟩ := (EA l f HOK.out (by omega) 0 false).out
              have HA := Lib.hid ha
              have HN := Lib.hid hn
              have HT := Lib.hid ht
              have K4 := KI
              have S4 := SI
              have B4 := BI
              have X8 := Lib.hid (Blk.new wr 30 [.int .i64 x1, .int .u64 (x2 - 1), .int .i64 x3])
              have k5 := K4.out.re (Far' := F1 wr.heap.size) (fun g hg h => absurd h (by show ¬ _ = _; omega))
              have K5 := Lib.hid (k5.below ((Below.refl _ _).alloc (Nat.le_refl _) (.cells #[.int .i64 x1, .int .u64 (x2 - 1), .int .i64 x3] 30)))
              have S5 := Lib.hid (show w1.heap.size ≤ (wr.alloc (.cells #[.int .i64 x1, .int .u64 (x2 - 1), .int .i64 x3] 30)).heap.size from (by have := S4.out; simp at *; omega))
              have B5 := Lib.hid (B4.out.alloc B4.out.size (.cells #[.int .i64 x1, .int .u64 (x2 - 1), .int .i64 x3] 30))
              have HF5 : Hid (∀ g, F1 wr.heap.size g → g < (wr.alloc (.cells #[.int .i64 x1, .int .u64 (x2 - 1), .int .i64 x3] 30)).heap.size) := (fun g h => (by subst h; simp))
              clear k5
              clear f ha hn ht EA
              go_wp2_with (first
                | (go_at_call 11; (with_reducible refine Calls.mono (add_at K5.out HF5.out S5.out HA.out) ?_); rintro e w6 ⟨rfl, k6, o6⟩; have K6 := Lib.hid k6; have X8 := Lib.hid (X8.out.only o6 (fun h => h.2 rfl)); have S6 := Lib.hid (Nat.le_trans S5.out o6.size); have B6 := Lib.hid (Below.onlyF B5.out o6 (fun i h => Nat.le_trans HB1.out.size h.1)); clear k6 o6)
                | (go_at_call 15; (with_reducible refine Calls.mono (nextq_at K6.out HN.out) ?_); rintro e w7 ⟨rfl, k7, b7⟩; have X9 := Lib.hid (Blk.new w7 30 [.int .i64 x1, .int .u64 (x2 - 1), .int .i64 x3]); have x8 := X8.out.below b7 X8.out.lt; have X8 := Lib.hid (x8.alloc (.cells #[.int .i64 x1, .int .u64 (x2 - 1), .int .i64 x3] 30)); have k8 := k7.re (Far' := F2 wr.heap.size w7.heap.size) (fun g hg h => h.elim (fun h => h) (fun h => absurd h (by show ¬ _ = _; omega))); have K7 := Lib.hid (k8.below ((Below.refl _ _).alloc (Nat.le_refl _) (.cells #[.int .i64 x1, .int .u64 (x2 - 1), .int .i64 x3] 30))); have S7 := Lib.hid (show w1.heap.size ≤ (w7.alloc (.cells #[.int .i64 x1, .int .u64 (x2 - 1), .int .i64 x3] 30)).heap.size from (by have := S6.out; have := b7.size; simp at *; omega)); have B7 := Lib.hid ((Below.next B6.out b7).alloc (Below.next B6.out b7).size (.cells #[.int .i64 x1, .int .u64 (x2 - 1), .int .i64 x3] 30)); have HF7 : Hid (∀ g, F2 wr.heap.size w7.heap.size g → g < (w7.alloc (.cells #[.int .i64 x1, .int .u64 (x2 - 1), .int .i64 x3] 30)).heap.size) := (fun g h => h.elim (fun h => h ▸ X8.out.lt) (fun h => (by subst h; simp))); clear k7 k8 x8 b7)
                | (go_at_call 13; (with_reducible refine Calls.mono (take_at K7.out HF7.out S7.out HT.out) ?_); rintro e w8 ⟨rfl, k8, o8⟩; have X10 := Lib.hid (Blk.new w8 30 [.int .i64 x1, .int .u64 (x2 - 1), .int .i64 x3]); have X8 := Lib.hid ((X8.out.only o8 (fun h => h.2 (.inl rfl))).alloc (.cells #[.int .i64 x1, .int .u64 (x2 - 1), .int .i64 x3] 30)); have X9 := Lib.hid ((X9.out.only o8 (fun h => h.2 (.inr rfl))).alloc (.cells #[.int .i64 x1, .int .u64 (x2 - 1), .int .i64 x3] 30)); have K8 := Lib.hid (k8.below ((Below.refl _ _).alloc (Nat.le_refl _) (.cells #[.int .i64 x1, .int .u64 (x2 - 1), .int .i64 x3] 30))); have B8 := Lib.hid ((Below.onlyF B7.out o8 (fun i h => Nat.le_trans HB1.out.size h.1)).alloc (Below.onlyF B7.out o8 (fun i h => Nat.le_trans HB1.out.size h.1)).size (.cells #[.int .i64 x1, .int .u64 (x2 - 1), .int .i64 x3] 30)); clear k8 o8)
                | (go_at_call 16; (with_reducible refine Calls.mono (head_k K8.out) ?_); rintro e w9 ⟨rfl, k9, b9⟩; have B9 := Lib.hid (Below.next B8.out b9); have y80 := (X8.out.below b9 X8.out.lt).cell 0; have y81 := (X8.out.below b9 X8.out.lt).cell 1; have y82 := (X8.out.below b9 X8.out.lt).cell 2; have y90 := (X9.out.below b9 X9.out.lt).cell 0; have y91 := (X9.out.below b9 X9.out.lt).cell 1; have y92 := (X9.out.below b9 X9.out.lt).cell 2; have y100 := (X10.out.below b9 X10.out.lt).cell 0; have y101 := (X10.out.below b9 X10.out.lt).cell 1; have y102 := (X10.out.below b9 X10.out.lt).cell 2; have y8l := (X8.out.below b9 X8.out.lt).lt; have y9l := (X9.out.below b9 X9.out.lt).lt; have y10l := (X10.out.below b9 X10.out.lt).lt; clear k9 b9))
              go_ret
              exact ⟨rfl, Below.next BW.out B9.out⟩
theorem walk (w : World) (A0 : Option Addr) (n0 cap0 : Nat) (D0 : Nat → List Value) (w0 : Elems w [some .i64, some .u64, some .i64] A0 n0 D0) (l0 : n0 * 24 ≤ 140737488351232) (cs : List Value) (w1 : AllOk [some .i64, some .u64, some .i64] cs) :
    Calls Try.prog 5 #[.slice A0 n0 cap0, .agg ⟨cs⟩] w fun e w' => e = .returned (.bool true) ∧ Below w.heap.size w w' := by
  obtain ⟨U, hU, hw⟩ := wants_of w0
  obtain ⟨_, _, _, rfl, ⟨a, rfl, _⟩, ⟨b, rfl, hb⟩, ⟨c, rfl, _⟩⟩ := triple_of w1
  exact walk2 w A0 n0 cap0 U (Lib.hid hU) (by omega) ⟨a, b, c⟩ (bounds_u64 hb).1
end orderEarly
namespace orderEarly
theorem own : ownKnob Try.prog.godebug = none := by kernel_rfl
set_option maxRecDepth 100000 in
theorem lifted (os : Os) (started : os.Started) (H : Type) (enc : TypeId × Value → H) :
    ReturnsInHanded {} Try.checked os 5 .any (Rows.orderEarlySpec.pre6 enc Try.prog Try.f5 Rows.orderEarlyRow.domain false) (Rows.orderEarlySpec.post enc Try.prog Try.f5 false true false false) := by
  refine returnsInHanded_of_change_sized (C := Try.checked) own started (by kernel_rfl) Try.func5
    (ChangeSpec.witness6 (enc := enc) (C := Try.checked) false ⟨#[], #[.slice none 0 0, .agg #[.int .i64 0, .int .u64 0, .int .i64 0]], []⟩ 8 (by kernel_rfl) (by kernel_rfl) (by kernel_rfl) (by kernel_rfl)) ?_
  intro W base args ds gs before hval0 hW hcnd hsz0 _
  have hsz : (DataW.weightsEach Try.prog (Try.f5.params.toList ++ Rows.orderEarlySpec.plain.varTypes Try.prog) (ds ++ gs)).all (· ≤ reachBytes) = true := hsz0
  have hval : ∀ (j : Nat) t v, Try.f5.params[j]? = some t → args[j]? = some v → Value.okWide Try.prog W .any base t v := hval0
  have hW' := hW
  obtain ⟨p, q, hA0, hV, rfl, hfz, hnd⟩ := hW
  have hA : DataW.TrodAll enc Try.prog W 0 (fun _ => true) true Try.f5.params.toList args.toList ds p := hA0
  rw [Try.params5] at hA hval hsz
  obtain ⟨v0, vs0, d0, ds0, p0, q0, hargs, rfl, rfl, h0, r0⟩ := trodAll_cons hA
  obtain ⟨v1, vs1, d1, ds1, p1, q1, rfl, rfl, rfl, h1, r1⟩ := trodAll_cons r0
  obtain ⟨rfl, rfl, rfl⟩ := trodAll_nil r1
  obtain rfl : args = #[v0, v1] := by cases args; simp_all
  obtain ⟨rfl, rfl⟩ := trodVars_none hV
  obtain ⟨A0, n0, cap0, D0, rfl, w0, m0, z0⟩ := arg_slice [some .i64, some .u64, some .i64] Try.underlying22 6 (by kernel_rfl) (by kernel_rfl) (hval 0 22 v0 rfl rfl) h0
  have l0 : n0 * Try.prog.bytesOf 30 ≤ reachBytes := by
    rcases z0 with ⟨_, e⟩ | ⟨es, sp, e, el⟩
    · subst e; simp
    · subst e; subst el; exact Nat.le_trans (Nat.mul_le_mul_right _ (Nat.le_add_right _ _)) (sized_slice hsz (j := 0) (t := 22) (e := 30) rfl rfl Try.underlying22)
  have b0 : Try.prog.bytesOf 30 = 24 := by kernel_rfl
  rw [b0] at l0
  simp only [reachBytes] at l0
  clear z0 b0
  obtain ⟨c1, rfl, w1⟩ := arg_agg [some .i64, some .u64, some .i64] (by first | exact .inl ⟨_, Try.underlying30⟩ | exact .inr ⟨_, _, Try.underlying30⟩) 6 (by kernel_rfl) (by kernel_rfl) (hval 1 30 v1 rfl rfl) h1
  clear hA0 hval0 hsz0 hsz
  refine (walk W A0 n0 cap0 D0 w0 l0 c1 w1).mono fun e W' ⟨he, bel⟩ => ?_
  subst he
  exact ⟨_, rfl, _, _, _, [], _, [], hW', trodAll_mk1 (shut_bool Try.underlying4 _), (trodAll_cons_mk (Below.trod laidOut (by kernel_rfl) (of_decide_eq_true (by kernel_rfl)) h0 bel (fun x hx => by simpa using hW'.lt x (by simp [hx]))) (trodAll_cons_mk (Below.trod laidOut (by kernel_rfl) (of_decide_eq_true (by kernel_rfl)) h1 bel (fun x hx => by simpa using hW'.lt x (by simp [hx]))) trodAll_mk0)), rfl, bel.frame _, fun h => by cases h⟩
theorem over : Rows.orderEarlyRow.holds Try.pinned (OpenSpec.ofChange Rows.orderEarlySpec) :=
  OpenClaim.holds_of_wide 5 Try.f5 rfl rfl rfl rfl rfl rfl rfl ⟨rfl, rfl, rfl, rfl, rfl⟩ rfl rfl rfl rfl rfl (by kernel_rfl) Try.func5 (by kernel_rfl)
    (of_decide_eq_true (by kernel_rfl)) (by unfold Func.isWrapper; first | (rw [if_pos (by decide +kernel)]; kernel_rfl) | (rw [if_neg (by decide +kernel)]; exact ⟨rfl, rfl⟩))
    (fun os started H enc _ => lifted os started H enc)
end orderEarly
theorem orderEarly_holds : Rows.OrderEarlySaid := orderEarly.over
#print axioms orderEarly_holds
end Go.Proofs.Ytinpaplpgoljpaa
