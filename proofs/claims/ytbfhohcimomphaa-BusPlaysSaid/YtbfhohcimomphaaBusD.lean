/- Layer 6 (bus): a slot. -/
import Derived.Test.YtbfhohcimomphaaBusC
import Derived.Deep.DeepCutAuto
namespace Go.Proofs.Ytbfhohcimomphaa
open Go.RowKit
set_option linter.unusedVariables false
set_option linter.unusedSimpArgs false
theorem isB_congr {T : Int} {f g : Nat → Bool} {B : Bu} {M : List Ms} {i : Nat} (h : f i = g i) : isB T f B M i = isB T g B M i := by unfold isB; rw [h]
theorem bestB_congr {T : Int} {f g : Nat → Bool} {B : Bu} (i : Nat) (h : ∀ k, k < i → f k = g k) : bestB T f B i = bestB T g B i := by
  induction i with
  | zero => rfl
  | succ i ih => rw [bestB_succ, bestB_succ, ih (fun k hk => h k (by omega)), isB_congr (h i (by omega))]
def freshB (T : Int) (B : Bu) : Bu := { B with who := if B.beg = false ∨ T ≠ B.last + 1 then -1 else B.who, row := if B.beg = false ∨ T ≠ B.last + 1 then 0 else B.row, beg := true, last := T }
def stallB (want : Nat → Bool) (id : Int) (S : List Int) : Nat → List Int
  | 0 => S
  | k + 1 => if want k = true ∧ (k : Int) ≠ id then (stallB want id S k).set k (((stallB want id S k)[k]?.getD 0) + 1) else stallB want id S k
theorem stallB_len (want : Nat → Bool) (id : Int) (S : List Int) (k : Nat) : (stallB want id S k).length = S.length := by
  induction k with
  | zero => rfl
  | succ k ih => unfold stallB; split; simp [ih]; exact ih
theorem stallB_at (want : Nat → Bool) (id : Int) (S : List Int) {k j : Nat} (h : k ≤ j) : (stallB want id S k)[j]? = S[j]? := by
  induction k with
  | zero => rfl
  | succ k ih =>
    unfold stallB
    split
    · rw [List.getElem?_set_ne (by omega)]; exact ih (by omega)
    · exact ih (by omega)
def takeAt (T : Int) (i : Nat) (M : List Ms) : List Ms := match M[i]? with
  | some s => M.set i (takeM T 1 s).2
  | none => M
def winB (T : Int) (want : Nat → Bool) (B : Bu) : (Int × Int) × Bu :=
  if (bestB T want B B.L.length).1 = -1 then ((0, 5), { B with M := (bestB T want B B.L.length).2, S := stallB want (-1) B.S B.L.length, who := -1, row := 0 })
  else (((bestB T want B B.L.length).1, 0), { B with M := takeAt T (bestB T want B B.L.length).1.toNat (bestB T want B B.L.length).2, S := stallB want (bestB T want B B.L.length).1 B.S B.L.length, who := (bestB T want B B.L.length).1, row := if (bestB T want B B.L.length).1 = B.who then B.row + 1 else 1 })
def wants (l : List Int) (k : Nat) : Bool := decide ((k : Int) ∈ l)
def slotB (T : Int) (l : List Int) (B : Bu) : (Int × Int) × Bu :=
  if 4611686018427387904 ≤ T then ((0, 2), B) else if okWants l B.L.length = false ∨ T < B.ph ∨ (B.beg = true ∧ T ≤ B.last) then ((0, 1), B) else winB T (wants l) (freshB T B)
def Stands (w : World) (A : Bl) (B : Bu) (want : Nat → Bool) (T : Int) (a b c : Nat) (wx : World) : Prop :=
  IsB wx A B ∧ Only A.own w wx ∧ Blk wx a 70 (wantCells want) ∧ Blk wx b 26 [.pointer (some ⟨A.p, 0, none⟩)] ∧ Blk wx c 30 [.int .u64 T]
theorem Stands.drewN {w wx : World} {A : Bl} {B : Bu} {want : Nat → Bool} {T : Int} {a b c : Nat} (h : Stands w A B want T a b c wx) (n : Nat) : Stands w A B want T a b c (wx.drewN n) := ⟨h.1.drewN n, h.2.1.drewN n, h.2.2.1.drewN n, h.2.2.2.1.drewN n, h.2.2.2.2.drewN n⟩
theorem Stands.drew {w wx : World} {A : Bl} {B : Bu} {want : Nat → Bool} {T : Int} {a b c : Nat} (h : Stands w A B want T a b c wx) : Stands w A B want T a b c wx.drew := h.drewN 1
theorem Stands.set {w wx : World} {A : Bl} {B B' : Bu} {want : Nat → Bool} {T : Int} {a b c k : Nat} {x : Value} (h : Stands w A B want T a b c wx) (k' : IsB (wx.setCell ⟨A.p, k, none⟩ x) A B') (na : ¬ A.own a) (nb : ¬ A.own b) (nc : ¬ A.own c) : Stands w A B' want T a b c (wx.setCell ⟨A.p, k, none⟩ x) :=
  ⟨k', h.2.1.setCell (p := ⟨A.p, k, none⟩) (fun _ => .inl rfl) x, h.2.2.1.far (fun e => na (.inl e)) x, h.2.2.2.1.far (fun e => nb (.inl e)) x, h.2.2.2.2.far (fun e => nc (.inl e)) x⟩
theorem Stands.only {w wx wy : World} {A : Bl} {B B' : Bu} {want : Nat → Bool} {T : Int} {a b c : Nat} (h : Stands w A B want T a b c wx) (k' : IsB wy A B') (o : Only A.own wx wy) (na : ¬ A.own a) (nb : ¬ A.own b) (nc : ¬ A.own c) : Stands w A B' want T a b c wy :=
  ⟨k', h.2.1.trans o (fun _ _ h => h), h.2.2.1.only o na, h.2.2.2.1.only o nb, h.2.2.2.2.only o nc⟩
section
variable {w wx : World} {A : Bl} {B : Bu} {want : Nat → Bool} {T : Int} {a b c : Nat}
theorem Stands.who (h : Stands w A B want T a b c wx) (x : Int) (na : ¬ A.own a) (nb : ¬ A.own b) (nc : ¬ A.own c) : Stands w A { B with who := x } want T a b c (wx.setCell ⟨A.p, 21, none⟩ (.int .i64 x)) := h.set (h.1.setWho x) na nb nc
theorem Stands.row (h : Stands w A B want T a b c wx) (x : Int) (na : ¬ A.own a) (nb : ¬ A.own b) (nc : ¬ A.own c) : Stands w A { B with row := x } want T a b c (wx.setCell ⟨A.p, 22, none⟩ (.int .i64 x)) := h.set (h.1.setRow x) na nb nc
theorem Stands.beg (h : Stands w A B want T a b c wx) (x : Bool) (na : ¬ A.own a) (nb : ¬ A.own b) (nc : ¬ A.own c) : Stands w A { B with beg := x } want T a b c (wx.setCell ⟨A.p, 18, none⟩ (.bool x)) := h.set (h.1.setBeg x) na nb nc
theorem Stands.last (h : Stands w A B want T a b c wx) (x : Int) (na : ¬ A.own a) (nb : ¬ A.own b) (nc : ¬ A.own c) : Stands w A { B with last := x } want T a b c (wx.setCell ⟨A.p, 19, none⟩ (.int .u64 x)) := h.set (h.1.setLast x) na nb nc
end
def fwB (T : Int) (B : Bu) : Bu := { B with who := if B.beg = false ∨ T ≠ B.last + 1 then -1 else B.who, row := if B.beg = false ∨ T ≠ B.last + 1 then 0 else B.row }
theorem wantCells_congr {f g : Nat → Bool} (h : ∀ k, k < 16 → f k = g k) : wantCells f = wantCells g := by
  unfold wantCells
  refine List.map_congr_left fun k hk => ?_
  rw [h k (by simpa using hk)]
theorem Stands.want {w wx : World} {A : Bl} {B : Bu} {f g : Nat → Bool} {T : Int} {a b c : Nat} (s : Stands w A B f T a b c wx) (h : ∀ k, k < 16 → f k = g k) : Stands w A B g T a b c wx :=
  ⟨s.1, s.2.1, wantCells_congr h ▸ s.2.2.1, s.2.2.2.1, s.2.2.2.2⟩
def RelS (w : World) (A : Bl) (B : Bu) (want : Nat → Bool) (id : Int) (T : Int) (a b c : Nat) (iv : Value) (wr : World) : Prop :=
  ∃ k : Nat, iv = .int .i64 k ∧ k ≤ B.L.length ∧ Stands w A { B with S := stallB want id B.S k } want T a b c wr
theorem takeAt_is {T : Int} {i : Nat} {M : List Ms} {s : Ms} (h : M[i]? = some s) : takeAt T i M = M.set i (takeM T 1 s).2 := by unfold takeAt; rw [h]
theorem fresh_eq (T : Int) (B : Bu) : freshB T B = { fwB T B with beg := true, last := T } := rfl
set_option maxRecDepth 100000 in
set_option maxHeartbeats 2000000 in
theorem slot_ok {w : World} {A : Bl} {B : Bu} (k : IsB w A B) (hok : ∀ s ∈ B.M, s.ok) (T : Int) (h0 : 0 ≤ T) (h1 : T < 4611686018427387904) (hn : B.L.length ≤ 16) (l : List Int) (Aw : Option Addr) (c : Nat) (hs : Src w 1 Aw l.length (intCells l)) (hl : l.length ≤ 140737488351232)
    (g1 : okWants l B.L.length = true) (g2 : B.ph ≤ T) (g3 : B.beg = true → B.last < T) (bl : 0 ≤ B.last ∧ B.last < 4611686018427387904) (br : 0 ≤ B.row ∧ B.row ≤ 1000000000) (hS : ∀ x ∈ B.S, 0 ≤ x ∧ x ≤ 1000000000) :
    Calls Try.prog 12 #[.pointer (some ⟨A.p, 0, none⟩), .int .u64 T, .slice Aw l.length c] w fun e w' => e = .returned (.tuple #[.int .i64 (winB T (wants l) (freshB T B)).1.1, .int .i64 (winB T (wants l) (freshB T B)).1.2]) ∧ IsB w' A (winB T (wants l) (freshB T B)).2 ∧ Only A.own w w' := by
  have bw : Below w.heap.size w ((w.alloc (.cells #[.pointer (some ⟨A.p, 0, none⟩)] 26)).alloc (.cells #[.int .u64 T] 30)) := ((Below.refl _ _).alloc (Nat.le_refl _) _).alloc (by simp) _
  have MK := Lib.hid (marks_any (k.below bw) hn l Aw c (hs.below bw) hl)
  have TM := fun W => Lib.hid (may_any T W)
  have d0 : decide (T < 4611686018427387904) = true := decide_eq_true h1
  have d1 : decide (T < B.ph) = false := decide_eq_false (by omega)
  have BX := Lib.hid ((Blk.new w 26 [.pointer (some ⟨A.p, 0, none⟩)]).alloc (.cells #[.int .u64 T] 30))
  have TX := Lib.hid (show Blk ((w.alloc (.cells #[.pointer (some ⟨A.p, 0, none⟩)] 26)).alloc (.cells #[.int .u64 T] 30)) (w.heap.size + 1) 30 [.int .u64 T] from by
    have := Blk.new (w.alloc (.cells #[.pointer (some ⟨A.p, 0, none⟩)] 26)) 30 [.int .u64 T]
    simpa using this)
  have K := Lib.hid k
  have BW := Lib.hid bw
  have OKS := Lib.hid hok
  have G1 := Lib.hid g1
  obtain ⟨r0, r1⟩ := br
  obtain ⟨l0, l1⟩ := bl
  have G3 := Lib.hid g3
  have HSB := Lib.hid hS
  have hmf : ∀ (fn : Fn) (first cap : Array Value) (w : World), (Instr.makeFunc fn first cap).run Try.prog w = .ok (.func fn first cap) w := fun _ _ _ _ => rfl
  clear k bw hs hok g1 g3 hS
  go_enter Try.func12, Try.ntmps12
  go_upto_region 4 with (first
    | (go_at_call 23; (with_reducible refine Calls.mono MK.out ?_); rintro e w1 ⟨want, rfl, hw, b1⟩
       rw [G1.out]
       have k1 := (K.out.below BW.out).below b1
       have hb1 := BX.out.below b1 BX.out.lt
       have ht1 := TX.out.below b1 TX.out.lt
       have xb : w1.cell? ⟨w.heap.size, 0, none⟩ = some (.pointer (some ⟨A.p, 0, none⟩)) := hb1.cell 0
       have xt : w1.cell? ⟨w.heap.size + 1, 0, none⟩ = some (.int .u64 T) := ht1.cell 0
       obtain ⟨c0, c1, c18, c19, c20, c21, c22⟩ := k1.cells
       have hz := hb1.lt
       have hz2 := ht1.lt
       have hz3 := k1.blk.lt
       have K1 := Lib.hid k1
       have HB1 := Lib.hid hb1
       have HT1 := Lib.hid ht1
       have B1 := Lib.hid (Below.next BW.out b1)
       have HW := Lib.hid (hw G1.out)
       clear k1 hb1 ht1 b1 hw)
    | (go_at_call 21; (with_reducible refine Calls.mono (TM _).out ?_); rintro e w2 ⟨rfl, rfl⟩))
  have SA := Lib.hid (show Stands w A B want T w1.heap.size w.heap.size (w.heap.size + 1) (w1.alloc (.cells ⟨wantCells want⟩ 70)) from
    ⟨(K1.out.alloc _), (Only.of_below (B1.out.alloc B1.out.size _)), (Blk.new w1 _ _), (HB1.out.alloc _), (HT1.out.alloc _)⟩)
  have NA : Hid (¬ A.own w1.heap.size) := fun h => by have := K1.out.lt (.inl h); omega
  have NB : Hid (¬ A.own w.heap.size) := fun h => by have := K.out.lt (.inl h); omega
  have NC : Hid (¬ A.own (w.heap.size + 1)) := fun h => by have := K.out.lt (.inl h); omega
  clear K1 HB1 HT1
  go_cut [22] (fun s22 wx => s22 = .bool false ∧ Hid (Stands w A B want T w1.heap.size w.heap.size (w.heap.size + 1) wx))
  case first =>
    cases hb : B.beg with
    | false =>
      rw [hb] at c18
      go_quiet (fail)
      go_wp2_with fail
      go_meet
      exact ⟨rfl, SA.out.drewN _⟩
    | true =>
      rw [hb] at c18
      have d2 : decide (T ≤ B.last) = false := decide_eq_false (by have := G3.out hb; omega)
      go_quiet (fail)
      go_wp2_with fail
      go_meet
      exact ⟨rfl, SA.out.drewN _⟩
  case rest =>
    obtain ⟨rfl, SB⟩ := hcut
    clear c0 c1 c18 c19 c20 c21 c22 xb xt hz3 SA B1
    obtain ⟨kS, oS, haS, hbS, hcS⟩ := SB.out
    obtain ⟨c0, c1, c18, c19, c20, c21, c22⟩ := kS.cells
    have xb : wc.cell? ⟨w.heap.size, 0, none⟩ = some (.pointer (some ⟨A.p, 0, none⟩)) := hbS.cell 0
    have xt : wc.cell? ⟨w.heap.size + 1, 0, none⟩ = some (.int .u64 T) := hcS.cell 0
    have fz : ∀ k, Hid (wc.frozen? ⟨A.p, k, none⟩ = false) := fun k => kS.blk.free k
    have hz3 := kS.blk.lt
    clear kS oS haS hbS hcS
    go_upto_region 6 with (fail)
    go_cut [60] (fun s60 wx => s60 = .bool (decide (B.beg = false ∨ T ≠ B.last + 1)) ∧ Hid (Stands w A B want T w1.heap.size w.heap.size (w.heap.size + 1) wx))
    case first =>
      cases hb : B.beg with
      | false =>
        rw [hb] at c18
        go_quiet (fail)
        go_wp2_with fail
        go_meet
        exact ⟨by simp [hb], SB.out.drewN _⟩
      | true =>
        rw [hb] at c18
        by_cases hf : T = B.last + 1
        · have d3 : (T == B.last + 1) = true := beq_iff_eq.2 hf
          have HF := Lib.hid hf
          clear hf
          go_quiet (fail)
          go_wp2_with fail
          go_meet
          exact ⟨by simp [hb, HF.out], SB.out.drewN _⟩
        · have d3 : (T == B.last + 1) = false := beq_eq_false_iff_ne.2 hf
          have HF := Lib.hid hf
          clear hf
          go_quiet (fail)
          go_wp2_with fail
          go_meet
          exact ⟨by simp [hb, HF.out], SB.out.drewN _⟩
    case rest =>
      obtain ⟨rfl, SB⟩ := hcut
      clear c0 c1 c18 c19 c20 c21 c22 xb xt hz3 fz
      obtain ⟨kS, oS, haS, hbS, hcS⟩ := SB.out
      obtain ⟨c0, c1, c18, c19, c20, c21, c22⟩ := kS.cells
      have xb : wc.cell? ⟨w.heap.size, 0, none⟩ = some (.pointer (some ⟨A.p, 0, none⟩)) := hbS.cell 0
      have xt : wc.cell? ⟨w.heap.size + 1, 0, none⟩ = some (.int .u64 T) := hcS.cell 0
      have fz : ∀ k, Hid (wc.frozen? ⟨A.p, k, none⟩ = false) := fun k => kS.blk.free k
      have hz3 := kS.blk.lt
      clear kS oS haS hbS hcS
      go_upto_if 60 with (fail)
      go_cut [61] (fun _ wx => Hid (Stands w A (fwB T B) want T w1.heap.size w.heap.size (w.heap.size + 1) wx))
      case first =>
        by_cases hf : B.beg = false ∨ T ≠ B.last + 1
        · rw [decide_eq_true hf]
          have FW := Lib.hid (show fwB T B = { B with who := -1, row := 0 } from by unfold fwB; rw [if_pos hf, if_pos hf])
          clear hf
          have f21 := (fz 21).out
          have f22 := (fz 22).out
          go_wp2_with fail
          go_region
          all_goals
            go_wp2_with fail
            go_meet
            rw [FW.out]
            first
              | exact (SB.out.drew.who (-1) NA.out NB.out NC.out).row 0 NA.out NB.out NC.out
              | exact (SB.out.drew.row 0 NA.out NB.out NC.out).who (-1) NA.out NB.out NC.out
        · rw [decide_eq_false hf]
          have FW := Lib.hid (show fwB T B = B from by unfold fwB; rw [if_neg hf, if_neg hf])
          clear hf
          go_wp2_with fail
          go_meet
          rw [FW.out]
          exact SB.out
      case rest =>
        have SB := hcut
        clear c0 c1 c18 c19 c20 c21 c22 xb xt hz3 fz hcut
        obtain ⟨kS, oS, haS, hbS, hcS⟩ := SB.out
        obtain ⟨c0, c1, c18, c19, c20, c21, c22⟩ := kS.cells
        have xb : wc.cell? ⟨w.heap.size, 0, none⟩ = some (.pointer (some ⟨A.p, 0, none⟩)) := hbS.cell 0
        have xt : wc.cell? ⟨w.heap.size + 1, 0, none⟩ = some (.int .u64 T) := hcS.cell 0
        have f18 : wc.frozen? ⟨A.p, 18, none⟩ = false := kS.blk.free 18
        have f19 : wc.frozen? ⟨A.p, 19, none⟩ = false := kS.blk.free 19
        have hz3 := kS.blk.lt
        clear kS oS haS hbS hcS
        go_upto_region 8 with (fail)
        go_cut [67] (fun _ wx => Hid (Stands w A (freshB T B) want T w1.heap.size w.heap.size (w.heap.size + 1) wx))
        case first =>
          go_region
          all_goals
            go_wp2_with fail
            go_meet
            first
              | exact (SB.out.drew.beg true NA.out NB.out NC.out).last T NA.out NB.out NC.out
              | exact (SB.out.drew.last T NA.out NB.out NC.out).beg true NA.out NB.out NC.out
        case rest =>
          have SB := hcut
          clear c0 c1 c18 c19 c20 c21 c22 xb xt hz3 f18 f19 hcut
          have SB := Lib.hid (SB.out.want (g := wants l) (fun k hk => by rw [HW.out k hk]; rfl))
          have hok2 : ∀ s ∈ (freshB T B).M, s.ok := OKS.out
          have hL2 : (freshB T B).L = B.L := rfl
          have hS2 : (freshB T B).S = B.S := rfl
          have br2 : 0 ≤ (freshB T B).row ∧ (freshB T B).row ≤ 1000000000 := by unfold freshB; simp only; split <;> omega
          generalize hB2 : freshB T B = B2 at *
          have HB2 := Lib.hid hB2
          clear hB2
          have hn2 : B2.L.length ≤ 16 := by rw [hL2]; exact hn
          rw [← hS2] at HSB
          obtain ⟨kS, oS, haS, hbS, hcS⟩ := SB.out
          obtain ⟨c0, c1, c18, c19, c20, c21, c22⟩ := kS.cells
          have xb : wc.cell? ⟨w.heap.size, 0, none⟩ = some (.pointer (some ⟨A.p, 0, none⟩)) := hbS.cell 0
          have xt : wc.cell? ⟨w.heap.size + 1, 0, none⟩ = some (.int .u64 T) := hcS.cell 0
          have f21 : wc.frozen? ⟨A.p, 21, none⟩ = false := kS.blk.free 21
          have f22 : wc.frozen? ⟨A.p, 22, none⟩ = false := kS.blk.free 22
          have hz3 := kS.blk.lt
          have BE := Lib.hid (bestb_any kS hok2 T h0 (by omega) hn2 (wants l) w1.heap.size w.heap.size (w.heap.size + 1) haS hbS hcS NA.out NB.out NC.out)
          have rng := bestB_rng T (wants l) B2 B2.L.length
          have okr := bestB_ok hok2 B2.L.length (T := T) (want := wants l)
          have lnr := bestB_len T (wants l) B2 B2.L.length
          have hlm := kS.lm
          generalize hr1 : (bestB T (wants l) B2 B2.L.length).1 = r1 at *
          generalize hr2 : (bestB T (wants l) B2 B2.L.length).2 = r2 at *
          have HR1 := Lib.hid hr1
          have HR2 := Lib.hid hr2
          have OKR := Lib.hid okr
          have HSB2 := HSB
          clear kS oS haS hbS hcS hr1 hr2 okr hok2 hS2 hL2 HW MK OKS G1 G3
          obtain ⟨A0, cp0, ev, -⟩ := SB.out.1.list.shape
          rw [ev] at c0
          have EV := Lib.hid ev
          clear ev
          go_wp2_with (go_at_call 24; (with_reducible refine Calls.mono BE.out ?_); rintro e w2 ⟨rfl, k2, o2⟩
                       have S2 := Lib.hid (SB.out.only k2 o2 NA.out NB.out NC.out)
                       have c0' := k2.cells.1
                       rw [EV.out] at c0'
                       have xb2 : w2.cell? ⟨w.heap.size, 0, none⟩ = some (.pointer (some ⟨A.p, 0, none⟩)) := S2.out.2.2.2.1.cell 0
                       clear k2 o2)
          go_loopw [82] (fun iv wr => Hid (RelS w A { B2 with M := r2 } (wants l) r1 T w1.heap.size w.heap.size (w.heap.size + 1) iv wr)) (fun iv _ => B2.L.length - (intOf iv).toNat)
          case atStart => exact ⟨0, rfl, by simp only; omega, S2.out⟩
          case round =>
            clear c0 c1 c18 c19 c20 c21 c22 xb xt f21 f22 hz3 BE SB S2 c0' xb2
            obtain ⟨k, rfl, hk, hst⟩ := hrel
            have SB := Lib.hid hst
            clear hst
            obtain ⟨kS, oS, haS, hbS, hcS⟩ := SB.out
            obtain ⟨c0, c1, c18, c19, c20, c21, c22⟩ := kS.cells
            have xb : wr.cell? ⟨w.heap.size, 0, none⟩ = some (.pointer (some ⟨A.p, 0, none⟩)) := hbS.cell 0
            have xt : wr.cell? ⟨w.heap.size + 1, 0, none⟩ = some (.int .u64 T) := hcS.cell 0
            have f21 : wr.frozen? ⟨A.p, 21, none⟩ = false := kS.blk.free 21
            have f22 : wr.frozen? ⟨A.p, 22, none⟩ = false := kS.blk.free 22
            have hz3 := kS.blk.lt
            simp only at hk
            by_cases hkl : k < B2.L.length
            · have hk2 : (k : Int) < B2.L.length := by omega
              have hk16 : k < 16 := by omega
              have hk17 : (k : Int) < 16 := by omega
              have hls : B2.S.length = 16 := by have := kS.ls; simp only [stallB_len] at this; exact this
              have hx : B2.S[k]? = some (B2.S[k]'(by omega)) := List.getElem?_eq_getElem _
              have hx2 : (stallB (wants l) r1 B2.S k)[k]? = some (B2.S[k]'(by omega)) := (stallB_at _ _ _ (Nat.le_refl k)).trans hx
              have hcell := kS.stall (k := k) hx2
              have hfr : wr.frozen? ⟨A.p, 2 + k, none⟩ = false := kS.blk.free _
              obtain ⟨x0, x1⟩ := HSB2.out _ (List.mem_of_getElem? hx)
              have hwk := want_at haS hk16
              have es : stallB (wants l) r1 B2.S (k + 1) = if wants l k = true ∧ (k : Int) ≠ r1 then (stallB (wants l) r1 B2.S k).set k (((stallB (wants l) r1 B2.S k)[k]?.getD 0) + 1) else stallB (wants l) r1 B2.S k := rfl
              rw [hx2] at es
              simp only [Option.getD_some] at es
              generalize B2.S[k]'(by omega) = x at *
              have SET := Lib.hid (kS.setStall hk16 (x + 1))
              have ES := Lib.hid es
              clear kS oS haS hbS hcS hx hx2 es hls
              cases hw : wants l k with
              | false =>
                rw [hw] at hwk
                have ES2 := Lib.hid (show stallB (wants l) r1 B2.S (k + 1) = stallB (wants l) r1 B2.S k from by rw [ES.out, if_neg (by rw [hw]; simp)])
                clear hw ES
                go_wp2_with fail
                go_roundw
                case rel => exact ⟨k + 1, by go_num, by simp only; omega, by simp only [ES2.out]; exact SB.out⟩
                case measure => simp [intOf]; omega
              | true =>
                rw [hw] at hwk
                by_cases hid : (k : Int) = r1
                · have e1 : ((k : Int) == r1) = true := beq_iff_eq.2 hid
                  have ES2 := Lib.hid (show stallB (wants l) r1 B2.S (k + 1) = stallB (wants l) r1 B2.S k from by rw [ES.out, if_neg (by rintro ⟨-, h⟩; exact h hid)])
                  clear hw ES hid
                  go_wp2_with fail
                  go_roundw
                  case rel => exact ⟨k + 1, by go_num, by simp only; omega, by simp only [ES2.out]; exact SB.out⟩
                  case measure => simp [intOf]; omega
                · have e1 : ((k : Int) == r1) = false := beq_eq_false_iff_ne.2 hid
                  have ES2 := Lib.hid (show stallB (wants l) r1 B2.S (k + 1) = (stallB (wants l) r1 B2.S k).set k (x + 1) from by rw [ES.out, if_pos ⟨hw, hid⟩])
                  clear hw ES hid
                  go_wp2_with fail
                  go_region
                  all_goals
                    go_wp2_with fail
                    go_roundw
                    case rel => exact ⟨k + 1, by go_num, by simp only; omega, by simp only [ES2.out]; exact (SB.out.set SET.out NA.out NB.out NC.out).drew⟩
                    case measure => simp [intOf]; omega
            · have hk2 : ¬ (k : Int) < B2.L.length := by omega
              obtain rfl : k = B2.L.length := by omega
              rcases rng with rfl | ⟨b, rfl, hbl⟩
              · have WIN := Lib.hid (show winB T (wants l) B2 = ((0, 5), { B2 with M := r2, S := stallB (wants l) (-1) B2.S B2.L.length, who := -1, row := 0 }) from by unfold winB; rw [if_pos HR1.out, HR2.out])
                clear kS oS haS hbS hcS HR1 HR2
                go_wp2_with fail
                go_region
                all_goals
                  go_wp2_with fail
                  go_ret2
                  rw [HB2.out, WIN.out]
                  exact ⟨rfl, ((SB.out.who (-1) NA.out NB.out NC.out).row 0 NA.out NB.out NC.out).drew.1, ((SB.out.who (-1) NA.out NB.out NC.out).row 0 NA.out NB.out NC.out).drew.2.1⟩
              · have ht : ((b : Nat) : Int).toNat = b := by omega
                obtain ⟨x, s, m, hx, hs, hm, hmem, kx⟩ := kS.at_ (i := b) hbl
                simp only at hs
                have WIN := Lib.hid (show winB T (wants l) B2 = (((b : Int), 0), { B2 with M := r2.set b (takeM T 1 s).2, S := stallB (wants l) b B2.S B2.L.length, who := (b : Int), row := if (b : Int) = B2.who then B2.row + 1 else 1 }) from by
                  unfold winB
                  rw [if_neg (by rw [HR1.out]; omega), HR1.out, HR2.out, ht, takeAt_is hs])
                have oks := OKR.out s (List.mem_of_getElem? hs)
                have TK := fun W (kk : IsM W x s) => Lib.hid (takem_any kk oks T 1 h0 (by omega) (by omega) (by omega))
                obtain ⟨g', off', c', eu, b0, hg'⟩ := kS.meter hx
                have hgp : g' ≠ A.p := fun e => (kS.row.ne kS.blk (by decide)) (by rw [eu, e]; rfl)
                rw [eu] at c1
                have HX := Lib.hid hx
                have MEM := Lib.hid hmem
                have MET : ∀ (W : World) (B' : Bu), IsB W A B' → B'.M = r2 → IsM W x s := fun W B' h e => h.met b x s hx (by rw [e]; exact hs)
                have e0 : ((b : Nat) : Int) ≠ -1 := by omega
                have e1 : (((b : Nat) : Int) == -1) = false := beq_eq_false_iff_ne.2 e0
                have b1 : (0 : Int) ≤ b := by omega
                have b2 : (b : Int) < B2.L.length := by omega
                obtain ⟨rw0, rw1⟩ := br2
                have MET2 := Lib.hid MET
                clear kS oS haS hbS hcS HR1 HR2 hx hs hm hmem kx eu oks e0 MET ht
                by_cases hw : (b : Int) = B2.who
                · have e2 : ((b : Int) == B2.who) = true := beq_iff_eq.2 hw
                  have HWH := Lib.hid hw
                  clear hw
                  go_wp2_with fail
                  have SD := Lib.hid ((SB.out.row (B2.row + 1) NA.out NB.out NC.out).drew)
                  have RW := Lib.hid (show (if (b : Int) = B2.who then B2.row + 1 else 1) = B2.row + 1 from by rw [if_pos HWH.out])
                  have KM := Lib.hid (MET2.out _ _ SD.out.1 rfl)
                  go_region_with (go_at_call 27; (with_reducible refine Calls.mono (TK _ KM.out).out ?_); rintro e w5 ⟨rfl, k5, o5⟩; have K5 := Lib.hid k5; have O5 := Lib.hid o5; clear k5 o5)
                  all_goals
                    go_wp2_with fail
                    go_ret2
                    rw [HB2.out, WIN.out, RW.out]
                    refine ⟨rfl, ?_, SD.out.2.1.trans O5.out (fun _ _ e => .inr (e ▸ MEM.out))⟩
                    have fin := SD.out.1.turn HX.out O5.out K5.out
                    have E : ∀ M S r, ({ B2 with M := M, S := S, who := (b : Int), row := r } : Bu) = { B2 with M := M, S := S, row := r } := fun M S r => by rw [HWH.out]
                    rw [E]
                    exact fin
                · have e2 : ((b : Int) == B2.who) = false := beq_eq_false_iff_ne.2 hw
                  have HWH := Lib.hid hw
                  clear hw
                  go_wp2_with fail
                  go_region
                  all_goals
                    go_wp2_with fail
                    have SD := Lib.hid ((((SB.out.who b NA.out NB.out NC.out).row 0 NA.out NB.out NC.out).row 1 NA.out NB.out NC.out).drew.drew)
                    have RW := Lib.hid (show (if (b : Int) = B2.who then B2.row + 1 else 1) = 1 from by rw [if_neg HWH.out])
                    have KM := Lib.hid (MET2.out _ _ SD.out.1 rfl)
                    go_region_with (go_at_call 27; (with_reducible refine Calls.mono (TK _ KM.out).out ?_); rintro e w5 ⟨rfl, k5, o5⟩; have K5 := Lib.hid k5; have O5 := Lib.hid o5; clear k5 o5)
                    all_goals
                      go_wp2_with fail
                      go_ret2
                      rw [HB2.out, WIN.out, RW.out]
                      refine ⟨rfl, ?_, SD.out.2.1.trans O5.out (fun _ _ e => .inr (e ▸ MEM.out))⟩
                      have fin := SD.out.1.turn HX.out O5.out K5.out
                      exact fin
end Go.Proofs.Ytbfhohcimomphaa
