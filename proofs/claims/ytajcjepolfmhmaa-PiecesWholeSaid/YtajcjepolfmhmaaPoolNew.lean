/- Layer 7 (pool): whether classes may be; a new pool. -/
import Derived.Test.YtajcjepolfmhmaaPool
import Derived.Deep.QuietTactic
import Derived.BigQuiet
import Derived.StillTailTactics
import Derived.Deep.RegionLaw
import Derived.BigRegion
import Derived.Deep.RegionWith
import Derived.Deep.OwnRows
namespace Go.Proofs.Ytajcjepolfmhmaa
open Go.RowKit
set_option linter.unusedVariables false
set_option linter.unusedSimpArgs false
/-- Classes: of each its size, and how many. -/
def Cls (w : World) (A : Option Addr) (n : Nat) (S C : Nat → Int) : Prop :=
  ∀ i, i < n → ∃ b off, A = some ⟨b, off, none⟩ ∧ b < w.heap.size ∧ w.cell? ⟨b, off + i * 2, none⟩ = some (.int .i64 (S i)) ∧ w.cell? ⟨b, off + i * 2 + 1, none⟩ = some (.int .i64 (C i))
theorem Cls.below {w w' : World} {A : Option Addr} {n : Nat} {S C : Nat → Int} (h : Cls w A n S C) (o : Below w.heap.size w w') : Cls w' A n S C := by
  intro i hi
  obtain ⟨b, off, e, hb, h1, h2⟩ := h i hi
  exact ⟨b, off, e, Nat.lt_of_lt_of_le hb o.size, (o.cell (p := ⟨b, _, none⟩) hb).trans h1, (o.cell (p := ⟨b, _, none⟩) hb).trans h2⟩
def lastC (S : Nat → Int) : Nat → Int
  | 0 => 0
  | i + 1 => S i
def okC (S C : Nat → Int) (i : Nat) : Prop := lastC S i < S i ∧ S i ≤ 65536 ∧ 1 ≤ C i ∧ C i ≤ 100
instance (S C : Nat → Int) (i : Nat) : Decidable (okC S C i) := inferInstanceAs (Decidable (_ ∧ _))
def mayC (n : Nat) (S C : Nat → Int) : Prop := 1 ≤ n ∧ n ≤ 8 ∧ ∀ i, i < n → okC S C i
def MayPost (w : World) (n : Nat) (S C : Nat → Int) (e : Ending) (w' : World) : Prop := ∃ r, e = .returned (.bool r) ∧ (r = true ↔ mayC n S C) ∧ Below w.heap.size w w'
theorem MayPost.no {w w' : World} {n : Nat} {S C : Nat → Int} {e : Ending} (h : e = .returned (.bool false)) (hn : ¬ mayC n S C) (b : Below w.heap.size w w') : MayPost w n S C e w' := ⟨false, h, ⟨(fun h => by cases h), fun h => absurd h hn⟩, b⟩
theorem MayPost.yes {w w' : World} {n : Nat} {S C : Nat → Int} {e : Ending} (h : e = .returned (.bool true)) (hn : mayC n S C) (b : Below w.heap.size w w') : MayPost w n S C e w' := ⟨true, h, ⟨fun _ => hn, fun _ => rfl⟩, b⟩
def RelMay (w : World) (n : Nat) (S C : Nat → Int) (lv iv : Value) (wr : World) : Prop :=
  ∃ i : Nat, iv = .int .i64 i ∧ i ≤ n ∧ lv = .int .i64 (lastC S i) ∧ (∀ j, j < i → okC S C j) ∧ Below w.heap.size w wr
set_option maxHeartbeats 2000000 in
theorem mayc_any (w : World) (A : Option Addr) (n cap : Nat) (S C : Nat → Int) (hA : Hid (Cls w A n S C)) (hS : Hid (∀ i, i < n → -9223372036854775808 ≤ S i ∧ S i ≤ 9223372036854775807 ∧ -9223372036854775808 ≤ C i ∧ C i ≤ 9223372036854775807)) (hn : n ≤ 140737488351232) :
    Calls Try.prog 30 #[.slice A n cap] w (MayPost w n S C) := by
  have hl0 : ∀ i, i ≤ n → -9223372036854775808 ≤ lastC S i ∧ lastC S i ≤ 9223372036854775807 := fun i hi => by
    cases i with
    | zero => simp [lastC]
    | succ i => have := hS.out i (by omega); simp only [lastC]; omega
  have HL := Lib.hid hl0
  clear hl0
  go_enter Try.func30, Try.ntmps30
  go_wp2_with fail
  go_loopw [3, 8] (fun lv iv wr => Hid (RelMay w n S C lv iv wr)) (fun _ iv _ => n - (intOf iv).toNat)
  case atStart => exact ⟨0, rfl, by omega, rfl, fun j hj => absurd hj (by omega), Below.refl _ _⟩
  case round =>
    obtain ⟨i, rfl, hi, rfl, hall, hbel⟩ := hrel
    have BEL := Lib.hid hbel
    have HALL := Lib.hid hall
    by_cases hin : i < n
    · obtain ⟨ab, ao, rfl, hlt, hc0, hc1⟩ := hA.out i hin
      have hcell0 := (hbel.cell (p := ⟨ab, ao + i * 2, none⟩) hlt).trans hc0
      have hcell1 := (hbel.cell (p := ⟨ab, ao + i * 2 + 1, none⟩) hlt).trans hc1
      obtain ⟨s0, s1, c0, c1⟩ := hS.out i hin
      obtain ⟨l0, l1⟩ := HL.out i hi
      have hin2 : (i : Int) < n := by omega
      clear hc0 hc1 hbel hall
      by_cases a1 : S i ≤ lastC S i
      · have NO : Hid (okC S C i → False) := fun h => by have := h.1; omega
        have d1 : decide (S i ≤ lastC S i) = true := decide_eq_true a1
        go_wp2_with fail
        go_ret
        exact MayPost.no rfl (fun h => NO.out (h.2.2 i hin)) (BEL.out.alloc BEL.out.size _)
      · have d1 : decide (S i ≤ lastC S i) = false := decide_eq_false a1
        by_cases a2 : 65536 < S i
        · have NO : Hid (okC S C i → False) := fun h => by have := h.2.1; omega
          have d2 : decide (65536 < S i) = true := decide_eq_true a2
          go_wp2_with fail
          go_ret
          exact MayPost.no rfl (fun h => NO.out (h.2.2 i hin)) (BEL.out.alloc BEL.out.size _)
        · have d2 : decide (65536 < S i) = false := decide_eq_false a2
          by_cases a3 : C i < 1
          · have NO : Hid (okC S C i → False) := fun h => by have := h.2.2.1; omega
            have d3 : decide (C i < 1) = true := decide_eq_true a3
            go_wp2_with fail
            go_ret
            exact MayPost.no rfl (fun h => NO.out (h.2.2 i hin)) (BEL.out.alloc BEL.out.size _)
          · have d3 : decide (C i < 1) = false := decide_eq_false a3
            by_cases a4 : 100 < C i
            · have NO : Hid (okC S C i → False) := fun h => by have := h.2.2.2; omega
              have d4 : decide (100 < C i) = true := decide_eq_true a4
              go_wp2_with fail
              go_ret
              exact MayPost.no rfl (fun h => NO.out (h.2.2 i hin)) (BEL.out.alloc BEL.out.size _)
            · have d4 : decide (100 < C i) = false := decide_eq_false a4
              have hok : Hid (∀ j, j < i + 1 → okC S C j) := fun j hj => by
                rcases Nat.lt_or_ge j i with h | h
                · exact HALL.out j h
                · obtain rfl : j = i := by omega
                  exact ⟨by omega, by omega, by omega, by omega⟩
              go_wp2_with fail
              go_roundw
              case rel => exact ⟨i + 1, by go_num, by omega, rfl, hok.out, BEL.out.alloc BEL.out.size _⟩
              case measure => simp [intOf]; omega
    · have hin2 : ¬ (i : Int) < n := by omega
      clear hbel hall
      by_cases a1 : 1 ≤ n
      · have d1 : decide (1 ≤ (n : Int)) = true := decide_eq_true (by omega)
        by_cases a2 : n ≤ 8
        · have d2 : decide ((n : Int) ≤ 8) = true := decide_eq_true (by omega)
          go_wp2_with fail
          go_ret
          exact MayPost.yes (retb (by simp)) ⟨a1, a2, fun j hj => HALL.out j (by omega)⟩ BEL.out
        · have d2 : decide ((n : Int) ≤ 8) = false := decide_eq_false (by omega)
          go_wp2_with fail
          go_ret
          exact MayPost.no (retb (by simp)) (fun h => a2 h.2.1) BEL.out
      · have d1 : decide (1 ≤ (n : Int)) = false := decide_eq_false (by omega)
        go_wp2_with fail
        go_ret
        exact MayPost.no (retb (by simp)) (fun h => a1 h.1) BEL.out
theorem lastC_nonneg (S C : Nat → Int) {n : Nat} (h : ∀ i, i < n → okC S C i) : ∀ i, i ≤ n → 0 ≤ lastC S i := by
  intro i
  induction i with
  | zero => intro _; exact Int.le_refl 0
  | succ i ih =>
    intro hi
    have h1 := ih (by omega)
    have h2 := (h i (by omega)).1
    simp only [lastC]; omega
/-- The buffers of the first i classes, and j of the next one. -/
def bufsOf (S C : Nat → Int) : Nat → List Bf
  | 0 => []
  | i + 1 => bufsOf S C i ++ List.replicate (C i).toNat ⟨1, 0, 0, List.replicate (S i).toNat 0⟩
def bufsAt (S C : Nat → Int) (i j : Nat) : List Bf := bufsOf S C i ++ List.replicate j ⟨1, 0, 0, List.replicate (S i).toNat 0⟩
theorem bufsAt_zero (S C : Nat → Int) (i : Nat) : bufsAt S C i 0 = bufsOf S C i := by simp [bufsAt]
theorem bufsAt_full (S C : Nat → Int) (i : Nat) : bufsAt S C i (C i).toNat = bufsOf S C (i + 1) := rfl
theorem bufsAt_step (S C : Nat → Int) (i j : Nat) : bufsAt S C i (j + 1) = bufsAt S C i j ++ [⟨1, 0, 0, List.replicate (S i).toNat 0⟩] := by
  unfold bufsAt; rw [List.replicate_succ']; simp
theorem bufsOf_len (S C : Nat → Int) (i : Nat) (h : ∀ j, j < i → 1 ≤ C j ∧ C j ≤ 100) : (bufsOf S C i).length ≤ 100 * i := by
  induction i with
  | zero => simp [bufsOf]
  | succ i ih =>
    have h1 := ih fun j hj => h j (by omega)
    have h2 := h i (by omega)
    simp only [bufsOf, List.length_append, List.length_replicate]
    omega
theorem IsP.lt' {w : World} {P : Pl} {bs : List Bf} (k : IsP w P bs) : (∀ i ∈ P.xs, i < w.heap.size) ∧ (∀ i ∈ P.ys, i < w.heap.size) := by
  constructor
  · intro i h
    obtain ⟨j, hj, e⟩ := List.getElem_of_mem h
    have hx : P.xs[j]? = some i := by rw [← e]; exact List.getElem?_eq_getElem hj
    obtain ⟨b, x, y, hb, hx', hy, -, -, kx, ky⟩ := k.at_ (i := j) (by rw [← k.lx]; exact hj)
    rw [hx] at hx'
    injection hx' with e2
    subst e2
    exact kx.lt
  · intro i h
    obtain ⟨j, hj, e⟩ := List.getElem_of_mem h
    have hx : P.ys[j]? = some i := by rw [← e]; exact List.getElem?_eq_getElem hj
    obtain ⟨b, x, y, hb, hx', hy, -, -, kx, ky⟩ := k.at_ (i := j) (by rw [← k.ly]; exact hj)
    rw [hx] at hy
    injection hy with e2
    subst e2
    exact ky.lt
theorem IsP.grow {w w' : World} {P : Pl} {bs : List Bf} (h : IsP w P bs) {x y : Nat} {b : Bf} {v' : Value} (o : Only (fun g => g = P.p ∨ P.v.ownBlock = some g) w w') (hp : Blk w' P.p 72 [v'])
    (hrow : Slc w' 73 1 v' (bs.length + 1) (P.xs.map ptr ++ [ptr x])) (kx : Blk w' x 75 (bufCells b y)) (ky : Blk w' y 5 (byteCells b.bytes)) (hx : w.heap.size ≤ x) (hy : w.heap.size ≤ y) :
    IsP w' ⟨P.p, v', P.xs ++ [x], P.ys ++ [y]⟩ (bs ++ [b]) := by
  obtain ⟨lx, ly⟩ := h.lt'
  refine ⟨hp, by simpa using hrow, by simp [h.lx], by simp [h.ly], fun i c z u hb hz hu => ?_, ?_, ?_⟩
  · rcases Nat.lt_or_ge i bs.length with hi | hi
    · rw [List.getElem?_append_left hi] at hb
      simp only at hz hu
      rw [List.getElem?_append_left (by rw [h.lx]; exact hi)] at hz
      rw [List.getElem?_append_left (by rw [h.ly]; exact hi)] at hu
      obtain ⟨l1, l2⟩ := h.buf i c z u hb hz hu
      refine ⟨l1.only o fun f => ?_, l2.only o fun f => ?_⟩
      · rcases f with f | f
        · exact l1.ne h.blk (by decide) f
        · exact h.row.ne l1 (by decide) f
      · rcases f with f | f
        · exact l2.ne h.blk (by decide) f
        · exact h.row.ne l2 (by decide) f
    · have hl := (List.getElem?_eq_some_iff.1 hb).1
      simp at hl
      obtain rfl : i = bs.length := by omega
      simp only at hz hu
      rw [List.getElem?_append_right (Nat.le_refl _)] at hb
      rw [List.getElem?_append_right (by rw [h.lx]; exact Nat.le_refl _), h.lx] at hz
      rw [List.getElem?_append_right (by rw [h.ly]; exact Nat.le_refl _), h.ly] at hu
      simp at hb hz hu
      subst hb hz hu
      exact ⟨kx, ky⟩
  · rw [List.nodup_append]
    refine ⟨h.nx, by simp, fun a ha c hc e => ?_⟩
    simp at hc
    have := lx a ha
    omega
  · rw [List.nodup_append]
    refine ⟨h.ny, by simp, fun a ha c hc e => ?_⟩
    simp at hc
    have := ly a ha
    omega
theorem infoPtr : (Try.prog.info? 73).map (fun i => (i.zero, i.size, i.bytes)) = some (some (.pointer none), 1, 8) := by kernel_rfl
theorem infoByte : (Try.prog.info? 5).map (fun i => (i.zero, i.size, i.bytes)) = some (some (.int .u8 0), 1, 1) := by kernel_rfl
/-- A pool as far as it is made. -/
def Made (w : World) (base p : Nat) (bs : List Bf) (wr : World) : Prop :=
  ∃ P, P.p = p ∧ IsP wr P bs ∧ (∀ i, P.all i → base ≤ i) ∧ Below base w wr
def RelNew (w : World) (n : Nat) (S C : Nat → Int) (p : Nat) (iv : Value) (wr : World) : Prop :=
  ∃ i : Nat, iv = .int .i64 i ∧ i ≤ n ∧ Made w w.heap.size p (bufsOf S C i) wr
def RelNew2 (w : World) (S C : Nat → Int) (p i cb : Nat) (jv : Value) (wr : World) : Prop :=
  ∃ j : Nat, jv = .int .i64 j ∧ (j : Int) ≤ C i ∧ Made w w.heap.size p (bufsAt S C i j) wr ∧ Blk wr cb 48 [.int .i64 (S i), .int .i64 (C i)] ∧ w.heap.size ≤ cb
set_option maxHeartbeats 4000000 in
theorem newc_any (w : World) (A : Option Addr) (n cap : Nat) (S C : Nat → Int) (hA : Hid (Cls w A n S C)) (hS : Hid (∀ i, i < n → -9223372036854775808 ≤ S i ∧ S i ≤ 9223372036854775807 ∧ -9223372036854775808 ≤ C i ∧ C i ≤ 9223372036854775807)) (hn : n ≤ 140737488351232) (hm : Hid (mayC n S C)) :
    Calls Try.prog 15 #[.slice A n cap] w fun e w' => ∃ p, e = .returned (.tuple #[.pointer (some ⟨p, 0, none⟩), .int .i64 0]) ∧ Made w w.heap.size p (bufsOf S C n) w' := by
  have M := fun W hA' => Lib.hid (mayc_any W A n cap S C hA' hS hn)
  go_enter Try.func15, Try.ntmps15
  go_wp2_with (first
    | (go_at_call 30; (with_reducible refine Calls.mono (M _ hA).out ?_); rintro e w1 ⟨r, rfl, hr, bel1⟩
       obtain rfl := hr.2 hm.out
       have BEL1 := Lib.hid bel1
       clear hr bel1))
  have hs1 := BEL1.out.size
  obtain ⟨i0, hi0, hz0, hz1, hz2⟩ := info_parts infoPtr
  obtain ⟨m1, m2, m3⟩ := hm.out
  have M3 := Lib.hid m3
  clear m3 M
  go_loopw [14] (fun iv wr => Hid (RelNew w n S C w1.heap.size iv wr)) (fun iv _ => n - (intOf iv).toNat)
  case atStart =>
    refine ⟨0, rfl, by omega, ⟨w1.heap.size, .slice none 0 0, [], []⟩, rfl, ⟨Blk.new w1 _ _, Slc.nil _ _ _, rfl, rfl, fun i b x y hb => by simp [bufsOf] at hb, List.nodup_nil, List.nodup_nil⟩, fun i h => ?_, BEL1.out.alloc hs1 _⟩
    rcases h with h | h | h | h
    · simp only at h; omega
    · simp [Value.ownBlock] at h
    · simp at h
    · simp at h
  case round =>
    obtain ⟨i, rfl, hi, hmade⟩ := hrel
    have MADE := Lib.hid hmade
    clear hmade
    by_cases hin : i < n
    · obtain ⟨P, hP, kP, hall, hbel⟩ := MADE.out
      obtain ⟨ab, ao, rfl, hlt, hc0, hc1⟩ := hA.out i hin
      have hcell0 := (hbel.cell (p := ⟨ab, ao + i * 2, none⟩) hlt).trans hc0
      have hcell1 := (hbel.cell (p := ⟨ab, ao + i * 2 + 1, none⟩) hlt).trans hc1
      have hin2 : (i : Int) < n := by omega
      obtain ⟨ok1, ok2, ok3, ok4⟩ := M3.out i hin
      have hl0 := lastC_nonneg S C M3.out i (by omega)
      obtain ⟨Z, hZ⟩ : ∃ Z : Nat, S i = Z := ⟨(S i).toNat, by omega⟩
      obtain ⟨Cn, hCn⟩ : ∃ Cn : Nat, C i = Cn := ⟨(C i).toNat, by omega⟩
      have hlenB := bufsOf_len S C i fun j hj => ⟨(M3.out j (by omega)).2.2.1, (M3.out j (by omega)).2.2.2⟩
      rw [hZ] at hcell0
      rw [hCn] at hcell1
      have hst : RelNew2 w S C w1.heap.size i wr.heap.size (.int .i64 0) (wr.alloc (.cells #[.int .i64 Z, .int .i64 Cn] 48)) := by
        have kb := Blk.new wr 48 [.int .i64 Z, .int .i64 Cn]
        exact ⟨0, rfl, by omega, ⟨P, hP, by rw [bufsAt_zero]; exact kP.alloc _, hall, hbel.alloc hbel.size _⟩, by rw [hZ, hCn]; exact kb, hbel.size⟩
      have HST := Lib.hid hst
      clear hc0 hc1 hst kP hall
      go_wp2_with fail
      go_loopw [20] (fun jv wx => Hid (RelNew2 w S C w1.heap.size i wr.heap.size jv wx)) (fun jv _ => Cn - (intOf jv).toNat)
      case atStart => exact HST.out
      case round =>
        clear HST hcell0 hcell1 hbel MADE
        obtain ⟨j, rfl, hj, hmade, hcbk, hcb2⟩ := hrel
        rw [hCn] at hj
        rw [hCn, hZ] at hcbk
        have hq0 : _ = some (Value.int .i64 (Z : Int)) := hcbk.cell 0
        have hq1 : _ = some (Value.int .i64 (Cn : Int)) := hcbk.cell 1
        have hcb := hcbk.lt
        have CBK := Lib.hid hcbk
        clear hcbk
        by_cases hjc : j < Cn
        · have hjc2 : (j : Int) < Cn := by omega
          obtain ⟨⟨p, v, xs, ys⟩, hP, kP, hall, hbel⟩ := hmade
          simp only at hP
          subst hP
          have hlenj : (bufsAt S C i j).length = (bufsOf S C i).length + j := by simp [bufsAt]
          obtain ⟨N, hN⟩ : ∃ N, (bufsAt S C i j).length = N := ⟨_, rfl⟩
          have kr := kP.row
          have kb := kP.blk
          simp only at kr kb
          rw [hN] at kr
          obtain ⟨A2, c2, hv, hc2⟩ := kr.shape
          subst hv
          have p0 : wr.cell? ⟨w1.heap.size, 0, none⟩ = some (.slice A2 N c2) := kb.cell 0
          have p1 : wr.frozen? ⟨w1.heap.size, 0, none⟩ = false := kb.free 0
          have plt := kb.lt
          have hmk : ∀ W, (Instr.makeSlice 23 (.int .i64 Z) (.int .i64 Z)).run Try.prog W = .ok (.slice (some ⟨W.heap.size, 0, none⟩) Z Z) (W.alloc (.cells (madeCells #[.int .u8 0] Z) 5)) := fun W =>
            run_make_row' 23 5 (.int .u8 0) 1 Try.underlying23 infoByte rfl .i64 .i64 Z (by omega) (by omega) W
          have KR := Lib.hid kr
          have KB := Lib.hid kb
          have KP := Lib.hid kP
          have ALL := Lib.hid hall
          have BL := Lib.hid hbel
          have NB := Lib.hid (Slc.ne kr kb (by decide))
          have hN9 : N ≤ 900 := by omega
          have src : Src (((wr.alloc (.cells (madeCells #[.int .u8 0] Z) 5)).alloc (.cells #[.int .u64 1, .int .i64 0, .int .i64 0, .slice (some ⟨wr.heap.size, 0, none⟩) Z Z] 75)).alloc (.cells #[.pointer (some ⟨wr.heap.size + 1, 0, none⟩)] 73)) 1 (some ⟨wr.heap.size + 1 + 1, 0, none⟩) 1 [.pointer (some ⟨wr.heap.size + 1, 0, none⟩)] := by
            have := Src.one ((wr.alloc (.cells (madeCells #[.int .u8 0] Z) 5)).alloc (.cells #[.int .u64 1, .int .i64 0, .int .i64 0, .slice (some ⟨wr.heap.size, 0, none⟩) Z Z] 75)) 73 (.pointer (some ⟨wr.heap.size + 1, 0, none⟩))
            simpa using this
          have SRC := Lib.hid src
          clear src
          have p2 : ((wr.alloc (.cells (madeCells #[.int .u8 0] Z) 5)).alloc (.cells #[.int .u64 1, .int .i64 0, .int .i64 0, .slice (some ⟨wr.heap.size, 0, none⟩) Z Z] 75)).cell? ⟨w1.heap.size, 0, none⟩ = some (.slice A2 N c2) := ((KB.out.alloc _).alloc _).cell 0
          have p3 : (((wr.alloc (.cells (madeCells #[.int .u8 0] Z) 5)).alloc (.cells #[.int .u64 1, .int .i64 0, .int .i64 0, .slice (some ⟨wr.heap.size, 0, none⟩) Z Z] 75)).alloc (.cells #[.pointer (some ⟨wr.heap.size + 1, 0, none⟩)] 73)).cell? ⟨w1.heap.size, 0, none⟩ = some (.slice A2 N c2) := (((KB.out.alloc _).alloc _).alloc _).cell 0
          clear kr kb kP hall hbel
          go_wp2_with fail
          go_region_law ((refine step_append_slc _ rfl (.tmp 26) (.tmp 32) _ rfl 73 i0 _ 1 8 Try.underlying70 hi0 hz0 hz1 hz2 rfl (by omega) (.slice A2 N c2) N (xs.map ptr) rfl (Slc.drew (Slc.alloc (Slc.alloc (Slc.alloc KR.out _) _) _)) (some ⟨wr.heap.size + 1 + 1, 0, none⟩) 1 1 [.pointer (some ⟨wr.heap.size + 1, 0, none⟩)] rfl (Src.drew SRC.out) (by simp [Value.oneCell']) (by omega) (by simp only [maxLen]; omega) ?_); intro v3 w3 hs3 ho3 hat3; have kb3 := Blk.only (Blk.drew (Blk.alloc (Blk.alloc (Blk.alloc KB.out _) _) _)) ho3 NB.out; have c3 := kb3.cell 0; simp only [List.getElem?_cons_zero] at c3; have f3 := kb3.free 0; obtain ⟨A3, cap3, e3, -⟩ := hs3.shape; subst e3; have KB3 := Lib.hid kb3; have HS3 := Lib.hid hs3; have HO3 := Lib.hid ho3; have HAT3 := Lib.hid hat3; clear kb3 hs3 ho3 hat3)
          all_goals
            go_wp2_with fail
            go_roundw
            case rel =>
              have hp3 : (Value.slice A3 (N + 1) cap3).ownBlock ≠ some w1.heap.size := by
                rcases HAT3.out with h | h
                · rw [h]; exact NB.out
                · rw [h]; simp [World.drew]; omega
              have kx0 : Blk ((wr.alloc (.cells (madeCells #[.int .u8 0] Z) 5)).alloc (.cells #[.int .u64 1, .int .i64 0, .int .i64 0, .slice (some ⟨wr.heap.size, 0, none⟩) Z Z] 75)) (wr.heap.size + 1) 75 (bufCells ⟨1, 0, 0, List.replicate (S i).toNat 0⟩ wr.heap.size) := by
                have := Blk.new (wr.alloc (.cells (madeCells #[.int .u8 0] Z) 5)) 75 [.int .u64 1, .int .i64 0, .int .i64 0, .slice (some ⟨wr.heap.size, 0, none⟩) Z Z]
                simpa [bufCells, hZ] using this
              have ky0 : Blk (wr.alloc (.cells (madeCells #[.int .u8 0] Z) 5)) wr.heap.size 5 (byteCells (List.replicate (S i).toNat 0)) := by
                have h : Blk (wr.alloc (.cells (madeCells #[.int .u8 0] Z) 5)) wr.heap.size 5 (madeCells #[.int .u8 0] Z).toList := heap_alloc_new wr _
                rw [toList_madeCells_one] at h
                simpa [byteCells, hZ] using h
              have row3 : Slc (((wr.alloc (.cells (madeCells #[.int .u8 0] Z) 5)).alloc (.cells #[.int .u64 1, .int .i64 0, .int .i64 0, .slice (some ⟨wr.heap.size, 0, none⟩) Z Z] 75)).alloc (.cells #[.pointer (some ⟨wr.heap.size + 1, 0, none⟩)] 73)).drew 73 1 (.slice A2 N c2) N (xs.map ptr) := Slc.drew (Slc.alloc (Slc.alloc (Slc.alloc KR.out _) _) _)
              have kx1 := (((kx0.alloc (.cells #[.pointer (some ⟨wr.heap.size + 1, 0, none⟩)] 73)).drew))
              have ky1 := ((((ky0.alloc (.cells #[.int .u64 1, .int .i64 0, .int .i64 0, .slice (some ⟨wr.heap.size, 0, none⟩) Z Z] 75)).alloc (.cells #[.pointer (some ⟨wr.heap.size + 1, 0, none⟩)] 73)).drew))
              have kx2 := (kx1.only HO3.out (fun e => row3.ne kx1 (by decide) e)).far (p := ⟨w1.heap.size, 0, none⟩) (by simp only; omega) (.slice A3 (N + 1) cap3)
              have ky2 := (ky1.only HO3.out (fun e => row3.ne ky1 (by decide) e)).far (p := ⟨w1.heap.size, 0, none⟩) (by simp only; omega) (.slice A3 (N + 1) cap3)
              have cb1 := (((CBK.out.alloc (.cells (madeCells #[.int .u8 0] Z) 5)).alloc (.cells #[.int .u64 1, .int .i64 0, .int .i64 0, .slice (some ⟨wr.heap.size, 0, none⟩) Z Z] 75)).alloc (.cells #[.pointer (some ⟨wr.heap.size + 1, 0, none⟩)] 73)).drew
              have cbne := CBK.out.ne KB.out (by decide)
              have cb2 := (cb1.only HO3.out (fun e => row3.ne cb1 (by decide) e)).far (p := ⟨w1.heap.size, 0, none⟩) cbne (.slice A3 (N + 1) cap3)
              have bsz := BL.out.size
              refine ⟨j + 1, by go_num, by omega, ⟨⟨w1.heap.size, .slice A3 (N + 1) cap3, xs ++ [wr.heap.size + 1], ys ++ [wr.heap.size]⟩, rfl, ?_, ?_, ?_⟩, by rw [hZ, hCn]; exact cb2, hcb2⟩
              · rw [bufsAt_step]
                refine KP.out.grow (b := ⟨1, 0, 0, List.replicate (S i).toNat 0⟩) ?_ (KB3.out.put 0 _) ?_ kx2 ky2 (by omega) (Nat.le_refl _)
                · exact Only.setCell (((((Only.refl (fun g => g = w1.heap.size ∨ (Value.slice A2 N c2).ownBlock = some g) wr).alloc _).alloc _).alloc _).drew.trans HO3.out (fun _ _ h => .inr h)) (p := ⟨w1.heap.size, 0, none⟩) (fun _ => .inl rfl) _
                · have := HS3.out.far (p := ⟨w1.heap.size, 0, none⟩) hp3 (.slice A3 (N + 1) cap3)
                  rw [hN]
                  exact this
              · intro g hg
                rcases hg with h | h | h | h
                · simp only at h; omega
                · simp only at h
                  rcases HAT3.out with h2 | h2
                  · rw [h2] at h; exact ALL.out g (.inr (.inl h))
                  · rw [h2] at h; simp [World.drew] at h; omega
                · simp only [List.mem_append, List.mem_singleton] at h
                  rcases h with h | h
                  · exact ALL.out g (.inr (.inr (.inl h)))
                  · omega
                · simp only [List.mem_append, List.mem_singleton] at h
                  rcases h with h | h
                  · exact ALL.out g (.inr (.inr (.inr h)))
                  · omega
              · refine Below.setCell (Below.trans (((((BL.out.alloc bsz _).alloc (by simp; omega) _).alloc (by simp; omega) _)).drew) (HO3.out.below (B := w.heap.size) (by simp [World.drew]; omega) (fun g hg e => ?_))) (by simp only; omega) _
                have := ALL.out g (.inr (.inl e))
                omega
            case measure => simp [intOf]; omega
        · have hjc2 : ¬ (j : Int) < Cn := by omega
          have MADE := Lib.hid hmade
          clear hmade
          go_wp2_with fail
          go_roundw
          case rel =>
            refine ⟨i + 1, by go_num, by omega, ?_⟩
            have := MADE.out
            rw [show j = (C i).toNat by omega, bufsAt_full] at this
            exact this
          case measure => simp [intOf]; omega
    · have hin2 : ¬ (i : Int) < n := by omega
      go_wp2_with fail
      go_ret2
      obtain rfl : i = n := by omega
      exact ⟨w1.heap.size, rfl, MADE.out⟩
end Go.Proofs.Ytajcjepolfmhmaa
