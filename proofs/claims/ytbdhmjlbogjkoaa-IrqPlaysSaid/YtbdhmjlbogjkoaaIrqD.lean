/- Layer 13 (irq): the functions of a controller, whole. -/
import Derived.Test.YtbdhmjlbogjkoaaIrqC
namespace Go.Proofs.Ytbdhmjlbogjkoaa
open Go.RowKit
set_option linter.unusedVariables false
set_option linter.unusedSimpArgs false
/-- What a controller's function leaves: it stands, what it has may have turned, and only new blocks have come to it. -/
structure After (w : World) (p : Nat) (ds : List Ad) (ls : List Ln) (T : Int) (w' : World) : Prop where
  ex : ∃ ds', IsI w' p ds' ls T ∧ ∀ i, ownI p ds' i → ownI p ds i ∨ w.heap.size ≤ i
  only : Only (ownI p ds) w w'
section
variable {w w' : World} {p : Nat} {ds : List Ad} {ls : List Ln} {now : Int} {F : Nat → Prop}
theorem IsI.free (k : IsI w p ds ls now) {i : Nat} (hi : w.heap.size ≤ i) : ¬ ownI p ds i := fun h => by have := k.lt h; omega
theorem map_at {T : Int} {no : Nat} {n : Ln} (h : ls[no]? = some n) : (ls.map (stepL T))[no]? = some (stepL T n) := by rw [List.getElem?_map, h]; rfl
theorem ok_at {H : Int} (ok : ∀ n ∈ ls, n.ok H) {no : Nat} {n : Ln} (h : ls[no]? = some n) {T : Int} (hT : 0 ≤ T) : (stepL T n).ok (H + 1000) := stepL_ok (ok n (List.mem_of_getElem? h)) T hT
theorem go_okI {H : Int} (k : IsI w p ds ls now) (ok : ∀ n ∈ ls, n.ok H) (hH : H ≤ 1000000000) (hne : 0 < ls.length) (T : Int) (h0 : now ≤ T) (hn0 : 0 ≤ T) (h1 : T < 4611686018427387904) :
    Calls Try.prog 13 #[.pointer (some ⟨p, 0, none⟩), .int .u64 T] w fun e w' => e = .returned (.int .i64 0) ∧ After w p ds (ls.map (stepL T)) T w' := by
  obtain ⟨a, n, ha, hn, ka, hmem, hcell⟩ := k.at_ hne
  have D := Lib.hid (on_okGo k ok hH T h0 hn0 h1 0 ha #[] (Q := fun e w' => e = .returned (.int .i64 0) ∧ After w p ds (ls.map (stepL T)) T w')
    (fun W kW oW => (go1_any (.pointer (some ⟨a.x, 0, none⟩)) W).mono fun e w' ⟨h1, h2⟩ => ⟨0, h1, h1, by subst h2; exact ⟨⟨ds, kW, fun i h => .inl h⟩, oW⟩⟩))
  have hmf : ∀ (fn : Fn) (first cap : Array Value) (w : World), (Instr.makeFunc fn first cap).run Try.prog w = .ok (.func fn first cap) w := fun _ _ _ _ => rfl
  clear k ok ha hn ka hmem hcell
  go_enter Try.func13, Try.ntmps13
  go_wp2_with (go_at_call 31; (with_reducible refine Calls.mono D.out ?_); rintro e w1 ⟨rfl, h⟩)
  go_ret
  exact ⟨rfl, h⟩
theorem After.turn {w0 W : World} {T : Int} {lsT : List Ln} {no : Nat} {a : Ad} {n' : Ln} {b v : Nat} (k : IsI w p ds ls now) (bw : Below w.heap.size w w0) (oW : Only (ownI p ds) w0 W) (kW : IsI W p ds lsT T) (ha : ds[no]? = some a)
    (e3 : IsL w' ⟨a.x, b, a.k⟩ n') (e4 : Only (fun i => a.own i ∨ i = v) W w') (hv : w.heap.size ≤ v) (e5 : b = a.g ∨ W.heap.size ≤ b) : After w p ds (lsT.set no n') T w' := by
  have hmem := List.mem_of_getElem? ha
  have hsz : w.heap.size ≤ W.heap.size := Nat.le_trans bw.size oW.size
  have f2 : ¬ ownI p ds v := k.free hv
  refine ⟨⟨ds.set no ⟨a.x, b, a.k⟩, kW.turn ha e4 (fun j h => h.elim .inl (fun h => .inr (h ▸ f2))) e5 e3, fun i h => ?_⟩, ?_⟩
  · rcases h with rfl | ⟨c, hc, ho⟩
    · exact .inl (.inl rfl)
    · rcases List.mem_or_eq_of_mem_set hc with hc | rfl
      · exact .inl (.inr ⟨c, hc, ho⟩)
      · rcases ho with rfl | rfl | rfl
        · exact .inl (.inr ⟨a, hmem, .inl rfl⟩)
        · rcases e5 with e5 | e5
          · exact .inl (.inr ⟨a, hmem, .inr (.inl e5)⟩)
          · exact .inr (Nat.le_trans hsz e5)
        · exact .inl (.inr ⟨a, hmem, .inr (.inr rfl)⟩)
  · refine ⟨(e4.os.trans oW.os).trans bw.os, (e4.tape.trans oW.tape).trans bw.tape, (e4.output.trans oW.output).trans bw.output, Nat.le_trans hsz e4.size, fun i hi hF => ?_⟩
    rw [e4.block i (Nat.lt_of_lt_of_le hi hsz) (fun h => h.elim (fun h => hF (.inr ⟨a, hmem, h⟩)) (fun h => by omega)), oW.block i (Nat.lt_of_lt_of_le hi bw.size) hF]
    exact bw.block i hi
set_option maxHeartbeats 1000000 in
theorem raise_okI {H : Int} (k : IsI w p ds ls now) (ok : ∀ n ∈ ls, n.ok H) (hH0 : 0 ≤ H) (hH : H ≤ 100000000) (T : Int) (h0 : now ≤ T) (hn0 : 0 ≤ T) (h1 : T < 4611686018427387904) (no : Nat) {n : Ln} (hn : ls[no]? = some n) :
    Calls Try.prog 12 #[.pointer (some ⟨p, 0, none⟩), .int .u64 T, .int .i64 no] w fun e w' => e = .returned (.tuple #[.bool (raiseL T (stepL T n)).1, .int .i64 0]) ∧ After w p ds ((ls.map (stepL T)).set no (raiseL T (stepL T n)).2) T w' := by
  have hlt := (List.getElem?_eq_some_iff.1 hn).1
  obtain ⟨a, n', ha, hn', ka, hmem, hcell⟩ := k.at_ hlt
  have bw : Below w.heap.size w ((w.alloc (.cells #[.int .u64 T] 22)).alloc (.cells #[.bool false] 4)) := ((Below.refl _ _).alloc (Nat.le_refl _) _).alloc (by simp) _
  have kw := k.below bw
  have ux : Blk ((w.alloc (.cells #[.int .u64 T] 22)).alloc (.cells #[.bool false] 4)) w.heap.size 22 [.int .u64 T] := (Blk.new w 22 [.int .u64 T]).alloc _
  have vx : Blk ((w.alloc (.cells #[.int .u64 T] 22)).alloc (.cells #[.bool false] 4)) (w.heap.size + 1) 4 [.bool false] := by
    have := Blk.new (w.alloc (.cells #[.int .u64 T] 22)) 4 [.bool false]
    simpa using this
  have hmf : ∀ (fn : Fn) (first cap : Array Value) (w : World), (Instr.makeFunc fn first cap).run Try.prog w = .ok (.func fn first cap) w := fun _ _ _ _ => rfl
  have okn := ok_at ok hn hn0
  have D := Lib.hid (on_okRaise kw ok (by omega) T h0 hn0 h1 no ha #[.pointer (some ⟨w.heap.size, 0, none⟩), .pointer (some ⟨w.heap.size + 1, 0, none⟩)]
    (Q := fun e w' => e = .returned (.int .i64 0) ∧ Blk w' (w.heap.size + 1) 4 [.bool (raiseL T (stepL T n)).1] ∧ After w p ds ((ls.map (stepL T)).set no (raiseL T (stepL T n)).2) T w')
    (fun W kW oW => by
      have f1 : ¬ ownI p ds w.heap.size := k.free (Nat.le_refl _)
      have f2 : ¬ ownI p ds (w.heap.size + 1) := k.free (by omega)
      have kaW := kW.line no a _ ha (map_at hn)
      exact (raise1_any kaW okn (by omega) (by omega) T hn0 h1 w.heap.size (w.heap.size + 1) (ux.only oW f1) (vx.only oW f2)).mono fun e w' ⟨e1, b, e2, e3, e4, e5⟩ => ⟨0, e1, e1, e2, After.turn k bw oW kW ha e3 e4 (by omega) e5⟩))
  generalize (raiseL T (stepL T n)).1 = r1 at *
  generalize (ls.map (stepL T)).set no (raiseL T (stepL T n)).2 = l1 at *
  clear k ok ha hn ka hmem hcell kw ux vx okn hn' bw
  go_enter Try.func12, Try.ntmps12
  go_wp2_with (go_at_call 31; (with_reducible refine Calls.mono D.out ?_); rintro e w1 ⟨rfl, h1, h2⟩
               have v0 : w1.cell? ⟨w.heap.size + 1, 0, none⟩ = some (.bool r1) := h1.cell 0
               have H2 := Lib.hid h2
               clear h1 h2)
  go_ret2
  exact ⟨rfl, H2.out⟩
set_option maxHeartbeats 1000000 in
theorem ack_okI {H : Int} (k : IsI w p ds ls now) (ok : ∀ n ∈ ls, n.ok H) (hH0 : 0 ≤ H) (hH : H ≤ 100000000) (T : Int) (h0 : now ≤ T) (hn0 : 0 ≤ T) (h1 : T < 4611686018427387904) (no : Nat) {n : Ln} (hn : ls[no]? = some n) :
    Calls Try.prog 14 #[.pointer (some ⟨p, 0, none⟩), .int .u64 T, .int .i64 no] w fun e w' => e = .returned (.tuple #[.int .i64 (ackL T (stepL T n)).1.1, .int .i64 (ackL T (stepL T n)).1.2]) ∧ After w p ds ((ls.map (stepL T)).set no (ackL T (stepL T n)).2) T w' := by
  have hlt := (List.getElem?_eq_some_iff.1 hn).1
  obtain ⟨a, n', ha, hn', ka, hmem, hcell⟩ := k.at_ hlt
  have bw : Below w.heap.size w ((w.alloc (.cells #[.int .u64 T] 22)).alloc (.cells #[.int .i64 0] 3)) := ((Below.refl _ _).alloc (Nat.le_refl _) _).alloc (by simp) _
  have kw := k.below bw
  have ux : Blk ((w.alloc (.cells #[.int .u64 T] 22)).alloc (.cells #[.int .i64 0] 3)) w.heap.size 22 [.int .u64 T] := (Blk.new w 22 [.int .u64 T]).alloc _
  have vx : Blk ((w.alloc (.cells #[.int .u64 T] 22)).alloc (.cells #[.int .i64 0] 3)) (w.heap.size + 1) 3 [.int .i64 0] := by
    have := Blk.new (w.alloc (.cells #[.int .u64 T] 22)) 3 [.int .i64 0]
    simpa using this
  have hmf : ∀ (fn : Fn) (first cap : Array Value) (w : World), (Instr.makeFunc fn first cap).run Try.prog w = .ok (.func fn first cap) w := fun _ _ _ _ => rfl
  have okn := ok_at ok hn hn0
  have D := Lib.hid (on_okAck kw ok (by omega) T h0 hn0 h1 no ha #[.pointer (some ⟨w.heap.size + 1, 0, none⟩), .pointer (some ⟨w.heap.size, 0, none⟩)]
    (Q := fun e w' => e = .returned (.int .i64 (ackL T (stepL T n)).1.2) ∧ Blk w' (w.heap.size + 1) 3 [.int .i64 (ackL T (stepL T n)).1.1] ∧ After w p ds ((ls.map (stepL T)).set no (ackL T (stepL T n)).2) T w')
    (fun W kW oW => by
      have f1 : ¬ ownI p ds w.heap.size := k.free (Nat.le_refl _)
      have f2 : ¬ ownI p ds (w.heap.size + 1) := k.free (by omega)
      have kaW := kW.line no a _ ha (map_at hn)
      exact (ack1_any kaW okn T hn0 (by omega) (w.heap.size + 1) w.heap.size (vx.only oW f2) (ux.only oW f1)).mono fun e w' ⟨e1, e2, e3, e4⟩ => ⟨_, e1, e1, e2, After.turn k bw oW kW ha (b := a.g) e3 e4 (by omega) (.inl rfl)⟩))
  generalize (ackL T (stepL T n)).1.1 = r1 at *
  generalize (ackL T (stepL T n)).1.2 = r2 at *
  generalize (ls.map (stepL T)).set no (ackL T (stepL T n)).2 = l1 at *
  clear k ok ha hn ka hmem hcell kw ux vx okn hn' bw
  go_enter Try.func14, Try.ntmps14
  go_wp2_with (go_at_call 31; (with_reducible refine Calls.mono D.out ?_); rintro e w1 ⟨rfl, h1, h2⟩
               have v0 : w1.cell? ⟨w.heap.size + 1, 0, none⟩ = some (.int .i64 r1) := h1.cell 0
               have H2 := Lib.hid h2
               clear h1 h2)
  go_ret2
  exact ⟨rfl, H2.out⟩
set_option maxHeartbeats 1000000 in
theorem mask_okI {H : Int} (k : IsI w p ds ls now) (ok : ∀ n ∈ ls, n.ok H) (hH0 : 0 ≤ H) (hH : H ≤ 100000000) (T : Int) (h0 : now ≤ T) (hn0 : 0 ≤ T) (h1 : T < 4611686018427387904) (no : Nat) {n : Ln} (hn : ls[no]? = some n) (on : Bool) :
    Calls Try.prog 23 #[.pointer (some ⟨p, 0, none⟩), .int .u64 T, .int .i64 no, .bool on] w fun e w' => e = .returned (.int .i64 0) ∧ After w p ds ((ls.map (stepL T)).set no (maskL T on (stepL T n))) T w' := by
  have hlt := (List.getElem?_eq_some_iff.1 hn).1
  obtain ⟨a, n', ha, hn', ka, hmem, hcell⟩ := k.at_ hlt
  have bw : Below w.heap.size w ((w.alloc (.cells #[.int .u64 T] 22)).alloc (.cells #[.bool on] 4)) := ((Below.refl _ _).alloc (Nat.le_refl _) _).alloc (by simp) _
  have kw := k.below bw
  have ux : Blk ((w.alloc (.cells #[.int .u64 T] 22)).alloc (.cells #[.bool on] 4)) w.heap.size 22 [.int .u64 T] := (Blk.new w 22 [.int .u64 T]).alloc _
  have vx : Blk ((w.alloc (.cells #[.int .u64 T] 22)).alloc (.cells #[.bool on] 4)) (w.heap.size + 1) 4 [.bool on] := by
    have := Blk.new (w.alloc (.cells #[.int .u64 T] 22)) 4 [.bool on]
    simpa using this
  have hmf : ∀ (fn : Fn) (first cap : Array Value) (w : World), (Instr.makeFunc fn first cap).run Try.prog w = .ok (.func fn first cap) w := fun _ _ _ _ => rfl
  have okn := ok_at ok hn hn0
  have D := Lib.hid (on_okMask kw ok (by omega) T h0 hn0 h1 no ha #[.pointer (some ⟨w.heap.size + 1, 0, none⟩), .pointer (some ⟨w.heap.size, 0, none⟩)]
    (Q := fun e w' => e = .returned (.int .i64 0) ∧ After w p ds ((ls.map (stepL T)).set no (maskL T on (stepL T n))) T w')
    (fun W kW oW => by
      have f1 : ¬ ownI p ds w.heap.size := k.free (Nat.le_refl _)
      have f2 : ¬ ownI p ds (w.heap.size + 1) := k.free (by omega)
      have kaW := kW.line no a _ ha (map_at hn)
      exact (mask1_any kaW okn T hn0 (by omega) on (w.heap.size + 1) w.heap.size ((vx.only oW f2).cell 0) (ux.only oW f1)).mono fun e w' ⟨e1, e3, e4⟩ => ⟨_, e1, e1, After.turn k bw oW kW ha (b := a.g) (v := w.heap.size) e3 (e4.mono fun i _ h => .inl h) (by omega) (.inl rfl)⟩))
  generalize (ls.map (stepL T)).set no (maskL T on (stepL T n)) = l1 at *
  clear k ok ha hn ka hmem hcell kw ux vx okn hn' bw
  go_enter Try.func23, Try.ntmps23
  go_wp2_with (go_at_call 31; (with_reducible refine Calls.mono D.out ?_); rintro e w1 ⟨rfl, h2⟩
               have H2 := Lib.hid h2
               clear h2)
  go_ret
  exact ⟨rfl, H2.out⟩
/-- How a line stands. -/
theorem state_any (k : IsI w p ds ls now) (no : Nat) {n : Ln} (hn : ls[no]? = some n) :
    Calls Try.prog 15 #[.pointer (some ⟨p, 0, none⟩), .int .i64 no] w fun e w' => e = .returned (.tuple #[.int .i64 n.held, .int .i64 n.pends, .bool n.masked]) ∧ Below w.heap.size w w' := by
  have hlt := (List.getElem?_eq_some_iff.1 hn).1
  obtain ⟨a, n', ha, hn', ka, hmem, hcell⟩ := k.at_ hlt
  rw [hn] at hn'
  injection hn' with hn'
  subst hn'
  obtain ⟨c16, c17, f17⟩ := k.cells
  have hle := k.le
  have d2 : decide ((no : Int) < 0) = false := decide_eq_false (by omega)
  have d3 : decide ((ls.length : Int) ≤ no) = false := decide_eq_false (by omega)
  have d3' : decide (ls.length ≤ no) = false := decide_eq_false (by omega)
  have r8 : w.cell? ⟨a.x, 8, none⟩ = some (.int .i64 n.held) := ka.x.cell 8
  have r9 : w.cell? ⟨a.x, 9, none⟩ = some (.int .i64 n.pends) := ka.x.cell 9
  have r10 : w.cell? ⟨a.x, 10, none⟩ = some (.bool n.masked) := ka.x.cell 10
  clear k ka ha hn hmem
  go_enter Try.func15, Try.ntmps15
  go_wp2_with fail
  go_quiet (fail)
  go_wp2_with fail
  go_ret3
  exact ⟨rfl, Below.drewN' (Below.refl _ _) _⟩
/-- The first line of which something pends, from number i on. -/
def pendQ : List Ln → Nat → Int × Int × Bool
  | [], _ => (0, 0, false)
  | n :: r, i => if n.masked = false ∧ 0 < n.pends then (i, n.pends, true) else pendQ r (i + 1)
theorem pendQ_yes {ls : List Ln} {i : Nat} {n : Ln} (h : ls[i]? = some n) (h1 : n.masked = false) (h2 : 0 < n.pends) : pendQ (ls.drop i) i = (↑i, n.pends, true) := by
  obtain ⟨hl, rfl⟩ := List.getElem?_eq_some_iff.1 h
  rw [List.drop_eq_getElem_cons hl]
  unfold pendQ
  rw [if_pos ⟨h1, h2⟩]
theorem pendQ_no {ls : List Ln} {i : Nat} {n : Ln} (h : ls[i]? = some n) (h1 : ¬ (n.masked = false ∧ 0 < n.pends)) : pendQ (ls.drop i) i = pendQ (ls.drop (i + 1)) (i + 1) := by
  obtain ⟨hl, rfl⟩ := List.getElem?_eq_some_iff.1 h
  rw [List.drop_eq_getElem_cons hl]
  conv => lhs; unfold pendQ
  rw [if_neg h1]
def RelP (w : World) (ls : List Ln) (iv : Value) (wr : World) : Prop :=
  ∃ i : Nat, iv = .int .i64 i ∧ i ≤ ls.length ∧ pendQ (ls.drop i) i = pendQ ls 0 ∧ Below w.heap.size w wr
set_option maxHeartbeats 1000000 in
theorem pending_any (k : IsI w p ds ls now) :
    Calls Try.prog 25 #[.pointer (some ⟨p, 0, none⟩)] w fun e w' => e = .returned (.tuple #[.int .i64 (pendQ ls 0).1, .int .i64 (pendQ ls 0).2.1, .bool (pendQ ls 0).2.2]) ∧ Below w.heap.size w w' := by
  obtain ⟨c16, c17, f17⟩ := k.cells
  have hle := k.le
  have hsl := fun W => slice16 W p ls.length hle
  have K := Lib.hid k
  clear k
  go_enter Try.func25, Try.ntmps25
  go_wp2_with fail
  go_quiet (fail)
  go_wp2_with fail
  go_loopw [16] (fun iv wr => Hid (RelP w ls iv wr)) (fun iv _ => ls.length - (intOf iv).toNat)
  case atStart => exact ⟨0, rfl, by omega, by simp, Below.drewN' (Below.refl _ _) _⟩
  case round =>
    obtain ⟨i, rfl, hi, hq, hbel⟩ := hrel
    have KW := K.out.below hbel
    have BEL := Lib.hid hbel
    have HQ := Lib.hid hq
    by_cases hil : i < ls.length
    · have hi2 : (i : Int) < ls.length := by omega
      obtain ⟨a, n, ha, hn, ka, hmem, hcell⟩ := KW.at_ hil
      have r9 : wr.cell? ⟨a.x, 9, none⟩ = some (.int .i64 n.pends) := ka.x.cell 9
      have r10 : wr.cell? ⟨a.x, 10, none⟩ = some (.bool n.masked) := ka.x.cell 10
      have HN := Lib.hid hn
      clear KW ka ha hn hmem hbel hq
      cases hm : n.masked with
      | true =>
        rw [hm] at r10
        have HM := Lib.hid hm
        clear hm
        go_wp2_with fail
        go_roundw
        case rel => exact ⟨i + 1, by go_num, by omega, (pendQ_no HN.out (fun h => by rw [HM.out] at h; cases h.1)).symm.trans HQ.out, BEL.out⟩
        case measure => simp [intOf]; omega
      | false =>
        rw [hm] at r10
        have HM := Lib.hid hm
        clear hm
        by_cases hp : 0 < n.pends
        · have d1 : decide (0 < n.pends) = true := decide_eq_true hp
          go_wp2_with fail
          go_quiet (fail)
          go_wp2_with fail
          go_ret3
          rw [← HQ.out, pendQ_yes HN.out HM.out hp]
          exact ⟨rfl, Below.drewN' BEL.out _⟩
        · have d1 : decide (0 < n.pends) = false := decide_eq_false hp
          go_wp2_with fail
          go_roundw
          case rel => exact ⟨i + 1, by go_num, by omega, (pendQ_no HN.out (fun h => hp h.2)).symm.trans HQ.out, BEL.out⟩
          case measure => simp [intOf]; omega
    · have hi2 : ¬ (i : Int) < ls.length := by omega
      obtain rfl : i = ls.length := by omega
      have e0 : pendQ ls 0 = (0, 0, false) := by rw [← hq]; simp [pendQ]
      have E0 := Lib.hid e0
      clear KW hbel hq e0
      go_wp2_with fail
      go_ret3
      rw [E0.out]
      exact ⟨rfl, BEL.out⟩
/-- A time, or a number, that may not be. -/
def badI (T no : Int) (m : Nat) (now : Int) : Prop := 4611686018427387904 ≤ T ∨ no < 0 ∨ (m : Int) ≤ no ∨ T < now
theorem go_errI (k : IsI w p ds ls now) (T : Int) (h0 : 0 ≤ T) (h1 : T ≤ 18446744073709551615) (h : badI T 0 ls.length now) :
    Calls Try.prog 13 #[.pointer (some ⟨p, 0, none⟩), .int .u64 T] w fun e w' => e = .returned (.int .i64 (codeI T)) ∧ Below w.heap.size w w' := by
  have hmf : ∀ (fn : Fn) (first cap : Array Value) (w : World), (Instr.makeFunc fn first cap).run Try.prog w = .ok (.func fn first cap) w := fun _ _ _ _ => rfl
  have D := Lib.hid (on_errI k T 0 h0 h1 (by omega) h (.func 36) #[] #[])
  clear k h
  go_enter Try.func13, Try.ntmps13
  go_wp2_with (go_at_call 31; (with_reducible refine Calls.mono D.out ?_); rintro e w1 ⟨rfl, m, rfl⟩)
  go_ret
  exact ⟨rfl, Below.drewN' (Below.refl _ _) _⟩
theorem raise_errI (k : IsI w p ds ls now) (T no : Int) (h0 : 0 ≤ T) (h1 : T ≤ 18446744073709551615) (hno : -9223372036854775808 ≤ no ∧ no ≤ 9223372036854775807) (h : badI T no ls.length now) :
    Calls Try.prog 12 #[.pointer (some ⟨p, 0, none⟩), .int .u64 T, .int .i64 no] w fun e w' => e = .returned (.tuple #[.bool false, .int .i64 (codeI T)]) ∧ Below w.heap.size w w' := by
  have hmf : ∀ (fn : Fn) (first cap : Array Value) (w : World), (Instr.makeFunc fn first cap).run Try.prog w = .ok (.func fn first cap) w := fun _ _ _ _ => rfl
  have bw : Below w.heap.size w ((w.alloc (.cells #[.int .u64 T] 22)).alloc (.cells #[.bool false] 4)) := ((Below.refl _ _).alloc (Nat.le_refl _) _).alloc (by simp) _
  have D := Lib.hid (on_errI (k.below bw) T no h0 h1 hno h (.func 32) #[] #[.pointer (some ⟨w.heap.size, 0, none⟩), .pointer (some ⟨w.heap.size + 1, 0, none⟩)])
  have BW := Lib.hid bw
  clear k h bw
  go_enter Try.func12, Try.ntmps12
  go_wp2_with (go_at_call 31; (with_reducible refine Calls.mono D.out ?_); rintro e w1 ⟨rfl, m, rfl⟩)
  go_ret2
  exact ⟨rfl, Below.drewN' BW.out _⟩
theorem ack_errI (k : IsI w p ds ls now) (T no : Int) (h0 : 0 ≤ T) (h1 : T ≤ 18446744073709551615) (hno : -9223372036854775808 ≤ no ∧ no ≤ 9223372036854775807) (h : badI T no ls.length now) :
    Calls Try.prog 14 #[.pointer (some ⟨p, 0, none⟩), .int .u64 T, .int .i64 no] w fun e w' => e = .returned (.tuple #[.int .i64 0, .int .i64 (codeI T)]) ∧ Below w.heap.size w w' := by
  have hmf : ∀ (fn : Fn) (first cap : Array Value) (w : World), (Instr.makeFunc fn first cap).run Try.prog w = .ok (.func fn first cap) w := fun _ _ _ _ => rfl
  have bw : Below w.heap.size w ((w.alloc (.cells #[.int .u64 T] 22)).alloc (.cells #[.int .i64 0] 3)) := ((Below.refl _ _).alloc (Nat.le_refl _) _).alloc (by simp) _
  have D := Lib.hid (on_errI (k.below bw) T no h0 h1 hno h (.func 37) #[] #[.pointer (some ⟨w.heap.size + 1, 0, none⟩), .pointer (some ⟨w.heap.size, 0, none⟩)])
  have BW := Lib.hid bw
  clear k h bw
  go_enter Try.func14, Try.ntmps14
  go_wp2_with (go_at_call 31; (with_reducible refine Calls.mono D.out ?_); rintro e w1 ⟨rfl, m, rfl⟩)
  go_ret2
  exact ⟨rfl, Below.drewN' BW.out _⟩
theorem mask_errI (k : IsI w p ds ls now) (T no : Int) (h0 : 0 ≤ T) (h1 : T ≤ 18446744073709551615) (hno : -9223372036854775808 ≤ no ∧ no ≤ 9223372036854775807) (h : badI T no ls.length now) (on : Bool) :
    Calls Try.prog 23 #[.pointer (some ⟨p, 0, none⟩), .int .u64 T, .int .i64 no, .bool on] w fun e w' => e = .returned (.int .i64 (codeI T)) ∧ Below w.heap.size w w' := by
  have hmf : ∀ (fn : Fn) (first cap : Array Value) (w : World), (Instr.makeFunc fn first cap).run Try.prog w = .ok (.func fn first cap) w := fun _ _ _ _ => rfl
  have bw : Below w.heap.size w ((w.alloc (.cells #[.int .u64 T] 22)).alloc (.cells #[.bool on] 4)) := ((Below.refl _ _).alloc (Nat.le_refl _) _).alloc (by simp) _
  have D := Lib.hid (on_errI (k.below bw) T no h0 h1 hno h (.func 42) #[] #[.pointer (some ⟨w.heap.size + 1, 0, none⟩), .pointer (some ⟨w.heap.size, 0, none⟩)])
  have BW := Lib.hid bw
  clear k h bw
  go_enter Try.func23, Try.ntmps23
  go_wp2_with (go_at_call 31; (with_reducible refine Calls.mono D.out ?_); rintro e w1 ⟨rfl, m, rfl⟩)
  go_ret
  exact ⟨rfl, Below.drewN' BW.out _⟩
end
end Go.Proofs.Ytbdhmjlbogjkoaa
