/- Layer 7 (pool): the contract of Write. -/
import Derived.Test.YtajcjepolfmhmaaPoolOpsB
import Derived.Test.YtajcjepolfmhmaaCells
namespace Go.Proofs.Ytajcjepolfmhmaa
open Go.RowKit
set_option linter.unusedVariables false
set_option linter.unusedSimpArgs false
/-- Bytes are written. -/
def writeB (by_ at_ : Int) (k : List Int) (b : Bf) : Int × Bf :=
  if mayOwn by_ = false then (1, b) else if b.own ≠ by_ then (8, b) else if at_ < 0 ∨ (b.bytes.length : Int) < at_ ∨ (b.bytes.length : Int) - at_ < k.length then (1, b) else (0, { b with bytes := over b.bytes at_.toNat k })
def writeQ (s g by_ at_ : Int) (k : List Int) (bs : List Bf) : Int × List Bf := match look bs s g with
  | none => (3, bs)
  | some (i, b) => ((writeB by_ at_ k b).1, bs.set i (writeB by_ at_ k b).2)
theorem over_length (l k : List Int) (a : Nat) (h : a + k.length ≤ l.length) : (over l a k).length = l.length := by unfold over; simp; omega
theorem over_nil (l : List Int) (a : Nat) : over l a [] = l := by unfold over; simp
theorem over_cells (l k : List Int) (a : Nat) (h : a + k.length ≤ l.length) : putMany (byteCells l) a (byteCells k) = byteCells (over l a k) := by
  rw [putMany_eq _ _ _ (by simpa [byteCells] using h)]
  unfold over byteCells
  simp
set_option maxRecDepth 100000 in
set_option maxHeartbeats 2000000 in
theorem write1_any {w : World} {P : Pl} {bs : List Bf} (kp : IsP w P bs) {i x : Nat} {b : Bf} (hb : bs[i]? = some b) (hx : P.xs[i]? = some x) (by_ at_ : Int) (k : List Int) (bA : Option Addr) (bc : Nat) (hl : b.bytes.length ≤ 65536) (hk9 : k.length ≤ 140737488351232)
    (ha : -9223372036854775808 ≤ at_) (ha' : at_ ≤ 9223372036854775807)
    (u v z : Nat) (hu : w.cell? ⟨u, 0, none⟩ = some (.int .i64 by_)) (hv : w.cell? ⟨v, 0, none⟩ = some (.int .i64 at_)) (hz : w.cell? ⟨z, 0, none⟩ = some (.slice bA k.length bc)) (hs : Src w 1 bA k.length (byteCells k)) :
    Calls Try.prog 42 #[.pointer (some ⟨x, 0, none⟩), .pointer (some ⟨u, 0, none⟩), .pointer (some ⟨v, 0, none⟩), .pointer (some ⟨z, 0, none⟩)] w fun e w' => e = .returned (.int .i64 (writeB by_ at_ k b).1) ∧ IsP w' P (bs.set i (writeB by_ at_ k b).2) ∧ Only P.own w w' := by
  obtain ⟨x', y, hx', hy, mx, my, kx, ky, hi⟩ := kp.xy hb
  rw [hx] at hx'
  injection hx' with hx'
  subst hx'
  have x0 : w.cell? ⟨x, 0, none⟩ = some (.int .u64 b.gen) := kx.cell 0
  have x1 : w.cell? ⟨x, 1, none⟩ = some (.int .i64 b.own) := kx.cell 1
  have x2 : w.cell? ⟨x, 2, none⟩ = some (.int .i64 b.refs) := kx.cell 2
  have l0 : w.frozen? ⟨x, 0, none⟩ = false := kx.free 0
  have l1 : w.frozen? ⟨x, 1, none⟩ = false := kx.free 1
  have l2 : w.frozen? ⟨x, 2, none⟩ = false := kx.free 2
  have K := Lib.hid kp
  have KX := Lib.hid kx
  have KY := Lib.hid ky
  have hxy : y ≠ x := ky.ne kx (by decide)
  have x3 : w.cell? ⟨x, 3, none⟩ = some (.slice (some ⟨y, 0, none⟩) b.bytes.length b.bytes.length) := kx.cell 3
  have HS := Lib.hid hs
  have H1 := fun W => Lib.hid (holds_any by_ W)
  clear kp kx ky hs
  cases z1 : mayOwn by_ with
  | false =>
    have e : writeB by_ at_ k b = (1, b) := by unfold writeB; rw [if_pos z1]
    rw [e]
    rw [z1] at H1
    clear e
    go_enter Try.func42, Try.ntmps42
    go_wp2_with (go_at_call 43; (with_reducible refine Calls.mono (H1 _).out ?_); rintro e w' ⟨rfl, rfl⟩)
    go_ret
    exact ⟨rfl, K.out.nil hb, Only.refl _ _⟩
  | true =>
    rw [z1] at H1
    by_cases z2 : b.own = by_
    · have d2 : (b.own == by_) = true := beq_iff_eq.2 z2
      have zz2 : ¬ (b.own ≠ by_) := fun h => h z2
      generalize hL : b.bytes.length = L at *
      generalize hkl : k.length = kn at *
      by_cases z3 : at_ < 0
      · have d3 : decide (at_ < 0) = true := decide_eq_true z3
        have e : writeB by_ at_ k b = (1, b) := by unfold writeB; rw [if_neg (by simp [z1]), if_neg zz2, if_pos (.inl z3)]
        rw [e]
        clear e zz2 z2
        go_enter Try.func42, Try.ntmps42
        go_wp2_with (go_at_call 43; (with_reducible refine Calls.mono (H1 _).out ?_); rintro e w' ⟨rfl, rfl⟩)
        go_quiet (fail)
        go_wp2_with fail
        go_quiet (fail)
        go_wp2_with fail
        go_ret
        exact ⟨rfl, ((K.out.nil hb).drewN _).drewN _, ((Only.refl _ _).drewN _).drewN _⟩
      · have d3 : decide (at_ < 0) = false := decide_eq_false z3
        by_cases z4 : (L : Int) < at_
        · have d4 : decide ((L : Int) < at_) = true := decide_eq_true z4
          have e : writeB by_ at_ k b = (1, b) := by unfold writeB; rw [if_neg (by simp [z1]), if_neg zz2, hL, hkl, if_pos (.inr (.inl z4))]
          rw [e]
          clear e zz2 z2
          go_enter Try.func42, Try.ntmps42
          go_wp2_with (go_at_call 43; (with_reducible refine Calls.mono (H1 _).out ?_); rintro e w' ⟨rfl, rfl⟩)
          go_quiet (fail)
          go_wp2_with fail
          go_quiet (fail)
          go_wp2_with fail
          go_ret
          exact ⟨rfl, ((K.out.nil hb).drewN _).drewN _, ((Only.refl _ _).drewN _).drewN _⟩
        · obtain ⟨a, rfl⟩ : ∃ a : Nat, at_ = a := ⟨at_.toNat, by omega⟩
          have d4 : decide ((L : Int) < a) = false := decide_eq_false z4
          have d4' : decide (L < a) = false := decide_eq_false (by omega)
          have g1 : IntKind.i64.wrap ((L : Int) - a) = (L : Int) - a := IntWalk.i64_in _ (by omega)
          by_cases z5 : (L : Int) - a < kn
          · have d5 : decide ((L : Int) - a < kn) = true := decide_eq_true z5
            have e : writeB by_ a k b = (1, b) := by unfold writeB; rw [if_neg (by simp [z1]), if_neg zz2, hL, hkl, if_pos (.inr (.inr z5))]
            rw [e]
            clear e zz2 z2
            go_enter Try.func42, Try.ntmps42
            go_wp2_with (go_at_call 43; (with_reducible refine Calls.mono (H1 _).out ?_); rintro e w' ⟨rfl, rfl⟩)
            go_quiet (fail)
            go_wp2_with fail
            go_quiet (fail)
            go_wp2_with fail
            go_ret
            exact ⟨rfl, ((K.out.nil hb).drewN _).drewN _, ((Only.refl _ _).drewN _).drewN _⟩
          · have d5 : decide ((L : Int) - a < kn) = false := decide_eq_false z5
            have e : writeB by_ a k b = (0, { b with bytes := over b.bytes a k }) := by unfold writeB; rw [if_neg (by simp [z1]), if_neg zz2, hL, hkl, if_neg (by omega)]; simp
            rw [e]
            clear e zz2 z2
            have hsz : (Try.prog.info? 5).map (·.size) = some 1 := by kernel_rfl
            rcases (show kn = 0 ∨ 0 < kn by omega) with hk0 | hk0
            · subst hk0
              obtain rfl : k = [] := List.eq_nil_of_length_eq_zero hkl
              have hcp : ∀ (d : Option Addr) (dl dc : Nat) (ty : TypeId) (W : World), (Builtin.copy_ #[23, 23] ty #[.slice d dl dc, .slice bA 0 bc]).run Try.prog W = .ok (goInt 0) W := fun d dl dc ty W =>
                run_copy_none W 23 23 ty 5 d bA dl dc 0 bc Try.underlying23 hsz (by simp)
              by_cases hLa : L = a
              · subst hLa
                go_enter Try.func42, Try.ntmps42
                go_wp2_with (go_at_call 43; (with_reducible refine Calls.mono (H1 _).out ?_); rintro e w' ⟨rfl, rfl⟩)
                go_quiet (fail)
                go_wp2_with fail
                go_quiet (fail)
                go_wp2_with fail
                go_region
                all_goals
                  go_wp2_with fail
                  go_ret
                  rw [over_nil]
                  exact ⟨rfl, (K.out.nil hb).drewN _, (Only.refl _ _).drewN _⟩
              · have hLa2 : ¬ (L - a = 0) := by omega
                go_enter Try.func42, Try.ntmps42
                go_wp2_with (go_at_call 43; (with_reducible refine Calls.mono (H1 _).out ?_); rintro e w' ⟨rfl, rfl⟩)
                go_quiet (fail)
                go_wp2_with fail
                go_quiet (fail)
                go_wp2_with fail
                go_region
                all_goals
                  go_wp2_with fail
                  go_ret
                  rw [over_nil]
                  exact ⟨rfl, (K.out.nil hb).drewN _, (Only.refl _ _).drewN _⟩
            · have hcp : ∀ (N : Nat) (ty : TypeId), (Builtin.copy_ #[23, 23] ty #[.slice (some ⟨y, a, none⟩) (L - a) (L - a), .slice bA kn bc]).run Try.prog (w.drewN N) = .ok (goInt kn) ((w.drewN N).setCells y a (byteCells k)) := fun N ty => by
                rcases HS.out.2 with h | ⟨ad, rfl, hsrc⟩
                · omega
                · have h := run_copy_cells (P := Try.prog) (w.drewN N) 23 23 ty 5 y a (L - a) (L - a) ad kn bc (byteCells k) Try.underlying23 hsz (by rw [show (byteCells k).length = kn by simp [byteCells, hkl]]; exact (Nat.min_eq_left (show kn ≤ L - a by omega)).symm) hsrc
                    (fun j hj => by
                      have hj' : j < k.length := by simpa [byteCells] using hj
                      have := (KY.out.drewN N).cell (a + j)
                      rw [this]; unfold byteCells; rw [List.getElem?_map, List.getElem?_eq_getElem (by omega)]; rfl)
                    (fun j hj => (KY.out.drewN N).free _) (fun v hv => by simp [byteCells] at hv; obtain ⟨q, -, rfl⟩ := hv; rfl)
                  have e2 : (byteCells k).length = kn := by simp [byteCells, hkl]
                  rw [e2] at h
                  exact h
              go_enter Try.func42, Try.ntmps42
              go_wp2_with (go_at_call 43; (with_reducible refine Calls.mono (H1 _).out ?_); rintro e w' ⟨rfl, rfl⟩)
              go_quiet (fail)
              go_wp2_with fail
              go_quiet (fail)
              go_wp2_with fail
              go_region
              all_goals
                go_wp2_with fail
                go_ret
                have ol : (over b.bytes a k).length = b.bytes.length := over_length _ _ _ (by omega)
                have eb : bufCells { b with bytes := over b.bytes a k } y = bufCells b y := by unfold bufCells; simp only [ol]
                have o := fun N => setCells_only y (byteCells k) a (w.drewN N)
                have o1 : ∀ N, Only (fun g => g = x ∨ g = y) w ((w.drewN N).setCells y a (byteCells k)) := fun N => ((Only.refl (fun g => g = x ∨ g = y) w).drewN N).trans (o N) (fun _ _ h => .inr h)
                have mm : ∀ N, Blk ((w.drewN N).setCells y a (byteCells k)) y 5 (byteCells (over b.bytes a k)) := fun N => by
                  have h := Blk.many (byteCells k) a (KY.out.drewN N)
                  rw [over_cells _ _ _ (by omega)] at h
                  exact h
                refine ⟨rfl, K.out.turn hi hx hy (o1 _) ?_ ?_, own_of mx my (o1 _)⟩
                · rw [eb]; exact (KX.out.drewN _).only (o _) (fun e => hxy e.symm)
                · exact mm _
    · have d2 : (b.own == by_) = false := beq_eq_false_iff_ne.2 z2
      have d5 : (b.own != by_) = true := bne_iff_ne.2 z2
      have e : writeB by_ at_ k b = (8, b) := by unfold writeB; rw [if_neg (by simp [z1]), if_pos z2]
      rw [e]
      clear e
      go_enter Try.func42, Try.ntmps42
      go_wp2_with (go_at_call 43; (with_reducible refine Calls.mono (H1 _).out ?_); rintro e w' ⟨rfl, rfl⟩)
      go_quiet (fail)
      go_wp2_with fail
      go_ret
      exact ⟨rfl, (K.out.nil hb).drewN _, (Only.refl _ _).drewN _⟩
theorem Src.below {w w' : World} {size m : Nat} {A : Option Addr} {news : List Value} (h : Src w size A m news) (o : Below w.heap.size w w') : Src w' size A m news := h.keep fun p hp _ => o.cell hp
set_option maxHeartbeats 1000000 in
theorem writep_any {w : World} {P : Pl} {bs : List Bf} (kp : IsP w P bs) (s g by_ at_ : Int) (k : List Int) (bA : Option Addr) (bc : Nat) (hl : ∀ b ∈ bs, b.bytes.length ≤ 65536) (hk9 : k.length ≤ 140737488351232) (ha : -9223372036854775808 ≤ at_) (ha' : at_ ≤ 9223372036854775807)
    (hs : Src w 1 bA k.length (byteCells k)) :
    Calls Try.prog 29 #[.pointer (some ⟨P.p, 0, none⟩), .agg #[.int .i64 s, .int .u64 g], .int .i64 by_, .int .i64 at_, .slice bA k.length bc] w fun e w' => e = .returned (.int .i64 (writeQ s g by_ at_ k bs).1) ∧ IsP w' P (writeQ s g by_ at_ k bs).2 ∧ Only P.own w w' := by
  have hmf : ∀ (fn : Fn) (first cap : Array Value) (w : World), (Instr.makeFunc fn first cap).run Try.prog w = .ok (.func fn first cap) w := fun _ _ _ _ => rfl
  have bw : Below w.heap.size w ((((w.alloc (.cells #[.int .i64 s, .int .u64 g] 40)).alloc (.cells #[.int .i64 by_] 3)).alloc (.cells #[.int .i64 at_] 3)).alloc (.cells #[.slice bA k.length bc] 23)) := ((((Below.refl _ _).alloc (Nat.le_refl _) _).alloc (by simp) _).alloc (by simp; omega) _).alloc (by simp; omega) _
  have kw : IsP ((((w.alloc (.cells #[.int .i64 s, .int .u64 g] 40)).alloc (.cells #[.int .i64 by_] 3)).alloc (.cells #[.int .i64 at_] 3)).alloc (.cells #[.slice bA k.length bc] 23)) P bs := kp.below bw
  have sw : Src ((((w.alloc (.cells #[.int .i64 s, .int .u64 g] 40)).alloc (.cells #[.int .i64 by_] 3)).alloc (.cells #[.int .i64 at_] 3)).alloc (.cells #[.slice bA k.length bc] 23)) 1 bA k.length (byteCells k) := hs.below bw
  have fx : Blk ((((w.alloc (.cells #[.int .i64 s, .int .u64 g] 40)).alloc (.cells #[.int .i64 by_] 3)).alloc (.cells #[.int .i64 at_] 3)).alloc (.cells #[.slice bA k.length bc] 23)) (w.heap.size + 1) 3 [.int .i64 by_] := by
    have := ((Blk.new (w.alloc (.cells #[.int .i64 s, .int .u64 g] 40)) 3 [.int .i64 by_]).alloc (.cells #[.int .i64 at_] 3)).alloc (.cells #[.slice bA k.length bc] 23)
    simpa using this
  have tx : Blk ((((w.alloc (.cells #[.int .i64 s, .int .u64 g] 40)).alloc (.cells #[.int .i64 by_] 3)).alloc (.cells #[.int .i64 at_] 3)).alloc (.cells #[.slice bA k.length bc] 23)) (w.heap.size + 2) 3 [.int .i64 at_] := by
    have := (Blk.new ((w.alloc (.cells #[.int .i64 s, .int .u64 g] 40)).alloc (.cells #[.int .i64 by_] 3)) 3 [.int .i64 at_]).alloc (.cells #[.slice bA k.length bc] 23)
    simpa using this
  have zx : Blk ((((w.alloc (.cells #[.int .i64 s, .int .u64 g] 40)).alloc (.cells #[.int .i64 by_] 3)).alloc (.cells #[.int .i64 at_] 3)).alloc (.cells #[.slice bA k.length bc] 23)) (w.heap.size + 3) 23 [.slice bA k.length bc] := by
    have := Blk.new (((w.alloc (.cells #[.int .i64 s, .int .u64 g] 40)).alloc (.cells #[.int .i64 by_] 3)).alloc (.cells #[.int .i64 at_] 3)) 23 [.slice bA k.length bc]
    simpa using this
  unfold writeQ
  cases hlk : look bs s g with
  | none =>
    have D := Lib.hid (with_none kw s g hlk (.func 42) #[] #[.pointer (some ⟨w.heap.size + 1, 0, none⟩), .pointer (some ⟨w.heap.size + 2, 0, none⟩), .pointer (some ⟨w.heap.size + 3, 0, none⟩)])
    have K := Lib.hid kp
    have BW := Lib.hid bw
    clear kp kw bw hlk fx tx zx sw hs
    go_enter Try.func29, Try.ntmps29
    go_wp2_with (go_at_call 34; (with_reducible refine Calls.mono D.out ?_); rintro e w' ⟨rfl, ho⟩)
    go_ret
    have ho := Below.next BW.out ho
    exact ⟨rfl, K.out.below ho, Only.of_below ho⟩
  | some ib =>
    obtain ⟨i, b⟩ := ib
    obtain ⟨-, -, hb, -, -⟩ := look_some hlk
    obtain ⟨x, y, hx, hy, -, -, -, -, -⟩ := kp.xy hb
    have D := Lib.hid (with_Write kw hlk hx #[.pointer (some ⟨w.heap.size + 1, 0, none⟩), .pointer (some ⟨w.heap.size + 2, 0, none⟩), .pointer (some ⟨w.heap.size + 3, 0, none⟩)] (Q := fun e w' => e = .returned (.int .i64 (writeB by_ at_ k b).1) ∧ IsP w' P (bs.set i (writeB by_ at_ k b).2) ∧ Only P.own w w')
      (fun W kW bel => (write1_any kW hb hx by_ at_ k bA bc (hl b (List.mem_of_getElem? hb)) hk9 ha ha' (w.heap.size + 1) (w.heap.size + 2) (w.heap.size + 3) ((fx.below bel fx.lt).cell 0) ((tx.below bel tx.lt).cell 0) ((zx.below bel zx.lt).cell 0) (sw.below bel)).mono fun e w' h => ⟨_, h.1, h.1, h.2.1, (Only.of_below (Below.next bw bel)).trans h.2.2 (fun _ _ h => h)⟩))
    simp only
    generalize (writeB by_ at_ k b).1 = r at *
    generalize (writeB by_ at_ k b).2 = b' at *
    clear kp kw bw hlk hb hx hy fx tx zx sw hs
    go_enter Try.func29, Try.ntmps29
    go_wp2_with (go_at_call 34; (with_reducible refine Calls.mono D.out ?_); rintro e w' ⟨rfl, hk, ho⟩)
    go_ret
    exact ⟨rfl, hk, ho⟩
end Go.Proofs.Ytajcjepolfmhmaa
