/- Layer 7 (pool): the contracts of Give, Owner, Size. -/
import Derived.Test.YtajcjepolfmhmaaPoolOps
namespace Go.Proofs.Ytajcjepolfmhmaa
open Go.RowKit
set_option linter.unusedVariables false
set_option linter.unusedSimpArgs false
/-- Given from one to another. -/
def giveB (f t : Int) (b : Bf) : Int × Bf := if mayOwn f = false ∨ mayOwn t = false ∨ f = t then (1, b) else if b.own ≠ f then (8, b) else (0, { b with own := t })
def giveQ (s g f t : Int) (bs : List Bf) : Int × List Bf := match look bs s g with
  | none => (3, bs)
  | some (i, b) => ((giveB f t b).1, bs.set i (giveB f t b).2)
theorem mayOwn_iff {o : Int} : mayOwn o = true ↔ 1 ≤ o ∧ o ≤ 3 := by unfold mayOwn; simp
theorem mayOwn_no {o : Int} (h : mayOwn o = false) : ¬ (1 ≤ o ∧ o ≤ 3) := fun e => by rw [mayOwn_iff.2 e] at h; cases h
theorem holds_any (o : Int) (w : World) : Calls Try.prog 43 #[.int .i64 o] w fun e w' => e = .returned (.bool (mayOwn o)) ∧ w = w' := by
  by_cases z1 : 1 ≤ o
  · by_cases z2 : o ≤ 3
    · have e : mayOwn o = true := mayOwn_iff.2 ⟨z1, z2⟩
      rw [e]; clear e
      go_enter Try.func43, Try.ntmps43
      go_wp2
      go_ret
      exact ⟨retb (by simp), rfl⟩
    · have e : mayOwn o = false := decide_eq_false (by omega)
      have y : decide (o ≤ 3) = false := decide_eq_false z2
      rw [e]; clear e
      go_enter Try.func43, Try.ntmps43
      go_wp2
      go_ret
      exact ⟨retb (by simp), rfl⟩
  · have e : mayOwn o = false := decide_eq_false (by omega)
    have y : decide (1 ≤ o) = false := decide_eq_false z1
    rw [e]; clear e
    go_enter Try.func43, Try.ntmps43
    go_wp2
    go_ret
    exact ⟨retb (by simp), rfl⟩
set_option maxHeartbeats 1000000 in
theorem give1_any {w : World} {P : Pl} {bs : List Bf} (k : IsP w P bs) {i x : Nat} {b : Bf} (hb : bs[i]? = some b) (hx : P.xs[i]? = some x) (f t : Int) (u v : Nat) (hu : w.cell? ⟨u, 0, none⟩ = some (.int .i64 f)) (hv : w.cell? ⟨v, 0, none⟩ = some (.int .i64 t)) :
    Calls Try.prog 45 #[.pointer (some ⟨x, 0, none⟩), .pointer (some ⟨u, 0, none⟩), .pointer (some ⟨v, 0, none⟩)] w fun e w' => e = .returned (.int .i64 (giveB f t b).1) ∧ IsP w' P (bs.set i (giveB f t b).2) ∧ Only P.own w w' := by
  obtain ⟨x', y, hx', hy, mx, my, kx, ky, hi⟩ := k.xy hb
  rw [hx] at hx'
  injection hx' with hx'
  subst hx'
  have x0 : w.cell? ⟨x, 0, none⟩ = some (.int .u64 b.gen) := kx.cell 0
  have x1 : w.cell? ⟨x, 1, none⟩ = some (.int .i64 b.own) := kx.cell 1
  have x2 : w.cell? ⟨x, 2, none⟩ = some (.int .i64 b.refs) := kx.cell 2
  have l0 : w.frozen? ⟨x, 0, none⟩ = false := kx.free 0
  have l1 : w.frozen? ⟨x, 1, none⟩ = false := kx.free 1
  have l2 : w.frozen? ⟨x, 2, none⟩ = false := kx.free 2
  have K := Lib.hid k
  have KX := Lib.hid kx
  have KY := Lib.hid ky
  have hxy : y ≠ x := ky.ne kx (by decide)
  have H1 := fun W => Lib.hid (holds_any f W)
  have H2 := fun W => Lib.hid (holds_any t W)
  clear k kx ky
  cases z1 : mayOwn f with
  | false =>
    have e : giveB f t b = (1, b) := by unfold giveB; rw [if_pos (.inl z1)]
    rw [e]
    rw [z1] at H1
    clear e
    go_enter Try.func45, Try.ntmps45
    go_wp2_with (first
      | (go_at_call 43; (with_reducible refine Calls.mono (H1 _).out ?_); rintro e w' ⟨rfl, rfl⟩)
      | (go_at_call 43; (with_reducible refine Calls.mono (H2 _).out ?_); rintro e w' ⟨rfl, rfl⟩))
    go_ret
    exact ⟨rfl, K.out.nil hb, Only.refl _ _⟩
  | true =>
    rw [z1] at H1
    cases z2 : mayOwn t with
    | false =>
      have e : giveB f t b = (1, b) := by unfold giveB; rw [if_pos (.inr (.inl z2))]
      rw [e]
      rw [z2] at H2
      clear e
      go_enter Try.func45, Try.ntmps45
      go_wp2_with (first
        | (go_at_call 43; (with_reducible refine Calls.mono (H1 _).out ?_); rintro e w' ⟨rfl, rfl⟩)
        | (go_at_call 43; (with_reducible refine Calls.mono (H2 _).out ?_); rintro e w' ⟨rfl, rfl⟩))
      go_ret
      exact ⟨rfl, K.out.nil hb, Only.refl _ _⟩
    | true =>
      rw [z2] at H2
      by_cases z3 : f = t
      · have e : giveB f t b = (1, b) := by unfold giveB; rw [if_pos (.inr (.inr z3))]
        rw [e]
        have d3 : (f == t) = true := beq_iff_eq.2 z3
        clear e z3
        go_enter Try.func45, Try.ntmps45
        go_wp2_with (first
          | (go_at_call 43; (with_reducible refine Calls.mono (H1 _).out ?_); rintro e w' ⟨rfl, rfl⟩)
          | (go_at_call 43; (with_reducible refine Calls.mono (H2 _).out ?_); rintro e w' ⟨rfl, rfl⟩))
        go_ret
        exact ⟨rfl, K.out.nil hb, Only.refl _ _⟩
      · have d3 : (f == t) = false := beq_eq_false_iff_ne.2 z3
        by_cases z4 : b.own = f
        · have e : giveB f t b = (0, { b with own := t }) := by unfold giveB; rw [if_neg (by rw [z1, z2]; simpa using z3), if_neg (by simpa using z4)]
          rw [e]
          have d4 : (b.own == f) = true := beq_iff_eq.2 z4
          clear e z4
          go_enter Try.func45, Try.ntmps45
          go_wp2_with (first
            | (go_at_call 43; (with_reducible refine Calls.mono (H1 _).out ?_); rintro e w' ⟨rfl, rfl⟩)
            | (go_at_call 43; (with_reducible refine Calls.mono (H2 _).out ?_); rintro e w' ⟨rfl, rfl⟩))
          go_quiet (fail)
          go_wp2_with fail
          go_ret
          have o := fun n => Only.setCell ((Only.refl (fun g => g = x ∨ g = y) w).drewN n) (p := ⟨x, 1, none⟩) (fun _ => .inl rfl) (.int .i64 t)
          exact ⟨rfl, K.out.turn hi hx hy (o _) ((KX.out.drewN _).put 1 _) ((KY.out.drewN _).far hxy _), own_of mx my (o _)⟩
        · have e : giveB f t b = (8, b) := by unfold giveB; rw [if_neg (by rw [z1, z2]; simpa using z3), if_pos z4]
          rw [e]
          have d4 : (b.own == f) = false := beq_eq_false_iff_ne.2 z4
          have d5 : (b.own != f) = true := bne_iff_ne.2 z4
          clear e
          go_enter Try.func45, Try.ntmps45
          go_wp2_with (first
            | (go_at_call 43; (with_reducible refine Calls.mono (H1 _).out ?_); rintro e w' ⟨rfl, rfl⟩)
            | (go_at_call 43; (with_reducible refine Calls.mono (H2 _).out ?_); rintro e w' ⟨rfl, rfl⟩))
          go_quiet (fail)
          go_wp2_with fail
          go_ret
          exact ⟨rfl, (K.out.nil hb).drewN _, (Only.refl _ _).drewN _⟩
theorem givep_any {w : World} {P : Pl} {bs : List Bf} (k : IsP w P bs) (s g f t : Int) :
    Calls Try.prog 33 #[.pointer (some ⟨P.p, 0, none⟩), .agg #[.int .i64 s, .int .u64 g], .int .i64 f, .int .i64 t] w fun e w' => e = .returned (.int .i64 (giveQ s g f t bs).1) ∧ IsP w' P (giveQ s g f t bs).2 ∧ Only P.own w w' := by
  have hmf : ∀ (fn : Fn) (first cap : Array Value) (w : World), (Instr.makeFunc fn first cap).run Try.prog w = .ok (.func fn first cap) w := fun _ _ _ _ => rfl
  have kw := ((k.alloc (.cells #[.int .i64 s, .int .u64 g] 40)).alloc (.cells #[.int .i64 f] 3)).alloc (.cells #[.int .i64 t] 3)
  have bw : Below w.heap.size w (((w.alloc (.cells #[.int .i64 s, .int .u64 g] 40)).alloc (.cells #[.int .i64 f] 3)).alloc (.cells #[.int .i64 t] 3)) := (((Below.refl _ _).alloc (Nat.le_refl _) _).alloc (by simp) _).alloc (by simp; omega) _
  have fx : Blk (((w.alloc (.cells #[.int .i64 s, .int .u64 g] 40)).alloc (.cells #[.int .i64 f] 3)).alloc (.cells #[.int .i64 t] 3)) (w.heap.size + 1) 3 [.int .i64 f] := by
    have := (Blk.new (w.alloc (.cells #[.int .i64 s, .int .u64 g] 40)) 3 [.int .i64 f]).alloc (.cells #[.int .i64 t] 3)
    simpa using this
  have tx : Blk (((w.alloc (.cells #[.int .i64 s, .int .u64 g] 40)).alloc (.cells #[.int .i64 f] 3)).alloc (.cells #[.int .i64 t] 3)) (w.heap.size + 2) 3 [.int .i64 t] := by
    have := Blk.new ((w.alloc (.cells #[.int .i64 s, .int .u64 g] 40)).alloc (.cells #[.int .i64 f] 3)) 3 [.int .i64 t]
    simpa using this
  unfold giveQ
  cases hl : look bs s g with
  | none =>
    have D := Lib.hid (with_none kw s g hl (.func 45) #[] #[.pointer (some ⟨w.heap.size + 1, 0, none⟩), .pointer (some ⟨w.heap.size + 2, 0, none⟩)])
    have K := Lib.hid k
    have BW := Lib.hid bw
    clear k kw bw hl fx tx
    go_enter Try.func33, Try.ntmps33
    go_wp2_with (go_at_call 34; (with_reducible refine Calls.mono D.out ?_); rintro e w' ⟨rfl, ho⟩)
    go_ret
    have ho := Below.next BW.out ho
    exact ⟨rfl, K.out.below ho, Only.of_below ho⟩
  | some ib =>
    obtain ⟨i, b⟩ := ib
    obtain ⟨-, -, hb, -, -⟩ := look_some hl
    obtain ⟨x, y, hx, hy, -, -, -, -, -⟩ := k.xy hb
    have D := Lib.hid (with_Give kw hl hx #[.pointer (some ⟨w.heap.size + 1, 0, none⟩), .pointer (some ⟨w.heap.size + 2, 0, none⟩)] (Q := fun e w' => e = .returned (.int .i64 (giveB f t b).1) ∧ IsP w' P (bs.set i (giveB f t b).2) ∧ Only P.own w w')
      (fun W kW bel => (give1_any kW hb hx f t (w.heap.size + 1) (w.heap.size + 2) ((fx.below bel fx.lt).cell 0) ((tx.below bel tx.lt).cell 0)).mono fun e w' h => ⟨_, h.1, h.1, h.2.1, (Only.of_below (Below.next bw bel)).trans h.2.2 (fun _ _ h => h)⟩))
    simp only
    generalize (giveB f t b).1 = r at *
    generalize (giveB f t b).2 = b' at *
    clear k kw bw hl hb hx hy fx tx
    go_enter Try.func33, Try.ntmps33
    go_wp2_with (go_at_call 34; (with_reducible refine Calls.mono D.out ?_); rintro e w' ⟨rfl, hk, ho⟩)
    go_ret
    exact ⟨rfl, hk, ho⟩
/-- Whose it is, and how many references there are. -/
def ownerQ (s g : Int) (bs : List Bf) : Int × Int × Int := match look bs s g with
  | none => (0, 0, 3)
  | some (i, b) => (b.own, b.refs, 0)
theorem owner1_any {w : World} {P : Pl} {bs : List Bf} (k : IsP w P bs) {i x : Nat} {b : Bf} (hb : bs[i]? = some b) (hx : P.xs[i]? = some x) (u v : Nat) {c d : Value} (hu : Blk w u 3 [c]) (hv : Blk w v 3 [d]) (huv : u ≠ v) :
    Calls Try.prog 35 #[.pointer (some ⟨x, 0, none⟩), .pointer (some ⟨u, 0, none⟩), .pointer (some ⟨v, 0, none⟩)] w fun e w' => e = .returned (.int .i64 0) ∧ Blk w' u 3 [.int .i64 b.own] ∧ Blk w' v 3 [.int .i64 b.refs] ∧ Only (fun g => g = u ∨ g = v) w w' := by
  obtain ⟨x', y, hx', hy, mx, my, kx, ky, hi⟩ := k.xy hb
  rw [hx] at hx'
  injection hx' with hx'
  subst hx'
  have x0 : w.cell? ⟨x, 0, none⟩ = some (.int .u64 b.gen) := kx.cell 0
  have x1 : w.cell? ⟨x, 1, none⟩ = some (.int .i64 b.own) := kx.cell 1
  have x2 : w.cell? ⟨x, 2, none⟩ = some (.int .i64 b.refs) := kx.cell 2
  have l0 : w.frozen? ⟨x, 0, none⟩ = false := kx.free 0
  have l1 : w.frozen? ⟨x, 1, none⟩ = false := kx.free 1
  have l2 : w.frozen? ⟨x, 2, none⟩ = false := kx.free 2
  have K := Lib.hid k
  have KX := Lib.hid kx
  have KY := Lib.hid ky
  have hxy : y ≠ x := ky.ne kx (by decide)
  have u0 : w.cell? ⟨u, 0, none⟩ = some c := hu.cell 0
  have v0 : w.cell? ⟨v, 0, none⟩ = some d := hv.cell 0
  have u1 : w.frozen? ⟨u, 0, none⟩ = false := hu.free 0
  have v1 : w.frozen? ⟨v, 0, none⟩ = false := hv.free 0
  have hux : u ≠ x := hu.ne kx (by decide)
  have hvx : v ≠ x := hv.ne kx (by decide)
  have HU := Lib.hid hu
  have HV := Lib.hid hv
  clear k kx ky hu hv
  go_enter Try.func35, Try.ntmps35
  go_wp2_with fail
  go_region
  all_goals
    go_wp2_with fail
    go_ret
    refine ⟨rfl, ?_, ?_, ?_⟩
    · exact ((HU.out.drew.put 0 _).far huv _)
    · exact ((HV.out.drew.far (fun e => huv e.symm) _).put 0 _)
    · exact Only.setCell (Only.setCell ((Only.refl (fun g => g = u ∨ g = v) w).drew) (p := ⟨u, 0, none⟩) (fun _ => .inl rfl) _) (p := ⟨v, 0, none⟩) (fun _ => .inr rfl) _
set_option maxHeartbeats 1000000 in
theorem ownerp_any {w : World} {P : Pl} {bs : List Bf} (k : IsP w P bs) (s g : Int) :
    Calls Try.prog 17 #[.pointer (some ⟨P.p, 0, none⟩), .agg #[.int .i64 s, .int .u64 g]] w fun e w' => e = .returned (.tuple #[.int .i64 (ownerQ s g bs).1, .int .i64 (ownerQ s g bs).2.1, .int .i64 (ownerQ s g bs).2.2]) ∧ IsP w' P bs ∧ Below w.heap.size w w' := by
  have hmf : ∀ (fn : Fn) (first cap : Array Value) (w : World), (Instr.makeFunc fn first cap).run Try.prog w = .ok (.func fn first cap) w := fun _ _ _ _ => rfl
  have kw := ((k.alloc (.cells #[.int .i64 s, .int .u64 g] 40)).alloc (.cells #[.int .i64 0] 3)).alloc (.cells #[.int .i64 0] 3)
  have bw : Below w.heap.size w (((w.alloc (.cells #[.int .i64 s, .int .u64 g] 40)).alloc (.cells #[.int .i64 0] 3)).alloc (.cells #[.int .i64 0] 3)) := (((Below.refl _ _).alloc (Nat.le_refl _) _).alloc (by simp) _).alloc (by simp; omega) _
  have fx : Blk (((w.alloc (.cells #[.int .i64 s, .int .u64 g] 40)).alloc (.cells #[.int .i64 0] 3)).alloc (.cells #[.int .i64 0] 3)) (w.heap.size + 1) 3 [.int .i64 0] := by
    have := (Blk.new (w.alloc (.cells #[.int .i64 s, .int .u64 g] 40)) 3 [.int .i64 0]).alloc (.cells #[.int .i64 0] 3)
    simpa using this
  have tx : Blk (((w.alloc (.cells #[.int .i64 s, .int .u64 g] 40)).alloc (.cells #[.int .i64 0] 3)).alloc (.cells #[.int .i64 0] 3)) (w.heap.size + 2) 3 [.int .i64 0] := by
    have := Blk.new ((w.alloc (.cells #[.int .i64 s, .int .u64 g] 40)).alloc (.cells #[.int .i64 0] 3)) 3 [.int .i64 0]
    simpa using this
  unfold ownerQ
  cases hl : look bs s g with
  | none =>
    have D := Lib.hid (with_none kw s g hl (.func 35) #[] #[.pointer (some ⟨w.heap.size + 1, 0, none⟩), .pointer (some ⟨w.heap.size + 2, 0, none⟩)])
    have K := Lib.hid k
    have BW := Lib.hid bw
    have FX := Lib.hid fx
    have TX := Lib.hid tx
    clear k kw bw hl fx tx
    go_enter Try.func17, Try.ntmps17
    go_wp2_with (first
      | (go_at_call 34; (with_reducible refine Calls.mono D.out ?_); rintro e w' ⟨rfl, ho⟩
         have f0 : w'.cell? ⟨w.heap.size + 1, 0, none⟩ = some (.int .i64 0) := (FX.out.below ho FX.out.lt).cell 0
         have t0 : w'.cell? ⟨w.heap.size + 1 + 1, 0, none⟩ = some (.int .i64 0) := (TX.out.below ho TX.out.lt).cell 0
         have HO := Lib.hid (Below.next BW.out ho)
         clear ho))
    go_quiet (fail)
    go_wp2_with fail
    go_ret3
    exact ⟨rfl, (K.out.below HO.out).drewN _, Below.drewN' HO.out _⟩
  | some ib =>
    obtain ⟨i, b⟩ := ib
    obtain ⟨-, -, hb, -, -⟩ := look_some hl
    obtain ⟨x, y, hx, hy, -, -, -, -, -⟩ := k.xy hb
    have D := Lib.hid (with_Owner kw hl hx #[.pointer (some ⟨w.heap.size + 1, 0, none⟩), .pointer (some ⟨w.heap.size + 2, 0, none⟩)] (Q := fun e w' => e = .returned (.int .i64 0) ∧ Blk w' (w.heap.size + 1) 3 [.int .i64 b.own] ∧ Blk w' (w.heap.size + 2) 3 [.int .i64 b.refs] ∧ Below w.heap.size w w')
      (fun W kW bel => (owner1_any kW hb hx (w.heap.size + 1) (w.heap.size + 2) (fx.below bel fx.lt) (tx.below bel tx.lt) (by omega)).mono fun e w' h => ⟨_, h.1, h.1, h.2.1, h.2.2.1, (Below.next bw bel).trans (h.2.2.2.below (Below.next bw bel).size (fun i hi e => by omega))⟩))
    have K := Lib.hid k
    simp only
    generalize b.own = r1 at *
    generalize b.refs = r2 at *
    clear k kw bw hl hb hx hy fx tx
    go_enter Try.func17, Try.ntmps17
    go_wp2_with (first
      | (go_at_call 34; (with_reducible refine Calls.mono D.out ?_); rintro e w' ⟨rfl, h1, h2, ho⟩
         have f0 : w'.cell? ⟨w.heap.size + 1, 0, none⟩ = some (.int .i64 r1) := h1.cell 0
         have t0 : w'.cell? ⟨w.heap.size + 1 + 1, 0, none⟩ = some (.int .i64 r2) := h2.cell 0
         have HO := Lib.hid ho
         clear ho h1 h2))
    go_quiet (fail)
    go_wp2_with fail
    go_ret3
    exact ⟨rfl, (K.out.below HO.out).drewN _, Below.drewN' HO.out _⟩
end Go.Proofs.Ytajcjepolfmhmaa
