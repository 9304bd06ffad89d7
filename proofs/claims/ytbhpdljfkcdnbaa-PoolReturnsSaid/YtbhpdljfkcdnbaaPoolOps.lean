/- Layer 7 (pool): what each function does to one buffer; the contracts of Share, Drop, Give. -/
import Derived.Test.YtbhpdljfkcdnbaaPoolWith
namespace Go.Proofs.Ytbhpdljfkcdnbaa
open Go.RowKit
set_option linter.unusedVariables false
set_option linter.unusedSimpArgs false
/-- What a run keeps of each buffer. -/
structure Bf.ok (G : Int) (b : Bf) : Prop where
  g0 : 0 ≤ b.gen
  g1 : b.gen ≤ G
  o0 : 0 ≤ b.own
  o1 : b.own ≤ 3
  r0 : 0 ≤ b.refs
  r1 : b.refs ≤ 100
  live : b.own ≠ 0 → 1 ≤ b.refs
  len : b.bytes.length ≤ 65536
  el : ∀ x ∈ b.bytes, 0 ≤ x ∧ x ≤ 255
theorem set_same {bs : List Bf} {i : Nat} {b : Bf} (h : bs[i]? = some b) : bs.set i b = bs := by
  obtain ⟨h1, h2⟩ := List.getElem?_eq_some_iff.1 h
  rw [← h2]; exact List.set_getElem_self h1
theorem set_set_ {bs : List Bf} {i : Nat} {b c : Bf} : (bs.set i b).set i c = bs.set i c := by simp
section
variable {w w' : World} {P : Pl} {bs : List Bf}
theorem IsP.xy (h : IsP w P bs) {i : Nat} {b : Bf} (hb : bs[i]? = some b) : ∃ x y, P.xs[i]? = some x ∧ P.ys[i]? = some y ∧ x ∈ P.xs ∧ y ∈ P.ys ∧ Blk w x 63 (bufCells b y) ∧ Blk w y 5 (byteCells b.bytes) ∧ i < bs.length := by
  obtain ⟨hl, -⟩ := List.getElem?_eq_some_iff.1 hb
  obtain ⟨b0, x, y, hb0, hx, hy, h1, h2, k1, k2⟩ := h.at_ hl
  rw [hb] at hb0
  injection hb0 with hb0
  subst hb0
  exact ⟨x, y, hx, hy, h1, h2, k1, k2, hl⟩
theorem IsP.nil (h : IsP w P bs) {i : Nat} {b : Bf} (hb : bs[i]? = some b) : IsP w P (bs.set i b) := by rw [set_same hb]; exact h
theorem own_of {x y : Nat} (hx : x ∈ P.xs) (hy : y ∈ P.ys) (o : Only (fun g => g = x ∨ g = y) w w') : Only P.own w w' := o.mono fun i _ h => h.elim (fun e => .inl (e ▸ hx)) (fun e => .inr (e ▸ hy))
end
/-- A reference more, of what is a task's. -/
def shareB (b : Bf) : Int × Bf := if b.own ≠ 1 then (8, b) else if 100 ≤ b.refs then (4, b) else (0, { b with refs := b.refs + 1 })
def shareQ (s g : Int) (bs : List Bf) : Int × List Bf := match look bs s g with
  | none => (3, bs)
  | some (i, b) => ((shareB b).1, bs.set i (shareB b).2)
theorem share1_any {w : World} {P : Pl} {bs : List Bf} (k : IsP w P bs) {i x : Nat} {b : Bf} {G : Int} (hb : bs[i]? = some b) (hx : P.xs[i]? = some x) (ok : b.ok G) :
    Calls Try.prog 31 #[.pointer (some ⟨x, 0, none⟩)] w fun e w' => e = .returned (.int .i64 (shareB b).1) ∧ IsP w' P (bs.set i (shareB b).2) ∧ Only P.own w w' := by
  obtain ⟨x', y, hx', hy, mx, my, kx, ky, hi⟩ := k.xy hb
  rw [hx] at hx'
  injection hx' with hx'
  subst hx'
  have x0 : w.cell? ⟨x, 0, none⟩ = some (.int .u64 b.gen) := kx.cell 0
  have x1 : w.cell? ⟨x, 1, none⟩ = some (.int .i64 b.own) := kx.cell 1
  have x2 : w.cell? ⟨x, 2, none⟩ = some (.int .i64 b.refs) := kx.cell 2
  have l0 : w.frozen? ⟨x, 0, none⟩ = false := kx.free 0
  have l1 : w.frozen? ⟨x, 1, none⟩ = false := kx.free 1
  have l2 : w.frozen? ⟨x, 2, none⟩ = false := kx.free 2
  have K := Lib.hid k
  have KX := Lib.hid kx
  have KY := Lib.hid ky
  have hxy : y ≠ x := ky.ne kx (by decide)
  obtain ⟨-, -, -, -, r0, r1, -, -, -⟩ := ok
  by_cases z1 : b.own = 1
  · by_cases z2 : 100 ≤ b.refs
    · have e : shareB b = (4, b) := by unfold shareB; rw [if_neg (by simpa using z1), if_pos z2]
      rw [e]
      have d1 : (b.own == 1) = true := beq_iff_eq.2 z1
      have d2 : decide (100 ≤ b.refs) = true := decide_eq_true z2
      clear k kx ky e z1
      go_enter Try.func31, Try.ntmps31
      go_wp2_with fail
      go_ret
      exact ⟨rfl, K.out.nil hb, Only.refl _ _⟩
    · have e : shareB b = (0, { b with refs := b.refs + 1 }) := by unfold shareB; rw [if_neg (by simpa using z1), if_neg z2]
      rw [e]
      have d1 : (b.own == 1) = true := beq_iff_eq.2 z1
      have d2 : decide (100 ≤ b.refs) = false := decide_eq_false z2
      clear k kx ky e z1
      go_enter Try.func31, Try.ntmps31
      go_wp2_with fail
      go_ret
      have o := Only.setCell (Only.refl (fun g => g = x ∨ g = y) w) (p := ⟨x, 2, none⟩) (fun _ => .inl rfl) (.int .i64 (b.refs + 1))
      exact ⟨rfl, K.out.turn hi hx hy o (KX.out.put 2 _) (KY.out.far hxy _), own_of mx my o⟩
  · have e : shareB b = (8, b) := by unfold shareB; rw [if_pos z1]
    rw [e]
    have d1 : (b.own == 1) = false := beq_eq_false_iff_ne.2 z1
    have d2 : (b.own != 1) = true := bne_iff_ne.2 z1
    clear k kx ky e
    go_enter Try.func31, Try.ntmps31
    go_wp2_with fail
    go_ret
    exact ⟨rfl, K.out.nil hb, Only.refl _ _⟩
theorem sharep_any {w : World} {P : Pl} {bs : List Bf} (k : IsP w P bs) (s g : Int) {G : Int} (ok : ∀ b ∈ bs, b.ok G) :
    Calls Try.prog 18 #[.pointer (some ⟨P.p, 0, none⟩), .agg #[.int .i64 s, .int .u64 g]] w fun e w' => e = .returned (.int .i64 (shareQ s g bs).1) ∧ IsP w' P (shareQ s g bs).2 ∧ Only P.own w w' := by
  have hmf : ∀ (fn : Fn) (first cap : Array Value) (w : World), (Instr.makeFunc fn first cap).run Try.prog w = .ok (.func fn first cap) w := fun _ _ _ _ => rfl
  have kw := k.alloc (.cells #[.int .i64 s, .int .u64 g] 34)
  have bw : Below w.heap.size w (w.alloc (.cells #[.int .i64 s, .int .u64 g] 34)) := (Below.refl _ _).alloc (Nat.le_refl _) _
  unfold shareQ
  cases hl : look bs s g with
  | none =>
    have D := Lib.hid (with_none kw s g hl (.func 31) #[] #[])
    have K := Lib.hid k
    have BW := Lib.hid bw
    clear k kw bw ok hl
    go_enter Try.func18, Try.ntmps18
    go_wp2_with (go_at_call 25; (with_reducible refine Calls.mono D.out ?_); rintro e w' ⟨rfl, ho⟩)
    go_ret
    have ho := Below.next BW.out ho
    exact ⟨rfl, K.out.below ho, Only.of_below ho⟩
  | some ib =>
    obtain ⟨i, b⟩ := ib
    obtain ⟨-, -, hb, -, -⟩ := look_some hl
    obtain ⟨x, y, hx, hy, -, -, -, -, -⟩ := k.xy hb
    have okb := ok b (List.mem_of_getElem? hb)
    have D := Lib.hid (with_Share kw hl hx #[] (Q := fun e w' => e = .returned (.int .i64 (shareB b).1) ∧ IsP w' P (bs.set i (shareB b).2) ∧ Only P.own w w')
      (fun W kW bel => (share1_any kW hb hx okb).mono fun e w' h => ⟨_, h.1, h.1, h.2.1, (Only.of_below (Below.next bw bel)).trans h.2.2 (fun _ _ h => h)⟩))
    simp only
    generalize (shareB b).1 = r at *
    generalize (shareB b).2 = b' at *
    clear k kw bw ok okb hl hb hx hy
    go_enter Try.func18, Try.ntmps18
    go_wp2_with (go_at_call 25; (with_reducible refine Calls.mono D.out ?_); rintro e w' ⟨rfl, hk, ho⟩)
    go_ret
    exact ⟨rfl, hk, ho⟩
/-- A reference less, of what is a task's: the last one frees it. -/
def dropB (b : Bf) : Int × Bf := if b.own ≠ 1 then (8, b) else if b.refs = 1 then (0, { b with refs := 0, own := 0, gen := b.gen + 1 }) else (0, { b with refs := b.refs - 1 })
def dropQ (s g : Int) (bs : List Bf) : Int × List Bf := match look bs s g with
  | none => (3, bs)
  | some (i, b) => ((dropB b).1, bs.set i (dropB b).2)
theorem drop1_any {w : World} {P : Pl} {bs : List Bf} (k : IsP w P bs) {i x : Nat} {b : Bf} {G : Int} (hb : bs[i]? = some b) (hx : P.xs[i]? = some x) (ok : b.ok G) (hG : G ≤ 1000000) :
    Calls Try.prog 33 #[.pointer (some ⟨x, 0, none⟩)] w fun e w' => e = .returned (.int .i64 (dropB b).1) ∧ IsP w' P (bs.set i (dropB b).2) ∧ Only P.own w w' := by
  obtain ⟨x', y, hx', hy, mx, my, kx, ky, hi⟩ := k.xy hb
  rw [hx] at hx'
  injection hx' with hx'
  subst hx'
  have x0 : w.cell? ⟨x, 0, none⟩ = some (.int .u64 b.gen) := kx.cell 0
  have x1 : w.cell? ⟨x, 1, none⟩ = some (.int .i64 b.own) := kx.cell 1
  have x2 : w.cell? ⟨x, 2, none⟩ = some (.int .i64 b.refs) := kx.cell 2
  have l0 : w.frozen? ⟨x, 0, none⟩ = false := kx.free 0
  have l1 : w.frozen? ⟨x, 1, none⟩ = false := kx.free 1
  have l2 : w.frozen? ⟨x, 2, none⟩ = false := kx.free 2
  have K := Lib.hid k
  have KX := Lib.hid kx
  have KY := Lib.hid ky
  have hxy : y ≠ x := ky.ne kx (by decide)
  obtain ⟨g0, g1, -, -, r0, r1, -, -, -⟩ := ok
  by_cases z1 : b.own = 1
  · have d1 : (b.own == 1) = true := beq_iff_eq.2 z1
    by_cases z2 : b.refs = 1
    · have e : dropB b = (0, { b with refs := 0, own := 0, gen := b.gen + 1 }) := by unfold dropB; rw [if_neg (by simpa using z1), if_pos z2]
      rw [e]
      have d2 : (b.refs - 1 == 0) = true := beq_iff_eq.2 (by omega)
      have d3 : b.refs - 1 = 0 := by omega
      clear k kx ky e z1
      go_enter Try.func33, Try.ntmps33
      go_wp2_with fail
      go_ret
      have o := Only.setCell (Only.setCell (Only.setCell (Only.refl (fun g => g = x ∨ g = y) w) (p := ⟨x, 2, none⟩) (fun _ => .inl rfl) (.int .i64 0)) (p := ⟨x, 1, none⟩) (fun _ => .inl rfl) (.int .i64 0)) (p := ⟨x, 0, none⟩) (fun _ => .inl rfl) (.int .u64 (b.gen + 1))
      exact ⟨rfl, K.out.turn hi hx hy o (((KX.out.put 2 _).put 1 _).put 0 _) (((KY.out.far hxy _).far hxy _).far hxy _), own_of mx my o⟩
    · have e : dropB b = (0, { b with refs := b.refs - 1 }) := by unfold dropB; rw [if_neg (by simpa using z1), if_neg z2]
      rw [e]
      have d2 : (b.refs - 1 == 0) = false := beq_eq_false_iff_ne.2 (by omega)
      clear k kx ky e z1
      go_enter Try.func33, Try.ntmps33
      go_wp2_with fail
      go_ret
      have o := Only.setCell (Only.refl (fun g => g = x ∨ g = y) w) (p := ⟨x, 2, none⟩) (fun _ => .inl rfl) (.int .i64 (b.refs - 1))
      exact ⟨rfl, K.out.turn hi hx hy o (KX.out.put 2 _) (KY.out.far hxy _), own_of mx my o⟩
  · have e : dropB b = (8, b) := by unfold dropB; rw [if_pos z1]
    rw [e]
    have d1 : (b.own == 1) = false := beq_eq_false_iff_ne.2 z1
    have d2 : (b.own != 1) = true := bne_iff_ne.2 z1
    clear k kx ky e
    go_enter Try.func33, Try.ntmps33
    go_wp2_with fail
    go_ret
    exact ⟨rfl, K.out.nil hb, Only.refl _ _⟩
theorem dropp_any {w : World} {P : Pl} {bs : List Bf} (k : IsP w P bs) (s g : Int) {G : Int} (ok : ∀ b ∈ bs, b.ok G) (hG : G ≤ 1000000) :
    Calls Try.prog 20 #[.pointer (some ⟨P.p, 0, none⟩), .agg #[.int .i64 s, .int .u64 g]] w fun e w' => e = .returned (.int .i64 (dropQ s g bs).1) ∧ IsP w' P (dropQ s g bs).2 ∧ Only P.own w w' := by
  have hmf : ∀ (fn : Fn) (first cap : Array Value) (w : World), (Instr.makeFunc fn first cap).run Try.prog w = .ok (.func fn first cap) w := fun _ _ _ _ => rfl
  have kw := k.alloc (.cells #[.int .i64 s, .int .u64 g] 34)
  have bw : Below w.heap.size w (w.alloc (.cells #[.int .i64 s, .int .u64 g] 34)) := (Below.refl _ _).alloc (Nat.le_refl _) _
  unfold dropQ
  cases hl : look bs s g with
  | none =>
    have D := Lib.hid (with_none kw s g hl (.func 33) #[] #[])
    have K := Lib.hid k
    have BW := Lib.hid bw
    clear k kw bw ok hl
    go_enter Try.func20, Try.ntmps20
    go_wp2_with (go_at_call 25; (with_reducible refine Calls.mono D.out ?_); rintro e w' ⟨rfl, ho⟩)
    go_ret
    have ho := Below.next BW.out ho
    exact ⟨rfl, K.out.below ho, Only.of_below ho⟩
  | some ib =>
    obtain ⟨i, b⟩ := ib
    obtain ⟨-, -, hb, -, -⟩ := look_some hl
    obtain ⟨x, y, hx, hy, -, -, -, -, -⟩ := k.xy hb
    have okb := ok b (List.mem_of_getElem? hb)
    have D := Lib.hid (with_Drop kw hl hx #[] (Q := fun e w' => e = .returned (.int .i64 (dropB b).1) ∧ IsP w' P (bs.set i (dropB b).2) ∧ Only P.own w w')
      (fun W kW bel => (drop1_any kW hb hx okb hG).mono fun e w' h => ⟨_, h.1, h.1, h.2.1, (Only.of_below (Below.next bw bel)).trans h.2.2 (fun _ _ h => h)⟩))
    simp only
    generalize (dropB b).1 = r at *
    generalize (dropB b).2 = b' at *
    clear k kw bw ok okb hl hb hx hy
    go_enter Try.func20, Try.ntmps20
    go_wp2_with (go_at_call 25; (with_reducible refine Calls.mono D.out ?_); rintro e w' ⟨rfl, hk, ho⟩)
    go_ret
    exact ⟨rfl, hk, ho⟩
end Go.Proofs.Ytbhpdljfkcdnbaa
