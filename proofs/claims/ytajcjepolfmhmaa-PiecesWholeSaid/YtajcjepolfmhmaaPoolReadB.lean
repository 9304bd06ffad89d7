/- Layer 7 (pool): Size and Read, whole. -/
import Derived.Test.YtajcjepolfmhmaaPoolRead
namespace Go.Proofs.Ytajcjepolfmhmaa
open Go.RowKit
set_option linter.unusedVariables false
set_option linter.unusedSimpArgs false
theorem Rd.shape {w : World} {base : Nat} {v : Value} {o : Option (List Int)} (h : Rd w base v o) : ∃ A n c, v = .slice A n c := by
  cases o with
  | none => exact ⟨_, _, _, h⟩
  | some l => obtain ⟨A, c, e, -⟩ := h.1.shape; exact ⟨_, _, _, e⟩
theorem Rd.drewN {w : World} {base : Nat} {v : Value} {o : Option (List Int)} (h : Rd w base v o) (n : Nat) : Rd (w.drewN n) base v o := by
  cases o with
  | none => exact h
  | some l => exact ⟨h.1.drewN n, h.2⟩
theorem Rd.base {w : World} {base base' : Nat} {v : Value} {o : Option (List Int)} (h : Rd w base v o) (hb : base' ≤ base) : Rd w base' v o := by
  cases o with
  | none => exact h
  | some l => exact ⟨h.1, fun g hg => Nat.le_trans hb (h.2 g hg)⟩
set_option maxHeartbeats 1000000 in
theorem readp_any {w : World} {P : Pl} {bs : List Bf} (k : IsP w P bs) (s g at_ n : Int) (hl : ∀ b ∈ bs, b.bytes.length ≤ 65536) (ha : -9223372036854775808 ≤ at_) (ha' : at_ ≤ 9223372036854775807) (hn : -9223372036854775808 ≤ n) (hn' : n ≤ 9223372036854775807) :
    Calls Try.prog 19 #[.pointer (some ⟨P.p, 0, none⟩), .agg #[.int .i64 s, .int .u64 g], .int .i64 at_, .int .i64 n] w fun e w' => ∃ A m c, e = .returned (.tuple #[.slice A m c, .int .i64 (readQ s g at_ n bs).2]) ∧ Rd w' w.heap.size (.slice A m c) (readQ s g at_ n bs).1 ∧ IsP w' P bs ∧ Below w.heap.size w w' := by
  have hmf : ∀ (fn : Fn) (first cap : Array Value) (w : World), (Instr.makeFunc fn first cap).run Try.prog w = .ok (.func fn first cap) w := fun _ _ _ _ => rfl
  have bw : Below w.heap.size w ((((w.alloc (.cells #[.int .i64 s, .int .u64 g] 40)).alloc (.cells #[.int .i64 at_] 3)).alloc (.cells #[.int .i64 n] 3)).alloc (.cells #[.slice none 0 0] 23)) := ((((Below.refl _ _).alloc (Nat.le_refl _) _).alloc (by simp) _).alloc (by simp; omega) _).alloc (by simp; omega) _
  have kw := k.below bw
  have fx : Blk ((((w.alloc (.cells #[.int .i64 s, .int .u64 g] 40)).alloc (.cells #[.int .i64 at_] 3)).alloc (.cells #[.int .i64 n] 3)).alloc (.cells #[.slice none 0 0] 23)) (w.heap.size + 1) 3 [.int .i64 at_] := by
    have := ((Blk.new (w.alloc (.cells #[.int .i64 s, .int .u64 g] 40)) 3 [.int .i64 at_]).alloc (.cells #[.int .i64 n] 3)).alloc (.cells #[.slice none 0 0] 23)
    simpa using this
  have tx : Blk ((((w.alloc (.cells #[.int .i64 s, .int .u64 g] 40)).alloc (.cells #[.int .i64 at_] 3)).alloc (.cells #[.int .i64 n] 3)).alloc (.cells #[.slice none 0 0] 23)) (w.heap.size + 2) 3 [.int .i64 n] := by
    have := (Blk.new ((w.alloc (.cells #[.int .i64 s, .int .u64 g] 40)).alloc (.cells #[.int .i64 at_] 3)) 3 [.int .i64 n]).alloc (.cells #[.slice none 0 0] 23)
    simpa using this
  have zx : Blk ((((w.alloc (.cells #[.int .i64 s, .int .u64 g] 40)).alloc (.cells #[.int .i64 at_] 3)).alloc (.cells #[.int .i64 n] 3)).alloc (.cells #[.slice none 0 0] 23)) (w.heap.size + 3) 23 [.slice none 0 0] := by
    have := Blk.new (((w.alloc (.cells #[.int .i64 s, .int .u64 g] 40)).alloc (.cells #[.int .i64 at_] 3)).alloc (.cells #[.int .i64 n] 3)) 23 [.slice none 0 0]
    simpa using this
  unfold readQ
  cases hlk : look bs s g with
  | none =>
    have D := Lib.hid (with_none kw s g hlk (.func 36) #[] #[.pointer (some ⟨w.heap.size + 1, 0, none⟩), .pointer (some ⟨w.heap.size + 2, 0, none⟩), .pointer (some ⟨w.heap.size + 3, 0, none⟩)])
    have K := Lib.hid k
    have BW := Lib.hid bw
    have ZX := Lib.hid zx
    clear k kw bw hlk fx tx zx
    go_enter Try.func19, Try.ntmps19
    go_wp2_with (first
      | (go_at_call 34; (with_reducible refine Calls.mono D.out ?_); rintro e w' ⟨rfl, ho⟩
         have z0 : w'.cell? ⟨w.heap.size + 1 + 1 + 1, 0, none⟩ = some (.slice none 0 0) := (ZX.out.below ho ZX.out.lt).cell 0
         have HO := Lib.hid (Below.next BW.out ho)
         clear ho))
    go_ret2
    exact ⟨none, 0, 0, rfl, rfl, K.out.below HO.out, HO.out⟩
  | some ib =>
    obtain ⟨i, b⟩ := ib
    obtain ⟨-, -, hb, -, -⟩ := look_some hlk
    obtain ⟨x, y, hx, hy, -, -, -, -, -⟩ := k.xy hb
    have D := Lib.hid (with_Read kw hlk hx #[.pointer (some ⟨w.heap.size + 1, 0, none⟩), .pointer (some ⟨w.heap.size + 2, 0, none⟩), .pointer (some ⟨w.heap.size + 3, 0, none⟩)] (Q := fun e w' => e = .returned (.int .i64 (readB at_ n b).2) ∧ ∃ r, Blk w' (w.heap.size + 3) 23 [r] ∧ Rd w' w.heap.size r (readB at_ n b).1 ∧ Below w.heap.size w w')
      (fun W kW bel => (read1_any kW hb hx at_ n (hl b (List.mem_of_getElem? hb)) ha ha' hn hn' (w.heap.size + 1) (w.heap.size + 2) (w.heap.size + 3) ((fx.below bel fx.lt).cell 0) ((tx.below bel tx.lt).cell 0) (zx.below bel zx.lt)).mono fun e w' ⟨h1, r, h2, h3, h4⟩ => ⟨_, h1, h1, r, h2, h3.base (Below.next bw bel).size, (Below.next bw bel).trans (h4.below (Below.next bw bel).size (fun i hi e => by omega))⟩))
    have K := Lib.hid k
    simp only
    generalize (readB at_ n b).1 = r1 at *
    generalize (readB at_ n b).2 = r2 at *
    clear k kw bw hlk hb hx hy fx tx zx
    go_enter Try.func19, Try.ntmps19
    go_wp2_with (first
      | (go_at_call 34; (with_reducible refine Calls.mono D.out ?_); rintro e w' ⟨rfl, r, h1, h2, ho⟩
         obtain ⟨A, m, c, rfl⟩ := h2.shape
         have z0 : w'.cell? ⟨w.heap.size + 1 + 1 + 1, 0, none⟩ = some (.slice A m c) := h1.cell 0
         have HR := Lib.hid h2
         have HO := Lib.hid ho
         clear ho h1 h2))
    go_ret2
    exact ⟨A, m, c, rfl, HR.out, K.out.below HO.out, HO.out⟩
def sizeQ (s g : Int) (bs : List Bf) : Int × Int := match look bs s g with
  | none => (0, 3)
  | some (i, b) => (b.bytes.length, 0)
theorem size1_any {w : World} {P : Pl} {bs : List Bf} (k : IsP w P bs) {i x : Nat} {b : Bf} (hb : bs[i]? = some b) (hx : P.xs[i]? = some x) (u : Nat) {c : Value} (hl : b.bytes.length ≤ 65536) (hu : Blk w u 3 [c]) :
    Calls Try.prog 46 #[.pointer (some ⟨x, 0, none⟩), .pointer (some ⟨u, 0, none⟩)] w fun e w' => e = .returned (.int .i64 0) ∧ Blk w' u 3 [.int .i64 b.bytes.length] ∧ Only (fun g => g = u) w w' := by
  obtain ⟨x', y, hx', hy, mx, my, kx, ky, hi⟩ := k.xy hb
  rw [hx] at hx'
  injection hx' with hx'
  subst hx'
  have x3 : w.cell? ⟨x, 3, none⟩ = some (.slice (some ⟨y, 0, none⟩) b.bytes.length b.bytes.length) := kx.cell 3
  have u0 : w.cell? ⟨u, 0, none⟩ = some c := hu.cell 0
  have u1 : w.frozen? ⟨u, 0, none⟩ = false := hu.free 0
  have hux : u ≠ x := hu.ne kx (by decide)
  have HU := Lib.hid hu
  generalize b.bytes.length = L at *
  clear k kx ky hu
  go_enter Try.func46, Try.ntmps46
  go_wp2_with fail
  go_ret
  exact ⟨rfl, HU.out.put 0 _, Only.setCell (F := fun g => g = u) (Only.refl _ w) (p := ⟨u, 0, none⟩) (fun _ => rfl) _⟩
set_option maxHeartbeats 1000000 in
theorem sizep_any {w : World} {P : Pl} {bs : List Bf} (k : IsP w P bs) (s g : Int) (hl : ∀ b ∈ bs, b.bytes.length ≤ 65536) :
    Calls Try.prog 38 #[.pointer (some ⟨P.p, 0, none⟩), .agg #[.int .i64 s, .int .u64 g]] w fun e w' => e = .returned (.tuple #[.int .i64 (sizeQ s g bs).1, .int .i64 (sizeQ s g bs).2]) ∧ IsP w' P bs ∧ Below w.heap.size w w' := by
  have hmf : ∀ (fn : Fn) (first cap : Array Value) (w : World), (Instr.makeFunc fn first cap).run Try.prog w = .ok (.func fn first cap) w := fun _ _ _ _ => rfl
  have kw := (k.alloc (.cells #[.int .i64 s, .int .u64 g] 40)).alloc (.cells #[.int .i64 0] 3)
  have bw : Below w.heap.size w ((w.alloc (.cells #[.int .i64 s, .int .u64 g] 40)).alloc (.cells #[.int .i64 0] 3)) := ((Below.refl _ _).alloc (Nat.le_refl _) _).alloc (by simp) _
  have fx : Blk ((w.alloc (.cells #[.int .i64 s, .int .u64 g] 40)).alloc (.cells #[.int .i64 0] 3)) (w.heap.size + 1) 3 [.int .i64 0] := by
    have := Blk.new (w.alloc (.cells #[.int .i64 s, .int .u64 g] 40)) 3 [.int .i64 0]
    simpa using this
  unfold sizeQ
  cases hlk : look bs s g with
  | none =>
    have D := Lib.hid (with_none kw s g hlk (.func 46) #[] #[.pointer (some ⟨w.heap.size + 1, 0, none⟩)])
    have K := Lib.hid k
    have BW := Lib.hid bw
    have FX := Lib.hid fx
    clear k kw bw hlk fx
    go_enter Try.func38, Try.ntmps38
    go_wp2_with (first
      | (go_at_call 34; (with_reducible refine Calls.mono D.out ?_); rintro e w' ⟨rfl, ho⟩
         have f0 : w'.cell? ⟨w.heap.size + 1, 0, none⟩ = some (.int .i64 0) := (FX.out.below ho FX.out.lt).cell 0
         have HO := Lib.hid (Below.next BW.out ho)
         clear ho))
    go_ret2
    exact ⟨rfl, K.out.below HO.out, HO.out⟩
  | some ib =>
    obtain ⟨i, b⟩ := ib
    obtain ⟨-, -, hb, -, -⟩ := look_some hlk
    obtain ⟨x, y, hx, hy, -, -, -, -, -⟩ := k.xy hb
    have D := Lib.hid (with_Size kw hlk hx #[.pointer (some ⟨w.heap.size + 1, 0, none⟩)] (Q := fun e w' => e = .returned (.int .i64 0) ∧ Blk w' (w.heap.size + 1) 3 [.int .i64 b.bytes.length] ∧ Below w.heap.size w w')
      (fun W kW bel => (size1_any kW hb hx (w.heap.size + 1) (hl b (List.mem_of_getElem? hb)) (fx.below bel fx.lt)).mono fun e w' h => ⟨_, h.1, h.1, h.2.1, (Below.next bw bel).trans (h.2.2.below (Below.next bw bel).size (fun i hi e => by omega))⟩))
    have K := Lib.hid k
    simp only
    generalize b.bytes.length = r1 at *
    clear k kw bw hlk hb hx hy fx
    go_enter Try.func38, Try.ntmps38
    go_wp2_with (first
      | (go_at_call 34; (with_reducible refine Calls.mono D.out ?_); rintro e w' ⟨rfl, h1, ho⟩
         have f0 : w'.cell? ⟨w.heap.size + 1, 0, none⟩ = some (.int .i64 r1) := h1.cell 0
         have HO := Lib.hid ho
         clear ho h1))
    go_ret2
    exact ⟨rfl, K.out.below HO.out, HO.out⟩
end Go.Proofs.Ytajcjepolfmhmaa
