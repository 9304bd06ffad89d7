/- Layer 13 (irq): what is done with a line: the closures' contracts. -/
import Derived.Test.YtbdhmjlbogjkoaaIrq
namespace Go.Proofs.Ytbdhmjlbogjkoaa
open Go.RowKit
set_option linter.unusedVariables false
set_option linter.unusedSimpArgs false
section
variable {w w' : World} {a : Ad} {n : Ln} {F : Nat → Prop}
theorem go1_any (x : Value) (w : World) : Calls Try.prog 36 #[x] w fun e w' => e = .returned (.int .i64 0) ∧ w = w' := by
  go_enter Try.func36, Try.ntmps36
  go_wp2_with fail
  go_ret
  exact ⟨rfl, rfl⟩
theorem IsL.mask (h : IsL w a n) (b : Bool) : IsL (w.setCell ⟨a.x, 10, none⟩ (.bool b)) a { n with masked := b } :=
  ⟨h.x.put 10 _, Blk.far h.g (fun e => h.ne.1 e.symm) _, Blk.far h.k (fun e => h.ne.2.1 e.symm) _⟩
theorem IsL.pends (h : IsL w a n) (v : Int) : IsL (w.setCell ⟨a.x, 9, none⟩ (.int .i64 v)) a { n with pends := v } :=
  ⟨h.x.put 9 _, Blk.far h.g (fun e => h.ne.1 e.symm) _, Blk.far h.k (fun e => h.ne.2.1 e.symm) _⟩
theorem IsL.held (h : IsL w a n) (v : Int) : IsL (w.setCell ⟨a.x, 8, none⟩ (.int .i64 v)) a { n with held := v } :=
  ⟨h.x.put 8 _, Blk.far h.g (fun e => h.ne.1 e.symm) _, Blk.far h.k (fun e => h.ne.2.1 e.symm) _⟩
set_option maxHeartbeats 1000000 in
theorem mask1_any {H : Int} (k : IsL w a n) (ok : n.ok H) (T : Int) (h0 : 0 ≤ T) (h1 : T ≤ 18446744073709551615) (on : Bool) (u v : Nat) (hu : w.cell? ⟨u, 0, none⟩ = some (.bool on)) (hv : Blk w v 22 [.int .u64 T]) :
    Calls Try.prog 42 #[.pointer (some ⟨a.x, 0, none⟩), .pointer (some ⟨u, 0, none⟩), .pointer (some ⟨v, 0, none⟩)] w fun e w' => e = .returned (.int .i64 0) ∧ IsL w' a (maskL T on n) ∧ Only a.own w w' := by
  have c := deliver_any (k.mask on) (n := { n with masked := on }) (H := H) ⟨ok.l, ok.g, ok.k, ok.e0, ok.e1, ok.p0, ok.p1, ok.w0, ok.w1, ok.r0, ok.r1⟩ T h0 h1
  have C := Lib.hid c
  have l10 : w.frozen? ⟨a.x, 10, none⟩ = false := k.x.free 10
  have q10 : w.cell? ⟨a.x, 10, none⟩ = some (.bool n.masked) := k.x.cell 10
  have hvx : v ≠ a.x := hv.ne k.x (by decide)
  have hv0 : w.cell? ⟨v, 0, none⟩ = some (.int .u64 T) := hv.cell 0
  clear c k hv
  go_enter Try.func42, Try.ntmps42
  go_wp2_with (first
    | (go_at_call 35; (with_reducible refine Calls.mono C.out ?_); rintro e w1 ⟨rfl, k1, o1⟩
       have K1 := Lib.hid k1
       have O1 := Lib.hid o1
       clear k1 o1))
  go_ret
  exact ⟨rfl, K1.out, (Only.setCell (F := a.own) (Only.refl _ w) (p := ⟨a.x, 10, none⟩) (fun _ => .inl rfl) _).trans O1.out (fun _ _ h => h)⟩
set_option maxHeartbeats 2000000 in
theorem ack1_any {H : Int} (k : IsL w a n) (ok : n.ok H) (T : Int) (h0 : 0 ≤ T) (h1 : T ≤ 18446744073709551615) (u v : Nat) (hu : Blk w u 3 [.int .i64 0]) (hv : Blk w v 22 [.int .u64 T]) :
    Calls Try.prog 37 #[.pointer (some ⟨a.x, 0, none⟩), .pointer (some ⟨u, 0, none⟩), .pointer (some ⟨v, 0, none⟩)] w fun e w' => e = .returned (.int .i64 (ackL T n).1.2) ∧ Blk w' u 3 [.int .i64 (ackL T n).1.1] ∧ IsL w' a (ackL T n).2 ∧ Only (fun i => a.own i ∨ i = u) w w' := by
  have q9 : w.cell? ⟨a.x, 9, none⟩ = some (.int .i64 n.pends) := k.x.cell 9
  have q10 : w.cell? ⟨a.x, 10, none⟩ = some (.bool n.masked) := k.x.cell 10
  have hux : u ≠ a.x := hu.ne k.x (by decide)
  have hug : u ≠ a.g := hu.ne k.g (by decide)
  have huk : u ≠ a.k := hu.ne k.k (by decide)
  have hvx : v ≠ a.x := hv.ne k.x (by decide)
  have huv : u ≠ v := hu.ne hv (by decide)
  have hu0 : w.cell? ⟨u, 0, none⟩ = some (.int .i64 0) := hu.cell 0
  have hv0 : w.cell? ⟨v, 0, none⟩ = some (.int .u64 T) := hv.cell 0
  have fu : w.frozen? ⟨u, 0, none⟩ = false := hu.free 0
  have l9 : w.frozen? ⟨a.x, 9, none⟩ = false := k.x.free 9
  have K := Lib.hid k
  have HU := Lib.hid hu
  unfold ackL
  by_cases hm : n.masked = true
  · rw [if_pos (.inl hm)]
    rw [hm] at q10
    clear k hu hv hm ok
    go_enter Try.func37, Try.ntmps37
    go_wp2_with fail
    go_ret
    exact ⟨rfl, HU.out, K.out, Only.refl _ _⟩
  · have hm2 : n.masked = false := by simpa using hm
    rw [hm2] at q10
    by_cases z : n.pends = 0
    · rw [if_pos (.inr z)]
      have d1 : (n.pends == 0) = true := beq_iff_eq.2 z
      clear k hu hv hm ok z
      go_enter Try.func37, Try.ntmps37
      go_wp2_with fail
      go_ret
      exact ⟨rfl, HU.out, K.out, Only.refl _ _⟩
    · rw [if_neg (by rintro (h | h); exact hm h; exact z h)]
      have d1 : (n.pends == 0) = false := beq_eq_false_iff_ne.2 z
      have kk : IsL ((w.setCell ⟨u, 0, none⟩ (.int .i64 n.pends)).setCell ⟨a.x, 9, none⟩ (.int .i64 0)) a { n with pends := 0 } :=
        IsL.pends (n := n) ⟨k.x.far hux.symm _, Blk.far k.g hug.symm _, Blk.far k.k huk.symm _⟩ 0
      have c := deliver_any kk (H := H) ⟨ok.l, ok.g, ok.k, ok.e0, ok.e1, Int.le_refl _, Int.le_trans ok.p0 ok.p1, ok.w0, ok.w1, ok.r0, ok.r1⟩ T h0 h1
      have C := Lib.hid c
      clear c k hu hv hm ok z kk
      go_enter Try.func37, Try.ntmps37
      go_wp2_with (first
        | (go_at_call 35; (with_reducible refine Calls.mono C.out ?_); rintro e w1 ⟨rfl, k1, o1⟩
           have K1 := Lib.hid k1
           have O1 := Lib.hid o1
           clear k1 o1))
      go_ret
      have o := Only.setCell (F := fun i => a.own i ∨ i = u) (Only.setCell (F := fun i => a.own i ∨ i = u) (Only.refl _ w) (p := ⟨u, 0, none⟩) (fun _ => .inr rfl) (.int .i64 n.pends)) (p := ⟨a.x, 9, none⟩) (fun _ => .inl (.inl rfl)) (.int .i64 0)
      refine ⟨rfl, ?_, K1.out, o.trans O1.out (fun _ _ h => .inl h)⟩
      exact ((HU.out.put 0 (.int .i64 n.pends)).far (p := ⟨a.x, 9, none⟩) hux _).only O1.out (fun h => h.elim hux (fun h => h.elim hug huk))
theorem IsL.g_ (h : IsL w a n) {b : Nat} {g : Gs} (hb : IsG w b g) (hx : a.x ≠ b) : IsL (w.setCell ⟨a.x, 6, none⟩ (.pointer (some ⟨b, 0, none⟩))) ⟨a.x, b, a.k⟩ { n with g := g } :=
  ⟨h.x.put 6 _, Blk.far hb hx.symm _, Blk.far h.k (fun e => h.ne.2.1 e.symm) _⟩
set_option maxHeartbeats 4000000 in
theorem raise1_any {H : Int} (k : IsL w a n) (ok : n.ok H) (hH0 : 0 ≤ H) (hH : H ≤ 1000000000) (T : Int) (h0 : 0 ≤ T) (h1 : T < 4611686018427387904) (u v : Nat) (hu : Blk w u 22 [.int .u64 T]) (hv : Blk w v 4 [.bool false]) :
    Calls Try.prog 32 #[.pointer (some ⟨a.x, 0, none⟩), .pointer (some ⟨u, 0, none⟩), .pointer (some ⟨v, 0, none⟩)] w fun e w' => e = .returned (.int .i64 0) ∧ ∃ b, Blk w' v 4 [.bool (raiseL T n).1] ∧ IsL w' ⟨a.x, b, a.k⟩ (raiseL T n).2 ∧ Only (fun i => a.own i ∨ i = v) w w' ∧ (b = a.g ∨ w.heap.size ≤ b) := by
  have q10 : w.cell? ⟨a.x, 10, none⟩ = some (.bool n.masked) := k.x.cell 10
  have hvx : v ≠ a.x := hv.ne k.x (by decide)
  have hvg : v ≠ a.g := hv.ne k.g (by decide)
  have hvk : v ≠ a.k := hv.ne k.k (by decide)
  have hux : u ≠ a.x := hu.ne k.x (by decide)
  have hug : u ≠ a.g := hu.ne k.g (by decide)
  have huk : u ≠ a.k := hu.ne k.k (by decide)
  have huv : u ≠ v := hu.ne hv (by decide)
  have hu0 : w.cell? ⟨u, 0, none⟩ = some (.int .u64 T) := hu.cell 0
  have hv0 : w.cell? ⟨v, 0, none⟩ = some (.bool false) := hv.cell 0
  have fv : w.frozen? ⟨v, 0, none⟩ = false := hv.free 0
  have K := Lib.hid k
  have HU := Lib.hid hu
  have HV := Lib.hid hv
  unfold raiseL
  by_cases hm : n.masked = true
  · rw [if_pos hm]
    rw [hm] at q10
    clear k hu hv hm ok
    go_enter Try.func32, Try.ntmps32
    go_wp2_with fail
    go_ret
    exact ⟨rfl, a.g, HV.out, K.out, Only.refl _ _, .inl rfl⟩
  · have hm2 : n.masked = false := by simpa using hm
    rw [if_neg hm]
    rw [hm2] at q10
    have cs := storm_any k ok (by omega) T h0 (by omega)
    obtain ⟨f1, f2, f3, f4, f5, f6⟩ := countL_fix T n
    have ok2 := countL_ok ok hH0 T h0 h1
    rw [← f1, ← f2, ← f4]
    generalize countL T n = m at *
    have kg := ok2.g
    by_cases hs : m.l.s < m.raises
    · rw [if_pos (by rw [← f1] at *; exact hs)]
      have d1 : decide (m.l.s < m.raises) = true := decide_eq_true hs
      rw [← f1, d1] at cs
      have l := ok2.l
      have cn := fun W => new_any m.l.c m.l.h W l.c0 l.c1 l.h0 l.h1
      have C := Lib.hid cs
      have CN := fun W => Lib.hid (cn W)
      have F1 := Lib.hid f1
      clear cs cn k hu hv hm ok ok2 hs l kg f1 f2 f3 f4 f5 f6
      go_enter Try.func32, Try.ntmps32
      go_wp2_with (first
        | (go_at_call 33; (with_reducible refine Calls.mono C.out ?_); rintro e w1 ⟨rfl, k1, o1⟩
           have K1 := Lib.hid k1
           have O1 := Lib.hid o1
           have U1 := HU.out.only o1 (fun h => h.elim hux (fun h => h.elim hug huk))
           have V1 := HV.out.only o1 (fun h => h.elim hvx (fun h => h.elim hvg hvk))
           have HV1 := Lib.hid V1
           have v0 : w1.cell? ⟨v, 0, none⟩ = some (.bool false) := V1.cell 0
           have vf : w1.frozen? ⟨v, 0, none⟩ = false := V1.free 0
           have u0 : w1.cell? ⟨u, 0, none⟩ = some (.int .u64 T) := U1.cell 0
           have r10 : w1.cell? ⟨a.x, 10, none⟩ = some (.bool m.masked) := k1.x.cell 10
           have m10 : w1.frozen? ⟨a.x, 10, none⟩ = false := k1.x.free 10
           have r0 : w1.cell? ⟨a.x, 0, none⟩ = some (.int .i64 m.l.c) := k1.x.cell 0
           have r1 : w1.cell? ⟨a.x, 1, none⟩ = some (.int .u64 m.l.h) := k1.x.cell 1
           clear k1 o1 U1 V1))
      have kk : IsL ((w1.setCell ⟨v, 0, none⟩ (.bool true)).setCell ⟨a.x, 10, none⟩ (.bool true)) a { m with masked := true } :=
        IsL.mask (n := m) ⟨K1.out.x.far hvx.symm _, Blk.far K1.out.g hvg.symm _, Blk.far K1.out.k hvk.symm _⟩ true
      have vv := (HV1.out.put 0 (.bool true)).far (p := ⟨a.x, 10, none⟩) hvx (.bool true)
      have KK := Lib.hid kk
      have VV := Lib.hid vv
      have ltx := K1.out.x.lt
      have s0 : ((w1.setCell ⟨v, 0, none⟩ (.bool true)).setCell ⟨a.x, 10, none⟩ (.bool true)).heap.size = w1.heap.size := by simp [World.setCell]
      have S0 := Lib.hid s0
      clear kk vv s0
      go_region_with (go_at_call 29; (with_reducible refine Calls.mono (CN _).out ?_); rintro e w2 ⟨b, rfl, hb, kb, bel⟩; have k2 := IsL.below (w := (((w1.setCell ⟨v, 0, none⟩ (.bool true)).setCell ⟨a.x, 10, none⟩ (.bool true)).drewN 1)) ⟨KK.out.x, KK.out.g, KK.out.k⟩ bel; have v2 := Blk.below (w := (((w1.setCell ⟨v, 0, none⟩ (.bool true)).setCell ⟨a.x, 10, none⟩ (.bool true)).drewN 1)) VV.out bel (Blk.lt VV.out); have r6 : w2.cell? ⟨a.x, 6, none⟩ = some (.pointer (some ⟨a.g, 0, none⟩)) := k2.x.cell 6; have m6 := k2.x.free 6; have ltb := Blk.lt kb; have ltx2 := k2.x.lt; have K2 := Lib.hid k2; have V2 := Lib.hid v2; have KB := Lib.hid kb; have BEL := Lib.hid bel; have HB := Lib.hid hb; clear k2 v2 kb bel hb)
      all_goals
        go_wp2_with fail
        go_ret
        have hsz : w1.heap.size ≤ b := by have h := HB.out; rw [← S0.out]; exact h
        have hxb : a.x ≠ b := by omega
        have hvb : v < w1.heap.size := HV1.out.lt
        have o := Only.setCell (F := fun i => a.own i ∨ i = v) (Only.trans (F := fun i => a.own i ∨ i = v) ((Only.setCell (F := fun i => a.own i ∨ i = v) (Only.setCell (F := fun i => a.own i ∨ i = v) (O1.out.mono (fun i _ h => .inl h)) (p := ⟨v, 0, none⟩) (fun _ => .inr rfl) (.bool true)) (p := ⟨a.x, 10, none⟩) (fun _ => .inl (.inl rfl)) (.bool true)).drew) (Only.of_below (F := fun _ => False) BEL.out) (fun _ _ h => h.elim)) (p := ⟨a.x, 6, none⟩) (fun _ => .inl (.inl rfl)) (.pointer (some ⟨b, 0, none⟩))
        exact ⟨rfl, b, V2.out.far (p := ⟨a.x, 6, none⟩) hvx _, K2.out.g_ KB.out hxb, o, .inr (Nat.le_trans O1.out.size hsz)⟩
    · rw [if_neg hs]
      have d1 : decide (m.l.s < m.raises) = false := decide_eq_false hs
      rw [← f1, d1] at cs
      have b := raiseF_bd kg T h0
      have C := Lib.hid cs
      have cr := fun W (kk : IsG W a.g m.g) => raise_any kk kg T h0 (by omega)
      generalize hr : (raiseF T m.g).1.1 = r at *
      generalize (raiseF T m.g).1.2 = re at *
      generalize (raiseF T m.g).2 = g2 at *
      have CR := fun W kk => Lib.hid (cr W kk)
      have CD := fun W (kk : IsL W a { m with g := g2, held := m.held + r }) => Lib.hid (deliver_any kk (H := H + 2001) ⟨ok2.l, b.2.2, ok2.k, by have := ok2.e0; simp only; omega, by have := ok2.e1; simp only; omega, ok2.p0, by have := ok2.p1; simp only; omega, ok2.w0, ok2.w1, ok2.r0, by have := ok2.r1; simp only; omega⟩ T h0 (by omega))
      have e0 := ok2.e0
      have e1 := ok2.e1
      obtain ⟨b0, b1, -⟩ := b
      clear cs cr k hu hv hm ok ok2 hs kg f1 f2 f3 f4 f5 f6 hr
      go_enter Try.func32, Try.ntmps32
      go_wp2_with (first
        | (go_at_call 33; (with_reducible refine Calls.mono C.out ?_); rintro e w1 ⟨rfl, k1, o1⟩
           have K1 := Lib.hid k1
           have O1 := Lib.hid o1
           have U1 := HU.out.only o1 (fun h => h.elim hux (fun h => h.elim hug huk))
           have V1 := HV.out.only o1 (fun h => h.elim hvx (fun h => h.elim hvg hvk))
           have HU1 := Lib.hid U1
           have HV1 := Lib.hid V1
           have v0 : w1.cell? ⟨v, 0, none⟩ = some (.bool false) := V1.cell 0
           have vf : w1.frozen? ⟨v, 0, none⟩ = false := V1.free 0
           have u0 : w1.cell? ⟨u, 0, none⟩ = some (.int .u64 T) := U1.cell 0
           have r6 : w1.cell? ⟨a.x, 6, none⟩ = some (.pointer (some ⟨a.g, 0, none⟩)) := k1.x.cell 6
           clear k1 o1 U1 V1))
      have hgx := K1.out.ne
      go_region_with (go_at_call 34; (with_reducible refine Calls.mono (CR _ (Blk.drew (Blk.far K1.out.g hvg.symm _))).out ?_); rintro e w2 ⟨rfl, kg2, o2⟩; have kx2 := (Blk.drew (K1.out.x.far (p := ⟨v, 0, none⟩) hvx.symm (.bool false))).only o2 K1.out.ne.1; have kk2 := Blk.only (Blk.drew (Blk.far (p := ⟨v, 0, none⟩) K1.out.k hvk.symm (.bool false))) o2 (fun e => K1.out.ne.2.2 e.symm); have U2 := (Blk.drew (HU1.out.far (p := ⟨v, 0, none⟩) huv (.bool false))).only o2 hug; have V2 := (Blk.drew (HV1.out.put 0 (.bool false))).only o2 hvg; have HV2 := Lib.hid V2; have u0 : w2.cell? ⟨u, 0, none⟩ = some (.int .u64 T) := U2.cell 0; have r8 : w2.cell? ⟨a.x, 8, none⟩ = some (.int .i64 m.held) := kx2.cell 8; have m8 : w2.frozen? ⟨a.x, 8, none⟩ = false := kx2.free 8; have CDD := CD _ (IsL.held (n := { m with g := g2 }) ⟨kx2, kg2, kk2⟩ (m.held + r)); have O2 := Lib.hid o2; clear kx2 kk2 U2 V2 kg2 o2)
      all_goals
        go_wp2_with (go_at_call 35; (with_reducible refine Calls.mono CDD.out ?_); rintro e w3 ⟨rfl, k3, o3⟩
                     have K3 := Lib.hid k3
                     have O3 := Lib.hid o3
                     clear k3 o3)
        go_ret
        have o := ((Only.setCell (F := fun i => a.own i ∨ i = v) (((Only.setCell (F := fun i => a.own i ∨ i = v) (O1.out.mono (fun i _ h => .inl h)) (p := ⟨v, 0, none⟩) (fun _ => .inr rfl) (.bool false)).drew).trans O2.out (fun i _ h => .inl (.inr (.inl h)))) (p := ⟨a.x, 8, none⟩) (fun _ => .inl (.inl rfl)) (.int .i64 (m.held + r))).trans O3.out (fun i _ h => .inl h))
        exact ⟨rfl, a.g, (HV2.out.far (p := ⟨a.x, 8, none⟩) hvx _).only O3.out (fun h => h.elim hvx (fun h => h.elim hvg hvk)), K3.out, o, .inl rfl⟩
end
end Go.Proofs.Ytbdhmjlbogjkoaa
