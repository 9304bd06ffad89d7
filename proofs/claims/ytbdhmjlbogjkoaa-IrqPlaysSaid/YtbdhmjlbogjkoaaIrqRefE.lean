/- The reference of layer 13: Go, Mask, Ack, Pending. -/
import Derived.Test.YtbdhmjlbogjkoaaIrqRefD
namespace Go.Proofs.Ytbdhmjlbogjkoaa
open Go.RowKit
set_option linter.unusedVariables false
set_option linter.unusedSimpArgs false
section
variable {w w' : World} {q : Nat} {sv : Value} {av : List Av} {ls : List Ln} {Rs : List (List Int)} {c now T : Int} {F : Nat → Prop}
theorem IsRI.turnX {n n' : Ln} {R : List Int} {i : Nat} {a : Av} (h : IsRI w q sv av ls Rs c T) (ha : av[i]? = some a) (hn : ls[i]? = some n) (hR : Rs[i]? = some R) (o : Only (fun j => j = a.x ∨ j = a.k) w w') (hx : IsX w' a n') (hg : n'.g = n.g) :
    IsRI w' q sv av (ls.set i n') Rs c T := by
  have l := h.line i a n R ha hn hR
  obtain ⟨g', h1, h2⟩ := l.g
  obtain ⟨cg, gb⟩ := l.gblk
  obtain ⟨L, gs⟩ := l.gslc
  have hh := h.turn (a' := a) (n' := n') (R' := R) ha o (fun j hj => hj.elim .inl fun e => .inr (.inr (.inl e))) rfl rfl rfl (fun j e => .inl e) (fun j e => .inl e) ⟨hx, ⟨g', by rw [hg]; exact h1, h2.only o (fun e => by
    rcases e with e | e
    · exact l.x.x.ne gb (by decide) e.symm
    · exact gb.ne l.x.k (by decide) e) (fun j e f => by
    rcases f with rfl | rfl
    · exact gs.ne l.x.x (by decide) e
    · exact gs.ne l.x.k (by decide) e)⟩, l.r.only o (fun j e f => by
    rcases f with rfl | rfl
    · exact l.r.ne l.x.x (by decide) e
    · exact l.r.ne l.x.k (by decide) e), l.nr⟩
  rwa [set_same ha, set_same hR] at hh
theorem AfterR.next {w1 w2 : World} {av1 av2 : List Av} {ls2 : List Ln} {Rs2 : List (List Int)} (hs : ∀ i, ownR q sv av1 i → ownR q sv av i ∨ w.heap.size ≤ i) (o1 : Only (ownR q sv av) w w1) (k2 : IsRI w2 q sv av2 ls2 Rs2 T T) (s2 : ∀ i, ownR q sv av2 i → ownR q sv av1 i ∨ w1.heap.size ≤ i) (o2 : Only (ownR q sv av1) w1 w2) : AfterR w q sv av ls2 Rs2 T w2 :=
  ⟨⟨av2, k2, fun i hi => (s2 i hi).elim (hs i) (fun h => .inr (Nat.le_trans o1.size h))⟩, o1.trans o2 (fun i hi h => (hs i h).elim id (fun h => by omega))⟩
theorem onX {a : Av} {i : Nat} (ha : av[i]? = some a) (o : Only (fun j => j = a.x ∨ j = a.k) w w') : Only (ownR q sv av) w w' := o.mono fun j _ e => .inr (.inr ⟨a, List.mem_of_getElem? ha, e.elim .inl fun e => .inr (.inr (.inl e))⟩)
set_option maxHeartbeats 1000000 in
theorem ron_err (k : IsRI w q sv av ls Rs c now) (T no : Int) (h0 : 0 ≤ T) (h1 : T ≤ 18446744073709551615) (h : badI T no ls.length c) :
    Calls Try.prog 39 #[.pointer (some ⟨q, 0, none⟩), .int .u64 T, .int .i64 no] w fun e w' => e = .returned (.int .i64 (codeI T)) ∧ Below w.heap.size w w' := by
  have c0 : w.cell? ⟨q, 0, none⟩ = some sv := k.blk.cell 0
  have c1 : w.cell? ⟨q, 1, none⟩ = some (.int .u64 c) := k.blk.cell 1
  have hq := k.blk.lt
  have hlen := k.len
  obtain ⟨A, cp, hsv, -⟩ := k.row.shape
  subst hsv
  rw [← hlen] at h
  clear k hlen
  unfold badI at h
  unfold codeI
  by_cases z1 : 4611686018427387904 ≤ T
  · have d1 : decide (4611686018427387904 ≤ T) = true := decide_eq_true z1
    rw [if_pos z1]
    clear h
    go_enter Try.func39, Try.ntmps39
    go_wp2_with fail
    go_ret
    exact ⟨rfl, Below.refl _ _⟩
  · have d1 : decide (4611686018427387904 ≤ T) = false := decide_eq_false z1
    rw [if_neg z1]
    by_cases z2 : no < 0
    · have d2 : decide (no < 0) = true := decide_eq_true z2
      clear h
      go_enter Try.func39, Try.ntmps39
      go_wp2_with fail
      go_ret
      exact ⟨rfl, Below.refl _ _⟩
    · have d2 : decide (no < 0) = false := decide_eq_false z2
      by_cases z3 : (av.length : Int) ≤ no
      · have d3 : decide ((av.length : Int) ≤ no) = true := decide_eq_true z3
        clear h
        go_enter Try.func39, Try.ntmps39
        go_wp2_with fail
        go_ret
        exact ⟨rfl, Below.refl _ _⟩
      · have d3 : decide ((av.length : Int) ≤ no) = false := decide_eq_false z3
        have z4 : T < c := by omega
        have d4 : decide (T < c) = true := decide_eq_true z4
        clear h
        go_enter Try.func39, Try.ntmps39
        go_wp2_with fail
        go_ret
        exact ⟨rfl, Below.refl _ _⟩
theorem rgo_err (k : IsRI w q sv av ls Rs c now) (T : Int) (h0 : 0 ≤ T) (h1 : T ≤ 18446744073709551615) (h : badI T 0 ls.length c) :
    Calls Try.prog 21 #[.pointer (some ⟨q, 0, none⟩), .int .u64 T] w fun e w' => e = .returned (.int .i64 (codeI T)) ∧ Below w.heap.size w w' := by
  have C := Lib.hid (ron_err k T 0 h0 h1 h)
  clear k h
  go_enter Try.func21, Try.ntmps21
  go_wp2_with (go_at_call 39; (with_reducible refine Calls.mono C.out ?_); rintro e w1 ⟨rfl, b1⟩; have B1 := Lib.hid b1; clear b1)
  go_ret
  exact ⟨rfl, B1.out⟩
theorem rgo_ok {H : Int} (k : IsRI w q sv av ls Rs c c) (ok : ∀ n ∈ ls, n.ok H) (hH : H ≤ 1000000000) (hl16 : ls.length ≤ 16) (hne : 0 < ls.length) (T : Int) (h0 : c ≤ T) (hn0 : 0 ≤ T) (h1 : T < 4611686018427387904) :
    Calls Try.prog 21 #[.pointer (some ⟨q, 0, none⟩), .int .u64 T] w fun e w' => e = .returned (.int .i64 0) ∧ AfterR w q sv av (ls.map (stepL T)) Rs T w' := by
  have C := Lib.hid (ron_ok k ok hH hl16 T h0 hn0 h1 0 hne)
  clear k ok
  go_enter Try.func21, Try.ntmps21
  go_wp2_with (go_at_call 39; (with_reducible refine Calls.mono C.out ?_); rintro e w1 ⟨rfl, b1⟩; have B1 := Lib.hid b1; clear b1)
  go_ret
  exact ⟨rfl, B1.out⟩
set_option maxHeartbeats 1000000 in
theorem rmask_err (k : IsRI w q sv av ls Rs c now) (T no : Int) (h0 : 0 ≤ T) (h1 : T ≤ 18446744073709551615) (h : badI T no ls.length c) (on : Bool) :
    Calls Try.prog 24 #[.pointer (some ⟨q, 0, none⟩), .int .u64 T, .int .i64 no, .bool on] w fun e w' => e = .returned (.int .i64 (codeI T)) ∧ Below w.heap.size w w' := by
  have C := Lib.hid (ron_err k T no h0 h1 h)
  have hc : (codeI T == 0) = false := by unfold codeI; split <;> rfl
  clear k h
  generalize codeI T = e0 at *
  go_enter Try.func24, Try.ntmps24
  go_wp2_with (go_at_call 39; (with_reducible refine Calls.mono C.out ?_); rintro e w1 ⟨rfl, b1⟩; have B1 := Lib.hid b1; clear b1)
  go_ret
  exact ⟨rfl, B1.out⟩
set_option maxHeartbeats 1000000 in
theorem rack_err (k : IsRI w q sv av ls Rs c now) (T no : Int) (h0 : 0 ≤ T) (h1 : T ≤ 18446744073709551615) (h : badI T no ls.length c) :
    Calls Try.prog 22 #[.pointer (some ⟨q, 0, none⟩), .int .u64 T, .int .i64 no] w fun e w' => e = .returned (.tuple #[.int .i64 0, .int .i64 (codeI T)]) ∧ Below w.heap.size w w' := by
  have C := Lib.hid (ron_err k T no h0 h1 h)
  have hc : (codeI T == 0) = false := by unfold codeI; split <;> rfl
  clear k h
  generalize codeI T = e0 at *
  go_enter Try.func22, Try.ntmps22
  go_wp2_with (go_at_call 39; (with_reducible refine Calls.mono C.out ?_); rintro e w1 ⟨rfl, b1⟩; have B1 := Lib.hid b1; clear b1)
  go_ret2
  exact ⟨rfl, B1.out⟩
set_option maxHeartbeats 1000000 in
theorem rraise_err (k : IsRI w q sv av ls Rs c now) (T no : Int) (h0 : 0 ≤ T) (h1 : T ≤ 18446744073709551615) (h : badI T no ls.length c) :
    Calls Try.prog 20 #[.pointer (some ⟨q, 0, none⟩), .int .u64 T, .int .i64 no] w fun e w' => e = .returned (.tuple #[.bool false, .int .i64 (codeI T)]) ∧ Below w.heap.size w w' := by
  have C := Lib.hid (ron_err k T no h0 h1 h)
  have hc : (codeI T == 0) = false := by unfold codeI; split <;> rfl
  clear k h
  generalize codeI T = e0 at *
  go_enter Try.func20, Try.ntmps20
  go_wp2_with (go_at_call 39; (with_reducible refine Calls.mono C.out ?_); rintro e w1 ⟨rfl, b1⟩; have B1 := Lib.hid b1; clear b1)
  go_ret2
  exact ⟨rfl, B1.out⟩
/-- What a function finds of its line. -/
theorem IsRI.find (h : IsRI w q sv av ls Rs c T) {no : Nat} {n : Ln} (hn : ls[no]? = some n) : ∃ a R g off cp, av[no]? = some a ∧ Rs[no]? = some R ∧ IsRL w a n R T ∧ sv = .slice (some ⟨g, off, none⟩) av.length cp ∧ g < w.heap.size ∧ w.cell? ⟨g, off + no, none⟩ = some (.pointer (some ⟨a.x, 0, none⟩)) ∧ g ≠ a.x ∧ q ≠ a.x := by
  obtain ⟨a, n', R, ha, hn', hR, hl⟩ := h.at_ (List.getElem?_eq_some_iff.1 hn).1
  rw [hn] at hn'
  injection hn' with hn'
  subst hn'
  obtain ⟨g, off, cp, e, hg, hc⟩ := h.cells ha
  exact ⟨a, R, g, off, cp, ha, hR, hl, e, hg, hc, fun h2 => h.row.ne hl.x.x (by decide) (by rw [e, h2]; rfl), h.blk.ne hl.x.x (by decide)⟩
set_option maxHeartbeats 4000000 in
theorem rmask_ok {H : Int} (k : IsRI w q sv av ls Rs c c) (ok : ∀ n ∈ ls, n.ok H) (hH0 : 0 ≤ H) (hH : H ≤ 100000000) (hl16 : ls.length ≤ 16) (T : Int) (h0 : c ≤ T) (hn0 : 0 ≤ T) (h1 : T < 4611686018427387904) (no : Nat) {n : Ln} (hn : ls[no]? = some n) (on : Bool) :
    Calls Try.prog 24 #[.pointer (some ⟨q, 0, none⟩), .int .u64 T, .int .i64 no, .bool on] w fun e w' => e = .returned (.int .i64 0) ∧ AfterR w q sv av ((ls.map (stepL T)).set no (maskL T on (stepL T n))) Rs T w' := by
  have hno := (List.getElem?_eq_some_iff.1 hn).1
  have C := Lib.hid (ron_ok k ok (by omega) hl16 T h0 hn0 h1 no hno)
  have hn1 := map_at (T := T) hn
  have okn := ok_at ok hn hn0 (T := T)
  have okm : Ln.ok (H + 1000) { stepL T n with masked := on } := ⟨okn.l, okn.g, okn.k, okn.e0, okn.e1, okn.p0, okn.p1, okn.w0, okn.w1, okn.r0, okn.r1⟩
  have HN := Lib.hid hn1
  have HOK := Lib.hid okm
  have HLN := Lib.hid k.len
  have hav : no < av.length := by have := k.len; omega
  have hav2 : (no : Int) < av.length := by omega
  clear k ok hn okn okm hn1 hno
  go_enter Try.func24, Try.ntmps24
  go_wp2_with fail
  go_at_call 39
  (with_reducible refine Calls.mono C.out ?_)
  rintro e w1 ⟨rfl, ⟨av1, k1, s1⟩, o1⟩
  obtain ⟨a, R, g, off, cp, ha, hR, hl, rfl, hg, hcl, ngx, nqx⟩ := k1.find HN.out
  have z0 : w1.cell? ⟨q, 0, none⟩ = some (.slice (some ⟨g, off, none⟩) av1.length cp) := k1.blk.cell 0
  have z1 : w1.cell? ⟨q, 1, none⟩ = some (.int .u64 T) := k1.blk.cell 1
  have hq := k1.blk.lt
  have hxl := hl.x.x.lt
  have nk := hl.x.ne
  have hav1 : no < av1.length := (List.getElem?_eq_some_iff.1 ha).1
  have hav3 : (no : Int) < av1.length := by omega
  have x10 : w1.cell? ⟨a.x, 10, none⟩ = some (.bool (stepL T n).masked) := hl.x.x.cell 10
  have y10 : w1.frozen? ⟨a.x, 10, none⟩ = false := hl.x.x.free 10
  have hx2 : IsX (w1.setCell ⟨a.x, 10, none⟩ (.bool on)) a { stepL T n with masked := on } := ⟨hl.x.x.put 10 (.bool on), IsKR.far hl.x.k (fun e => nk e.symm) _⟩
  have hq2 : (w1.setCell ⟨a.x, 10, none⟩ (.bool on)).cell? ⟨q, 1, none⟩ = some (.int .u64 T) := (k1.blk.far (p := ⟨a.x, 10, none⟩) nqx (.bool on)).cell 1
  have DL := Lib.hid (rdeliver_any hx2 HOK.out q T hn0 (by omega) hq2)
  have K1 := Lib.hid k1
  have S1 := Lib.hid s1
  have O1 := Lib.hid o1
  have HA := Lib.hid ha
  have HR := Lib.hid hR
  clear k1 s1 o1 ha hR hl hx2 hq2 C
  go_wp2_with fail
  go_at_call 41
  (with_reducible refine Calls.mono DL.out ?_)
  rintro e w2 ⟨rfl, hx3, o2⟩
  have oa : Only (fun j => j = a.x ∨ j = a.k) w1 w2 := (Only.setCell (Only.refl (fun j => j = a.x ∨ j = a.k) w1) (p := ⟨a.x, 10, none⟩) (fun _ => .inl rfl) (.bool on)).trans o2 (fun _ _ h => h)
  have OA := Lib.hid oa
  have HX3 := Lib.hid hx3
  clear o2 hx3 oa DL
  go_wp2_with fail
  go_ret
  exact ⟨rfl, AfterR.next S1.out O1.out (K1.out.turnX HA.out HN.out HR.out OA.out HX3.out (deliverL_fix T _).2.1) (fun i h => .inl h) (onX HA.out OA.out)⟩
set_option maxHeartbeats 4000000 in
theorem rack_ok {H : Int} (k : IsRI w q sv av ls Rs c c) (ok : ∀ n ∈ ls, n.ok H) (hH0 : 0 ≤ H) (hH : H ≤ 100000000) (hl16 : ls.length ≤ 16) (T : Int) (h0 : c ≤ T) (hn0 : 0 ≤ T) (h1 : T < 4611686018427387904) (no : Nat) {n : Ln} (hn : ls[no]? = some n) :
    Calls Try.prog 22 #[.pointer (some ⟨q, 0, none⟩), .int .u64 T, .int .i64 no] w fun e w' => e = .returned (.tuple #[.int .i64 (ackL T (stepL T n)).1.1, .int .i64 (ackL T (stepL T n)).1.2]) ∧ AfterR w q sv av ((ls.map (stepL T)).set no (ackL T (stepL T n)).2) Rs T w' := by
  have hno := (List.getElem?_eq_some_iff.1 hn).1
  have C := Lib.hid (ron_ok k ok (by omega) hl16 T h0 hn0 h1 no hno)
  have hn1 := map_at (T := T) hn
  have okn := ok_at ok hn hn0 (T := T)
  have okm : Ln.ok (H + 1000) { stepL T n with pends := 0 } := ⟨okn.l, okn.g, okn.k, okn.e0, okn.e1, by simp, by have := okn.p1; simp only; omega, okn.w0, okn.w1, okn.r0, okn.r1⟩
  have HN := Lib.hid hn1
  have HOK := Lib.hid okm
  have hav : no < av.length := by have := k.len; omega
  have hav2 : (no : Int) < av.length := by omega
  have HLS := Lib.hid (show (ls.map (stepL T)).set no (stepL T n) = ls.map (stepL T) from set_same hn1)
  clear k ok hn okn okm hn1 hno
  by_cases zc : (stepL T n).masked = true ∨ (stepL T n).pends = 0
  · have e : ackL T (stepL T n) = ((0, 12), stepL T n) := by unfold ackL; rw [if_pos zc]
    rw [e]
    have z5 : (stepL T n).masked = true ∨ ((stepL T n).masked = false ∧ (stepL T n).pends = 0) := by
      cases h : (stepL T n).masked with
      | true => exact .inl rfl
      | false => exact .inr ⟨rfl, zc.elim (fun h2 => by rw [h] at h2; cases h2) id⟩
    clear e zc
    rcases z5 with hm | ⟨hm, hp⟩
    all_goals
      go_enter Try.func22, Try.ntmps22
      go_wp2_with fail
      go_at_call 39
      (with_reducible refine Calls.mono C.out ?_)
      rintro e w1 ⟨rfl, ⟨av1, k1, s1⟩, o1⟩
      obtain ⟨a, R, g, off, cp, ha, hR, hl, rfl, hg, hcl, ngx, nqx⟩ := k1.find HN.out
      have z0 : w1.cell? ⟨q, 0, none⟩ = some (.slice (some ⟨g, off, none⟩) av1.length cp) := k1.blk.cell 0
      have z1 : w1.cell? ⟨q, 1, none⟩ = some (.int .u64 T) := k1.blk.cell 1
      have hq := k1.blk.lt
      have hxl := hl.x.x.lt
      have nk := hl.x.ne
      have hav1 : no < av1.length := (List.getElem?_eq_some_iff.1 ha).1
      have hav3 : (no : Int) < av1.length := by omega
      have x10 : w1.cell? ⟨a.x, 10, none⟩ = some (.bool (stepL T n).masked) := hl.x.x.cell 10
      have x9 : w1.cell? ⟨a.x, 9, none⟩ = some (.int .i64 (stepL T n).pends) := hl.x.x.cell 9
      have K1 := Lib.hid k1
      have S1 := Lib.hid s1
      have O1 := Lib.hid o1
      rw [hm] at x10
      try rw [hp] at x9
      clear k1 s1 o1 ha hR hl C hm
      try clear hp
      go_wp2_with fail
      go_ret2
      rw [HLS.out]
      exact ⟨rfl, ⟨⟨av1, K1.out, S1.out⟩, O1.out⟩⟩
  · have e : ackL T (stepL T n) = (((stepL T n).pends, 0), deliverL T { stepL T n with pends := 0 }) := by unfold ackL; rw [if_neg zc]
    rw [e]
    have hm : (stepL T n).masked = false := by
      cases h : (stepL T n).masked with
      | true => exact absurd (.inl h) zc
      | false => rfl
    have hp : ((stepL T n).pends == 0) = false := beq_eq_false_iff_ne.2 (fun h => zc (.inr h))
    clear e zc
    go_enter Try.func22, Try.ntmps22
    go_wp2_with fail
    go_at_call 39
    (with_reducible refine Calls.mono C.out ?_)
    rintro e w1 ⟨rfl, ⟨av1, k1, s1⟩, o1⟩
    obtain ⟨a, R, g, off, cp, ha, hR, hl, rfl, hg, hcl, ngx, nqx⟩ := k1.find HN.out
    have z0 : w1.cell? ⟨q, 0, none⟩ = some (.slice (some ⟨g, off, none⟩) av1.length cp) := k1.blk.cell 0
    have z1 : w1.cell? ⟨q, 1, none⟩ = some (.int .u64 T) := k1.blk.cell 1
    have hq := k1.blk.lt
    have hxl := hl.x.x.lt
    have nk := hl.x.ne
    have hav1 : no < av1.length := (List.getElem?_eq_some_iff.1 ha).1
    have hav3 : (no : Int) < av1.length := by omega
    have x10 : w1.cell? ⟨a.x, 10, none⟩ = some (.bool (stepL T n).masked) := hl.x.x.cell 10
    have x9 : w1.cell? ⟨a.x, 9, none⟩ = some (.int .i64 (stepL T n).pends) := hl.x.x.cell 9
    have y9 : w1.frozen? ⟨a.x, 9, none⟩ = false := hl.x.x.free 9
    have hx2 : IsX (w1.setCell ⟨a.x, 9, none⟩ (.int .i64 0)) a { stepL T n with pends := 0 } := ⟨hl.x.x.put 9 (.int .i64 0), IsKR.far hl.x.k (fun e => nk e.symm) _⟩
    have hq2 : (w1.setCell ⟨a.x, 9, none⟩ (.int .i64 0)).cell? ⟨q, 1, none⟩ = some (.int .u64 T) := (k1.blk.far (p := ⟨a.x, 9, none⟩) nqx (.int .i64 0)).cell 1
    have DL := Lib.hid (rdeliver_any hx2 HOK.out q T hn0 (by omega) hq2)
    have K1 := Lib.hid k1
    have S1 := Lib.hid s1
    have O1 := Lib.hid o1
    have HA := Lib.hid ha
    have HR := Lib.hid hR
    rw [hm] at x10
    clear k1 s1 o1 ha hR hl hx2 hq2 C hm
    go_wp2_with fail
    go_at_call 41
    (with_reducible refine Calls.mono DL.out ?_)
    rintro e w2 ⟨rfl, hx3, o2⟩
    have oa : Only (fun j => j = a.x ∨ j = a.k) w1 w2 := (Only.setCell (Only.refl (fun j => j = a.x ∨ j = a.k) w1) (p := ⟨a.x, 9, none⟩) (fun _ => .inl rfl) (.int .i64 0)).trans o2 (fun _ _ h => h)
    have OA := Lib.hid oa
    have HX3 := Lib.hid hx3
    clear o2 hx3 oa DL
    go_wp2_with fail
    go_ret2
    exact ⟨rfl, AfterR.next S1.out O1.out (K1.out.turnX HA.out HN.out HR.out OA.out HX3.out (deliverL_fix T _).2.1) (fun i h => .inl h) (onX HA.out OA.out)⟩
end
end Go.Proofs.Ytbdhmjlbogjkoaa
