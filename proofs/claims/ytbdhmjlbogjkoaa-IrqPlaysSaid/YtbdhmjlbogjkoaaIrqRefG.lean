/- The reference of layer 13: Raise. -/
import Derived.Test.YtbdhmjlbogjkoaaIrqRefE
namespace Go.Proofs.Ytbdhmjlbogjkoaa
open Go.RowKit
set_option linter.unusedVariables false
set_option linter.unusedSimpArgs false
/-- How many of them were in window k. -/
def cnt (k z : Int) : List Int → Int
  | [] => 0
  | x :: r => (if x / z = k then 1 else 0) + cnt k z r
theorem cnt_app (k z : Int) (l m : List Int) : cnt k z (l ++ m) = cnt k z l + cnt k z m := by
  induction l with
  | nil => simp [cnt]
  | cons x r ih => simp only [List.cons_append, cnt, ih]; omega
theorem cnt_bd (k z : Int) (l : List Int) : 0 ≤ cnt k z l ∧ cnt k z l ≤ l.length := by
  induction l with
  | nil => simp [cnt]
  | cons x r ih => simp only [cnt, List.length_cons]; split <;> omega
theorem cnt_next (k z : Int) {l : List Int} {i : Nat} {x : Int} (h : l[i]? = some x) : cnt k z (l.take (i + 1)) = cnt k z (l.take i) + if x / z = k then 1 else 0 := by
  have hi := (List.getElem?_eq_some_iff.1 h)
  rw [List.take_add_one, h, Option.toList_some, cnt_app]
  simp only [cnt]
  omega
theorem raiseF_GE {now T : Int} {g' g : Gs} (h : GE now g' g) (k : now ≤ T) (h1 : T < 4611686018427387904) : raiseF T g' = raiseF T g := by
  obtain ⟨-, -, rfl | ⟨a, b, c, d, e, f⟩⟩ := h
  · rfl
  · obtain ⟨c1, h1', n1, f1, t1⟩ := g'
    obtain ⟨c2, h2, n2, f2, t2⟩ := g
    simp only at a b c d e f
    subst a b c d
    have e1 : ∀ f t, lateF ⟨c1, h1', 0, f, t⟩ = (0, ⟨c1, h1', 0, f, t⟩) := fun f t => by unfold lateF; rw [if_pos (.inl rfl)]
    unfold raiseF
    rw [if_neg (by omega), if_neg (show ¬ T < t1 by omega), if_neg (by omega), if_neg (show ¬ T < t2 by omega)]
    simp only [e1]
    unfold doF
    simp
theorem IsX.congr {w : World} {a : Av} {n m : Ln} (h : IsX w a n) (e1 : m.l = n.l) (e2 : m.held = n.held) (e3 : m.pends = n.pends) (e4 : m.masked = n.masked) (e5 : m.k = n.k) : IsX w a m := by
  refine ⟨?_, by rw [e5]; exact h.k⟩
  have := h.x
  unfold rlCells at this ⊢
  rw [e1, e2, e3, e4]
  exact this
def RelCnt (w : World) (k z : Int) (l : List Int) (nv iv : Value) (wr : World) : Prop :=
  ∃ i m : Nat, iv = .int .i64 i ∧ nv = .int .i64 (cnt k z (l.take i)) ∧ i ≤ l.length ∧ wr = w.drewN m
section
variable {w w' : World} {q : Nat} {sv : Value} {av : List Av} {ls : List Ln} {Rs : List (List Int)} {c now T : Int} {F : Nat → Prop}
theorem raise_fin {w1 WF : World} {av1 : List Av} {L1 : List Ln} {no : Nat} {a a' : Av} {n' : Ln} {R' : List Int} (s1 : ∀ i, ownR q sv av1 i → ownR q sv av i ∨ w.heap.size ≤ i) (o1 : Only (ownR q sv av) w w1) (k1 : IsRI w1 q sv av1 L1 Rs T T) (ha : av1[no]? = some a) (o : Only (fun j => j = a.x ∨ j = a.g ∨ j = a.k ∨ a.rv.ownBlock = some j) w1 WF)
    (hx : a'.x = a.x) (hg : a'.g = a.g) (hk : a'.k = a.k) (hr : ∀ j, a'.rv.ownBlock = some j → a.rv.ownBlock = some j ∨ w1.heap.size ≤ j) (hv : ∀ j, a'.gv.ownBlock = some j → a.gv.ownBlock = some j ∨ w1.heap.size ≤ j) (kl : IsRL WF a' n' R' T) : AfterR w q sv av (L1.set no n') (Rs.set no R') T WF :=
  AfterR.next s1 o1 (k1.turn ha o (fun j h => h) hx hg hk hr hv kl) (fun i hi => ownR_turn ha hx hg hk hr hv hi) (o.mono fun j _ e => .inr (.inr ⟨a, List.mem_of_getElem? ha, by
    rcases e with e | e | e | e
    · exact .inl e
    · exact .inr (.inl e)
    · exact .inr (.inr (.inl e))
    · exact .inr (.inr (.inr (.inl e)))⟩))
set_option maxRecDepth 100000 in
set_option maxHeartbeats 8000000 in
theorem rraise_ok {H : Int} (k : IsRI w q sv av ls Rs c c) (ok : ∀ n ∈ ls, n.ok H) (hH0 : 0 ≤ H) (hH : H ≤ 100000000) (hl16 : ls.length ≤ 16) (T : Int) (h0 : c ≤ T) (hn0 : 0 ≤ T) (h1 : T < 4611686018427387904) (no : Nat) {n : Ln} {R : List Int} (hn : ls[no]? = some n) (hR0 : Rs[no]? = some R)
    (hcn : cnt (T / n.l.z) n.l.z R + 1 = (countL T (stepL T n)).raises) (hRl : R.length ≤ 1000) (hRb : ∀ x ∈ R, 0 ≤ x ∧ x ≤ 18446744073709551615) (hgc : (stepL T n).g.c = n.l.c ∧ (stepL T n).g.h = n.l.h ∧ (stepL T n).l = n.l ∧ (stepL T n).g.t ≤ T) :
    Calls Try.prog 20 #[.pointer (some ⟨q, 0, none⟩), .int .u64 T, .int .i64 no] w fun e w' => e = .returned (.tuple #[.bool (raiseL T (stepL T n)).1, .int .i64 0]) ∧ AfterR w q sv av ((ls.map (stepL T)).set no (raiseL T (stepL T n)).2) (if (stepL T n).masked = true then Rs else Rs.set no (R ++ [T])) T w' := by
  have hno := (List.getElem?_eq_some_iff.1 hn).1
  have C := Lib.hid (ron_ok k ok (by omega) hl16 T h0 hn0 h1 no hno)
  have hn1 := map_at (T := T) hn
  have okn := ok_at ok hn hn0 (T := T)
  have HN := Lib.hid hn1
  have HOK := Lib.hid okn
  have HR0 := Lib.hid hR0
  have HGC := Lib.hid hgc
  have HRB := Lib.hid hRb
  have hav : no < av.length := by have := k.len; omega
  have hav2 : (no : Int) < av.length := by omega
  have HLS := Lib.hid (show (ls.map (stepL T)).set no (stepL T n) = ls.map (stepL T) from set_same hn1)
  have ez : (stepL T n).l = n.l := hgc.2.2.1
  rw [← ez] at hcn
  clear k ok hn okn hn1 hno hgc hR0 ez hRb
  generalize hm0 : stepL T n = m at *
  have hcn2 := Lib.hid hcn
  cases hm : m.masked with
  | true =>
    have e : raiseL T m = (false, m) := by unfold raiseL; rw [if_pos hm]
    rw [e, if_pos rfl]
    clear e hcn hcn2
    go_enter Try.func20, Try.ntmps20
    go_wp2_with fail
    go_at_call 39
    (with_reducible refine Calls.mono C.out ?_)
    rintro e w1 ⟨rfl, ⟨av1, k1, s1⟩, o1⟩
    obtain ⟨a, R, g, off, cp, ha, hR, hl, rfl, hg, hcl, ngx, nqx⟩ := k1.find HN.out
    have z0 : w1.cell? ⟨q, 0, none⟩ = some (.slice (some ⟨g, off, none⟩) av1.length cp) := k1.blk.cell 0
    have z1 : w1.cell? ⟨q, 1, none⟩ = some (.int .u64 T) := k1.blk.cell 1
    have hq := k1.blk.lt
    have hxl := hl.x.x.lt
    have nk := hl.x.ne
    have hav1 : no < av1.length := (List.getElem?_eq_some_iff.1 ha).1
    have hav3 : (no : Int) < av1.length := by omega
    have x10 : w1.cell? ⟨a.x, 10, none⟩ = some (.bool m.masked) := hl.x.x.cell 10
    have K1 := Lib.hid k1
    have S1 := Lib.hid s1
    have O1 := Lib.hid o1
    rw [hm] at x10
    clear k1 s1 o1 ha hR hl C hm
    go_wp2_with fail
    go_ret2
    rw [HLS.out]
    exact ⟨rfl, ⟨⟨av1, K1.out, S1.out⟩, O1.out⟩⟩
  | false =>
    rw [if_neg (by simp)]
    go_enter Try.func20, Try.ntmps20
    go_wp2_with fail
    go_at_call 39
    (with_reducible refine Calls.mono C.out ?_)
    rintro e w1 ⟨rfl, ⟨av1, k1, s1⟩, o1⟩
    obtain ⟨a, R, g, off, cp, ha, hR, hl, rfl, hg, hcl, ngx, nqx⟩ := k1.find HN.out
    have z0 : w1.cell? ⟨q, 0, none⟩ = some (.slice (some ⟨g, off, none⟩) av1.length cp) := k1.blk.cell 0
    have z1 : w1.cell? ⟨q, 1, none⟩ = some (.int .u64 T) := k1.blk.cell 1
    have hq := k1.blk.lt
    have hxl := hl.x.x.lt
    have nk := hl.x.ne
    have hav1 : no < av1.length := (List.getElem?_eq_some_iff.1 ha).1
    have hav3 : (no : Int) < av1.length := by omega
    rw [HR0.out] at hR
    injection hR with hR
    subst hR
    have x10 : w1.cell? ⟨a.x, 10, none⟩ = some (.bool m.masked) := hl.x.x.cell 10
    have x11 : w1.cell? ⟨a.x, 11, none⟩ = some a.rv := hl.x.x.cell 11
    have y11 : w1.frozen? ⟨a.x, 11, none⟩ = false := hl.x.x.free 11
    have K1 := Lib.hid k1
    have S1 := Lib.hid s1
    have O1 := Lib.hid o1
    have HA := Lib.hid ha
    have HL := Lib.hid hl
    rw [hm] at x10
    have HM := Lib.hid hm
    clear k1 s1 o1 ha hl C hm hcn
    obtain ⟨i0, hi0, hz0, hz1, hz2⟩ := info_parts info64
    obtain ⟨rA, rc, hrv, -⟩ := HL.out.r.shape
    rw [hrv] at x11
    have hnrx : (Value.slice rA R.length rc).ownBlock ≠ some a.x := by rw [← hrv]; exact HL.out.r.ne HL.out.x.x (by decide)
    have HSL : Hid (Slc (w1.alloc (.cells #[.int .u64 T] 22)) 22 1 (.slice rA R.length rc) R.length (u64s R)) := by have := HL.out.r; rw [hrv] at this; exact this.alloc _
    have HRV := Lib.hid hrv
    clear hrv
    go_wp2_with (at_builtin; refine wpList_append_slc _ rfl (.tmp 36) (.tmp 38) _ rfl 22 i0 _ 1 8 Try.underlying54 hi0 hz0 hz1 hz2 rfl (by omega) (.slice rA R.length rc) R.length (u64s R) rfl HSL.out (some ⟨w1.heap.size, 0, none⟩) 1 1 [.int .u64 T] rfl (Src.one w1 22 _) (by simp [Value.oneCell']) (by omega) (by simp only [maxLen]; omega) ?_)
    intro v2 w2 hs2 ho2 hat2
    obtain ⟨A2, c2, e2, -⟩ := hs2.shape
    subst e2
    have kx2 := (HL.out.x.x.alloc (.cells #[.int .u64 T] 22)).only ho2 hnrx
    have x11b : w2.cell? ⟨a.x, 11, none⟩ = some a.rv := kx2.cell 11
    have y11b : w2.frozen? ⟨a.x, 11, none⟩ = false := kx2.free 11
    have hxl2 := kx2.lt
    have hrv := HRV.out
    have n11 : a.x < w1.heap.size := hxl
    have h2x : (Value.slice A2 (R.length + 1) c2).ownBlock ≠ some a.x := by
      rcases hat2 with h | h <;> rw [h]
      · exact hnrx
      · intro e; injection e with e; (try simp only [World.size_alloc] at e); omega
    have hrv2 : ∀ j, (Value.slice A2 (R.length + 1) c2).ownBlock = some j → a.rv.ownBlock = some j ∨ w1.heap.size ≤ j := fun j e => by
      rcases hat2 with h | h
      · rw [hrv, ← h]; exact .inl e
      · rw [h] at e; injection e with e; exact .inr (by (try simp only [World.size_alloc] at e); omega)
    have o13 : Only (fun j => j = a.x ∨ a.rv.ownBlock = some j) w1 (w2.setCell ⟨a.x, 11, none⟩ (.slice A2 (R.length + 1) c2)) := by
      refine Only.setCell (Only.trans ((Only.refl (fun j => j = a.x ∨ a.rv.ownBlock = some j) w1).alloc (.cells #[.int .u64 T] 22)) ho2 (fun j _ e => .inr ?_)) (p := ⟨a.x, 11, none⟩) (fun _ => .inl rfl) _
      rw [hrv]; exact e
    obtain ⟨g', hge, hgv⟩ := HL.out.g
    obtain ⟨cg, gb⟩ := HL.out.gblk
    obtain ⟨Lg, gs⟩ := HL.out.gslc
    have hx3 : IsX (w2.setCell ⟨a.x, 11, none⟩ (.slice A2 (R.length + 1) c2)) { a with rv := .slice A2 (R.length + 1) c2 } m := ⟨kx2.put 11 _, Blk.only HL.out.x.k o13 (fun e => e.elim (fun e => nk e.symm) (fun e => HL.out.r.ne HL.out.x.k (by decide) e))⟩
    have hg3 : IsRv (w2.setCell ⟨a.x, 11, none⟩ (.slice A2 (R.length + 1) c2)) a.g a.gv g' := hgv.only o13 (fun e => e.elim (fun e => HL.out.x.x.ne gb (by decide) e.symm) (fun e => HL.out.r.ne gb (by decide) e)) (fun j e f => by
      rcases f with rfl | f
      · exact gs.ne HL.out.x.x (by decide) e
      · exact HL.out.nr j f e)
    have hs3 : Slc (w2.setCell ⟨a.x, 11, none⟩ (.slice A2 (R.length + 1) c2)) 22 1 (.slice A2 (R.length + 1) c2) (R ++ [T]).length (u64s (R ++ [T])) := by
      have h := hs2.far (p := ⟨a.x, 11, none⟩) h2x (.slice A2 (R.length + 1) c2)
      show Slc _ _ _ (.slice A2 (R.length + 1) c2) (R ++ [T]).length (u64s (R ++ [T]))
      simpa [u64s] using h
    have hq3 : (w2.setCell ⟨a.x, 11, none⟩ (.slice A2 (R.length + 1) c2)).cell? ⟨q, 1, none⟩ = some (.int .u64 T) := (K1.out.blk.only o13 (fun e => e.elim nqx (fun e => HL.out.r.ne K1.out.blk (by decide) e))).cell 1
    go_wp2_with fail
    obtain ⟨w3, hw3⟩ : ∃ w3, w2.setCell ⟨a.x, 11, none⟩ (.slice A2 (R.length + 1) c2) = w3 := ⟨_, rfl⟩
    rw [hw3] at hx3 hg3 hs3 hq3 o13 ⊢
    have x5 : w3.cell? ⟨a.x, 5, none⟩ = some (.int .u64 m.l.z) := hx3.x.cell 5
    have x4 : w3.cell? ⟨a.x, 4, none⟩ = some (.int .i64 m.l.s) := hx3.x.cell 4
    have x11c : w3.cell? ⟨a.x, 11, none⟩ = some (.slice A2 (R.length + 1) c2) := hx3.x.cell 11
    have hxl3 := hx3.x.lt
    obtain ⟨g2, of2, c2', e2, -, -, hg2, hcell, -⟩ := hs3.at_ (by simp)
    injection e2 with e2 e2x e2y
    clear e2x e2y
    subst e2
    have HCELL := Lib.hid hcell
    have HX3 := Lib.hid hx3
    have HG3 := Lib.hid hg3
    have HS3 := Lib.hid hs3
    have HQ3 := Lib.hid hq3
    have O13 := Lib.hid o13
    have HGE := Lib.hid hge
    have HRV2 := Lib.hid hrv2
    have H2X := Lib.hid h2x
    obtain ⟨l, hl⟩ : ∃ l, R ++ [T] = l := ⟨_, rfl⟩
    have hll : R.length + 1 = l.length := by rw [← hl]; simp
    have HLB : Hid (∀ x ∈ l, 0 ≤ x ∧ x ≤ 18446744073709551615) := fun x hx => by
      rw [← hl] at hx
      rcases List.mem_append.1 hx with hx | hx
      · exact HRB.out x hx
      · simp at hx; subst hx; exact ⟨hn0, by omega⟩
    have HLL := Lib.hid hl
    have hlb : l.length ≤ 1001 := by omega
    have okz := HOK.out.l.z0
    have okz1 := HOK.out.l.z1
    rw [hl] at HCELL
    rw [hll] at x11c ⊢
    have HLL3 := Lib.hid hll
    clear hll hx3 hg3 hs3 hq3 o13 hge hgv gb gs hs2 ho2 hat2 kx2 x11b y11b hw3 hcell hrv hrv2 h2x hl hnrx x11 x10 y11 hxl2 HSL hcl z0 z1 hg
    obtain ⟨z, hz⟩ : ∃ z, m.l.z = z := ⟨_, rfl⟩
    rw [hz] at x5 okz okz1
    have HZ := Lib.hid hz
    clear hz
    have okz2 : z ≠ 0 := by omega
    generalize hTz : T / z = K at *
    have HTZ := Lib.hid hTz
    go_loopw [10, 11] (fun nv iv wr => Hid (RelCnt w3 K z l nv iv wr)) (fun _ iv _ => l.length - (intOf iv).toNat)
    case atStart => exact ⟨0, 0, rfl, rfl, by omega, rfl⟩
    case round =>
      obtain ⟨i, mm, rfl, rfl, hi, rfl⟩ := hrel
      have hb := cnt_bd K z (l.take i)
      have hb2 : (l.take i).length ≤ i := by simp; omega
      by_cases hin : i < l.length
      · have hin2 : (i : Int) < l.length := by omega
        obtain ⟨x, hx⟩ : ∃ x, l[i]? = some x := ⟨_, List.getElem?_eq_getElem hin⟩
        have hc := HCELL.out i (.int .u64 x) (by unfold u64s; rw [List.getElem?_map, hx]; rfl)
        have hxb := HLB.out x (List.mem_of_getElem? hx)
        have CN := Lib.hid (cnt_next K z hx)
        have g1 : IntKind.i64.wrap ((i : Int) + 1) = i + 1 := IntWalk.i64_in _ (by omega)
        obtain ⟨cn, hcn⟩ : ∃ cn, cnt K z (l.take i) = cn := ⟨_, rfl⟩
        rw [hcn] at CN hb ⊢
        have g2' : IntKind.i64.wrap (cn + 1) = cn + 1 := IntWalk.i64_in _ (by omega)
        by_cases u : x / z = K
        · have t : (x / z == K) = true := beq_iff_eq.2 u
          have U := Lib.hid u
          clear hcn hx u
          go_wp2_with fail
          try go_quiet (fail)
          try go_wp2_with fail
          go_roundw
          case rel => exact ⟨i + 1, _, by go_num, by rw [CN.out, if_pos U.out], by omega, rfl⟩
          case measure => simp [intOf]; omega
        · have t : (x / z == K) = false := beq_eq_false_iff_ne.2 u
          have U := Lib.hid u
          clear hcn hx u
          go_wp2_with fail
          try go_quiet (fail)
          try go_wp2_with fail
          go_roundw
          case rel => exact ⟨i + 1, _, by go_num, by rw [CN.out, if_neg U.out]; simp, by omega, rfl⟩
          case measure => simp [intOf]; omega
      · obtain rfl : i = l.length := by omega
        have hin2 : ¬ ((l.length : Nat) : Int) < l.length := by omega
        have hval : cnt K z (l.take l.length) = (countL T m).raises := by
          rw [List.take_length, ← HLL.out, cnt_app, ← hcn2.out, HZ.out]
          simp only [cnt]
          rw [HTZ.out, if_pos rfl]
          omega
        rw [hval]
        clear hval hb hb2
        have HMM := HM.out
        have x10c : w3.cell? ⟨a.x, 10, none⟩ = some (.bool m.masked) := HX3.out.x.cell 10
        have y10c : w3.frozen? ⟨a.x, 10, none⟩ = false := HX3.out.x.free 10
        have x6c : w3.cell? ⟨a.x, 6, none⟩ = some (.pointer (some ⟨a.g, 0, none⟩)) := HX3.out.x.cell 6
        obtain ⟨Lg3, gk, gsl, -, -⟩ := HG3.out
        have gc2 : w3.cell? ⟨a.g, 2, none⟩ = some a.gv := gk.cell 2
        have gf2 : w3.frozen? ⟨a.g, 2, none⟩ = false := gk.free 2
        have hgl := gk.lt
        have nxg : a.x ≠ a.g := HX3.out.x.ne gk (by decide)
        have nxg2 : (a.x == a.g) = false := beq_eq_false_iff_ne.2 nxg
        have nxg3 : (a.g == a.x) = false := beq_eq_false_iff_ne.2 (fun e => nxg e.symm)
        have ngk : a.g ≠ a.k := gk.ne HX3.out.k (by decide)
        have GK := Lib.hid gk
        have GSL := Lib.hid gsl
        have NGK := Lib.hid ngk
        have NK := Lib.hid nk
        have HC1 := HGC.out
        have hge := HGE.out
        have hgt : g'.c = m.l.c ∧ g'.h = m.l.h ∧ g'.t ≤ T := by
          rw [HC1.2.2.1]
          rcases hge.2.2 with rfl | ⟨-, -, e1, e2, e3, -⟩
          · exact ⟨HC1.1, HC1.2.1, HC1.2.2.2⟩
          · exact ⟨e1.trans HC1.1, e2.trans HC1.2.1, e3⟩
        have HGT := Lib.hid hgt
        have CF := Lib.hid (countL_fix T m)
        clear gk gsl ngk HC1 hge hgt
        by_cases us : m.l.s < (countL T m).raises
        · have ts : decide (m.l.s < (countL T m).raises) = true := decide_eq_true us
          have er : raiseL T m = (true, { countL T m with masked := true, g := ⟨m.l.c, m.l.h, 0, 0, 0⟩ }) := by unfold raiseL; rw [if_neg (by rw [HMM]; simp), if_pos us]
          have ER := Lib.hid er
          clear er us HMM nk
          go_wp2_with fail
          try go_quiet (fail)
          try go_wp2_with fail
          go_ret2
          rw [ER.out]
          refine ⟨rfl, ?_⟩
          obtain ⟨c1, c2', c3, c4, c5, c6⟩ := CF.out
          have hx4 : IsX (((w3.drewN mm).setCell ⟨a.x, 10, none⟩ (.bool true)).setCell ⟨a.g, 2, none⟩ (.slice none 0 0)) { a with rv := .slice (some ⟨g2, of2, none⟩) (R.length + 1) c2, gv := .slice none 0 0 } { m with masked := true } :=
            ⟨((HX3.out.x.drewN mm).put 10 (.bool true)).far (p := ⟨a.g, 2, none⟩) nxg _, IsKR.far (IsKR.far (w := w3.drewN mm) HX3.out.k (p := ⟨a.x, 10, none⟩) (fun e => NK.out e.symm) _) (p := ⟨a.g, 2, none⟩) (fun e => NGK.out e.symm) _⟩
          have o4 : Only (fun j => j = a.x ∨ j = a.g) w3 (((w3.drewN mm).setCell ⟨a.x, 10, none⟩ (.bool true)).setCell ⟨a.g, 2, none⟩ (.slice none 0 0)) := Only.setCell (Only.setCell ((Only.refl (fun j => j = a.x ∨ j = a.g) w3).drewN mm) (p := ⟨a.x, 10, none⟩) (fun _ => .inl rfl) _) (p := ⟨a.g, 2, none⟩) (fun _ => .inr rfl) _
          have hg4 := (IsRv.only (HG3.out.drewN mm) (Only.setCell (Only.refl (fun j => j = a.x) (w3.drewN mm)) (p := ⟨a.x, 10, none⟩) (fun _ => rfl) (.bool true)) (fun e => nxg e.symm) (fun j e f => by subst f; exact GSL.out.ne HX3.out.x (by decide) e)).fired
          have hs4 := HS3.out.only o4 (fun j e f => by
            rcases f with rfl | rfl
            · exact H2X.out e
            · exact HS3.out.ne GK.out (by decide) e)
          obtain ⟨gt1, gt2, gt3⟩ := HGT.out
          have gok := HGE.out.1
          refine raise_fin (a' := { a with rv := .slice (some ⟨g2, of2, none⟩) (R.length + 1) c2, gv := .slice none 0 0 }) S1.out O1.out K1.out HA.out ((O13.out.mono (G := fun j => j = a.x ∨ j = a.g ∨ j = a.k ∨ a.rv.ownBlock = some j) (fun j _ e => e.elim .inl fun e => .inr (.inr (.inr e)))).trans o4 (fun j _ e => e.elim .inl fun e => .inr (.inl e))) rfl rfl rfl HRV2.out (fun j e => by cases e)
            ⟨hx4.congr c1 c4 c5 rfl c3, ⟨{ g' with n := 0 }, ⟨⟨gok.c0, gok.c1, gok.h0, gok.h1, Int.le_refl 0, by have := gok.c0; show (0 : Int) < g'.c; omega, gok.f0, gok.f1, gok.t0, gok.t1⟩, ⟨HOK.out.l.c0, HOK.out.l.c1, HOK.out.l.h0, HOK.out.l.h1, Int.le_refl 0, by have := HOK.out.l.c0; show (0 : Int) < m.l.c; omega, Int.le_refl 0, (show (0 : Int) < 4611686018427387904 from by decide), Int.le_refl 0, (show (0 : Int) < 4611686018427387904 from by decide)⟩, .inr ⟨rfl, rfl, gt1, gt2, gt3, hn0⟩⟩, hg4⟩, hs4, fun j _ e => by cases e⟩
        · have ts : decide (m.l.s < (countL T m).raises) = false := decide_eq_false us
          have er : raiseL T m = (false, deliverL T { countL T m with g := (raiseF T m.g).2, held := m.held + (raiseF T m.g).1.1 }) := by unfold raiseL; rw [if_neg (by rw [HMM]; simp), if_neg us]
          have ER := Lib.hid er
          have RV := rraisev_any (HG3.out.drewN mm) HGE.out.1 T hn0 (by omega)
          rw [raiseF_GE HGE.out (Int.le_refl T) h1] at RV
          have RVH := Lib.hid RV
          have rb := raiseF_bd HOK.out.g T hn0
          obtain ⟨rk, hrk⟩ : ∃ rk, (raiseF T m.g).1.1 = rk := ⟨_, rfl⟩
          rw [hrk] at RVH rb
          have HRK := Lib.hid hrk
          obtain ⟨rb0, rb1, rb2⟩ := rb
          have he0 := HOK.out.e0
          have he1 := HOK.out.e1
          have x8c : w3.cell? ⟨a.x, 8, none⟩ = some (.int .i64 m.held) := HX3.out.x.cell 8
          have y8c : w3.frozen? ⟨a.x, 8, none⟩ = false := HX3.out.x.free 8
          have g8 : IntKind.i64.wrap (m.held + rk) = m.held + rk := IntWalk.i64_in _ (by omega)
          have RB2 := Lib.hid rb2
          clear er us HMM nk RV hrk rb2
          go_wp2_with fail
          try go_quiet (fail)
          try go_wp2_with fail
          go_at_call 40
          (with_reducible refine Calls.mono RVH.out ?_)
          rintro e w4 ⟨rfl, ⟨gv', hgv4, hdis⟩, o4⟩
          have ox4 : Only (fun j => j = a.g) w3 w4 := ((Only.refl (fun j => j = a.g) w3).drewN mm).trans o4 (fun _ _ h => h)
          have hx4 := HX3.out.only ox4 nxg (fun e => NGK.out e.symm)
          have x8d : w4.cell? ⟨a.x, 8, none⟩ = some (.int .i64 m.held) := hx4.x.cell 8
          have y8d : w4.frozen? ⟨a.x, 8, none⟩ = false := hx4.x.free 8
          have hxl4 := hx4.x.lt
          have hb := (K1.out.blk.only O13.out (fun e => e.elim nqx (fun e => HL.out.r.ne K1.out.blk (by decide) e)))
          have hqg : q ≠ a.g := hb.ne GK.out (by decide)
          have hb4 := hb.only ox4 hqg
          have hq5 : (w4.setCell ⟨a.x, 8, none⟩ (.int .i64 (m.held + rk))).cell? ⟨q, 1, none⟩ = some (.int .u64 T) := (hb4.far (p := ⟨a.x, 8, none⟩) nqx (.int .i64 (m.held + rk))).cell 1
          obtain ⟨c1, c2', c3, c4, c5, c6⟩ := CF.out
          have okd : Ln.ok (H + 4000) { countL T m with g := (raiseF T m.g).2, held := m.held + rk } := ⟨by simp only; rw [c1]; exact HOK.out.l, RB2.out, by simp only; rw [c3]; exact HOK.out.k, by simp only; omega, by simp only; omega, by simp only; rw [c5]; exact HOK.out.p0, by simp only; rw [c5]; have := HOK.out.p1; omega, by have := (countL_ok HOK.out (by omega) T hn0 h1).w0; simpa using this, by have := (countL_ok HOK.out (by omega) T hn0 h1).w1; simpa using this, by have := (countL_ok HOK.out (by omega) T hn0 h1).r0; simpa using this, by have := (countL_ok HOK.out (by omega) T hn0 h1).r1; simp only; omega⟩
          have hx5 : IsX (w4.setCell ⟨a.x, 8, none⟩ (.int .i64 (m.held + rk))) { a with rv := .slice (some ⟨g2, of2, none⟩) (R.length + 1) c2 } { m with held := m.held + rk } := ⟨hx4.x.put 8 (.int .i64 (m.held + rk)), IsKR.far hx4.k (fun e => NK.out e.symm) _⟩
          have hx5' : IsX (w4.setCell ⟨a.x, 8, none⟩ (.int .i64 (m.held + rk))) { a with rv := .slice (some ⟨g2, of2, none⟩) (R.length + 1) c2 } { countL T m with g := (raiseF T m.g).2, held := m.held + rk } := hx5.congr c1 rfl c5 c6 c3
          have DL := Lib.hid (rdeliver_any hx5' okd q T hn0 (by omega) hq5)
          have HX4 := Lib.hid hx4
          have HV4 := Lib.hid hgv4
          have HDIS := Lib.hid hdis
          have OX4 := Lib.hid ox4
          clear hx4 hgv4 hdis ox4 o4 hx5 hx5' hq5 okd hb hqg hb4 c1 c2' c3 c4 c5 c6 RVH
          go_wp2_with fail
          try go_quiet (fail)
          try go_wp2_with fail
          go_at_call 41
          (with_reducible refine Calls.mono DL.out ?_)
          rintro e w5 ⟨rfl, hx5, o5⟩
          have HX5 := Lib.hid hx5
          have O5 := Lib.hid o5
          clear hx5 o5 DL
          go_wp2_with fail
          try go_quiet (fail)
          try go_wp2_with fail
          go_ret2
          rw [ER.out, HRK.out]
          refine ⟨rfl, ?_⟩
          have o45 : Only (fun j => j = a.x ∨ j = a.k) w4 w5 := (Only.setCell (Only.refl (fun j => j = a.x ∨ j = a.k) w4) (p := ⟨a.x, 8, none⟩) (fun _ => .inl rfl) (.int .i64 (m.held + rk))).trans O5.out (fun _ _ h => h)
          obtain ⟨Lg4, gk4, gs4, -, -⟩ := HV4.out
          have hg5 : IsRv w5 a.g gv' (raiseF T m.g).2 := HV4.out.only o45 (fun e => e.elim (fun e => nxg e.symm) NGK.out) (fun j e f => by
            rcases f with rfl | rfl
            · exact gs4.ne HX4.out.x (by decide) e
            · exact gs4.ne HX4.out.k (by decide) e)
          have hs4 := HS3.out.only OX4.out (fun j e f => by subst f; exact HS3.out.ne GK.out (by decide) e)
          have hs5 := hs4.only o45 (fun j e f => by
            rcases f with rfl | rfl
            · exact H2X.out e
            · exact hs4.ne HX4.out.k (by decide) e)
          have sz13 := O13.out.size
          have hgv : ∀ j, gv'.ownBlock = some j → a.gv.ownBlock = some j ∨ w1.heap.size ≤ j := fun j e => by
            rcases HDIS.out with rfl | h
            · exact .inl e
            · exact .inr (Nat.le_trans sz13 (by have := h j e; simpa using this))
          have hnr : ∀ i, (Value.slice (some ⟨g2, of2, none⟩) (R.length + 1) c2).ownBlock = some i → gv'.ownBlock ≠ some i := fun i e f => by
            rcases HDIS.out with h | h
            · rcases HRV2.out i e with h2 | h2
              · exact HL.out.nr i h2 (by rw [← h]; exact f)
              · have : i < w1.heap.size := HL.out.lt (.inr (.inr (.inr (.inr (by rw [← h]; exact f)))))
                omega
            · have h3 := h i f
              have h4 : i < w3.heap.size := HS3.out.lt e
              simp at h3
              omega
          exact raise_fin (a' := { a with rv := .slice (some ⟨g2, of2, none⟩) (R.length + 1) c2, gv := gv' }) S1.out O1.out K1.out HA.out (((O13.out.mono (G := fun j => j = a.x ∨ j = a.g ∨ j = a.k ∨ a.rv.ownBlock = some j) (fun j _ e => e.elim .inl fun e => .inr (.inr (.inr e)))).trans OX4.out (fun j _ e => .inr (.inl e))).trans o45 (fun j _ e => e.elim .inl fun e => .inr (.inr (.inl e)))) rfl rfl rfl HRV2.out hgv
            ⟨⟨HX5.out.x, HX5.out.k⟩, ⟨_, GE.refl (by rw [(deliverL_fix T _).2.1]; exact RB2.out), by rw [(deliverL_fix T _).2.1]; exact hg5⟩, hs5, hnr⟩
end
end Go.Proofs.Ytbdhmjlbogjkoaa
