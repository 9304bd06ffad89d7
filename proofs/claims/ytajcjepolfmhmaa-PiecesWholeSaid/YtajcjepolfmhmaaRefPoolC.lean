/- The reference of layer 7 (pool): Get of a size that may be. -/
import Derived.Test.YtajcjepolfmhmaaRefPoolB
import Derived.Test.YtajcjepolfmhmaaRZone
import Derived.Test.YtajcjepolfmhmaaPoolGet
namespace Go.Proofs.Ytajcjepolfmhmaa
open Go.RowKit
set_option linter.unusedVariables false
set_option linter.unusedSimpArgs false
def RGet (w : World) (base p : Nat) (ls : List Nat) (e : Ending) (w' : World) : Prop := ∃ h c, e = .returned (.tuple #[h, .int .i64 c]) ∧ RefP w' base p ls ∧ Below base w w'
def RelRG (w : World) (base p q : Nat) (ls : List Nat) (iv : Value) (wr : World) : Prop :=
  ∃ i : Nat, iv = .int .i64 i ∧ i ≤ ls.length ∧ RefP wr base p ls ∧ Blk wr q 40 [.int .i64 0, .int .u64 0] ∧ Below base w wr
theorem getD_last {B : List Value} {ls : List Nat} (h : LensOK B ls) {i : Nat} (hi : i < ls.length) : ∃ A c m, ls[i]? = some m ∧ B[i]? = some (.slice A m c) := by
  have h1 : ls[i]? = some ls[i] := List.getElem?_eq_getElem hi
  have h2 : B[i]? = some (B[i]'(by rw [h.1]; exact hi)) := List.getElem?_eq_getElem (by rw [h.1]; exact hi)
  obtain ⟨A, c, e⟩ := h.2 i _ _ h2 h1
  rw [e] at h2
  exact ⟨A, c, _, h1, h2⟩
def SG (p bb o : Nat) (v u : Value) (W : World) : Prop := W.cell? ⟨p, 3, none⟩ = some v ∧ W.cell? ⟨bb, o, none⟩ = some u ∧ p < W.heap.size ∧ bb < W.heap.size
theorem SG.alloc {p bb o : Nat} {v u : Value} {W : World} (h : SG p bb o v u W) (x : Obj) : SG p bb o v u (W.alloc x) :=
  ⟨(World.cell?_alloc_lt W x _ h.2.2.1).trans h.1, (World.cell?_alloc_lt W x _ h.2.2.2).trans h.2.1, by simp; have := h.2.2.1; omega, by simp; have := h.2.2.2; omega⟩
theorem Slc.cellAt {w : World} {e : TypeId} {g off n c : Nat} {xs : List Value} (h : Slc w e 1 (.slice (some ⟨g, off, none⟩) n c) n xs) {i : Nat} {u : Value} (hi : xs[i]? = some u) : w.cell? ⟨g, off + i, none⟩ = some u ∧ (∀ j, w.frozen? ⟨g, j, none⟩ = false) ∧ g < w.heap.size := by
  have hl := (List.getElem?_eq_some_iff.1 hi).1
  have := h.1
  obtain ⟨g', off', c', e', -, -, hlt, hc, hf⟩ := h.at_ (by omega)
  injection e' with e1 e2 e3
  injection e1 with e1
  injection e1 with e4 e5 e6
  subst e4 e5
  exact ⟨hc i u hi, hf, hlt⟩
theorem Rw.handle {w : World} {base p q : Nat} {g o f b : Value} {G O F B cs : List Value} (k : Rw w base p g o f b G O F B) (hq : Blk w q 40 cs) (i : Nat) (u : Value) : Rw (w.setCell ⟨q, i, none⟩ u) base p g o f b G O F B :=
  k.away (hq.ne k.blk (by decide)) (k.rg.ne hq (by decide)) (k.ro.ne hq (by decide)) (k.rf.ne hq (by decide)) (k.rb.ne hq (by decide)) u
theorem RefP.handle {w : World} {base p q : Nat} {ls : List Nat} {cs : List Value} (k : RefP w base p ls) (hq : Blk w q 40 cs) (i : Nat) (u : Value) : RefP (w.setCell ⟨q, i, none⟩ u) base p ls := by
  obtain ⟨g, o, f, b, G, O, F, B, k, h1⟩ := k
  exact ⟨g, o, f, b, G, O, F, B, k.handle hq i u, h1⟩
set_option maxRecDepth 100000 in
set_option maxHeartbeats 4000000 in
theorem rget07_any (w : World) (base p : Nat) (ls : List Nat) (k : Hid (RefP w base p ls)) (hbz : base ≤ w.heap.size) (n M : Nat) (hn : ls.length = n + 1) (hn9 : n ≤ 1000) (hM : Hid (ls[n]? = some M)) (hls : Hid (∀ m ∈ ls, m ≤ 65536)) (size : Int) (s1 : 1 ≤ size) (s2 : size ≤ M) :
    Calls Try.prog 22 #[.pointer (some ⟨p, 0, none⟩), .int .i64 size] w (RGet w base p ls) := by
  have d1 : decide (size < 1) = false := decide_eq_false (by omega)
  have d2 : decide ((M : Int) < size) = false := decide_eq_false (by omega)
  have HN := Lib.hid hn
  have B0 : Hid (Below base w (w.alloc (.cells #[.int .i64 0, .int .u64 0] 40))) := (Below.refl _ _).alloc hbz _
  have Q0 := Lib.hid (Blk.new w 40 [.int .i64 0, .int .u64 0])
  have K0 := Lib.hid (k.out.keep ((Below.refl _ _).alloc (Nat.le_refl _) (.cells #[.int .i64 0, .int .u64 0] 40)))
  go_enter Try.func22, Try.ntmps22
  go_wp2_with fail
  generalize hw1 : w.alloc (.cells #[.int .i64 0, .int .u64 0] 40) = w1 at *
  obtain ⟨g, o, f, b, G, O, F, B, k0, lg, lo, lf, lb, ug, uo⟩ := K0.out
  obtain ⟨Ab, cb, eb, hbc⟩ := k0.rb.shape
  have hBl : B.length = n + 1 := by rw [lb.1, hn]
  obtain ⟨bb, ob, cb2, eb2, -, hcb, hblt, hbcell, -⟩ := k0.rb.at_ (by omega)
  rw [eb2] at eb
  injection eb with eb _ ecb
  subst eb
  obtain ⟨A9, c9, m9, hm9, hB9⟩ := getD_last lb (show n < ls.length by omega)
  rw [hM.out] at hm9
  injection hm9 with hm9
  subst hm9
  have e9 : w1.cell? ⟨bb, ob + n, none⟩ = some (.slice A9 M c9) := hbcell n _ hB9
  have e3 : w1.cell? ⟨p, 3, none⟩ = some (.slice (some ⟨bb, ob, none⟩) (n + 1) cb2) := by have := k0.blk.cell 3; rw [← hBl, ← eb2]; exact this
  have hnn : (((n + 1 : Nat) : Int) - 1) = n := by omega
  have hnw : IntKind.i64.wrap (((n + 1 : Nat) : Int) - 1) = n := by rw [hnn]; exact IntWalk.i64_in _ (by omega)
  clear k0 lb lg lo lf ug uo hbcell hB9 
  go_quiet (fail)
  clear e9 e3 hnn hnw hblt hcb hbc eb2 ecb
  go_wp2_with fail
  go_loopw [6] (fun iv wr => Hid (RelRG w base p w.heap.size ls iv wr)) (fun iv _ => ls.length - (intOf iv).toNat)
  case atStart => exact ⟨0, rfl, by omega, (by obtain ⟨g, o, f, b, G, O, F, B, k1, h1⟩ := K0.out; exact ⟨g, o, f, b, G, O, F, B, k1.drewN _, h1⟩), Q0.out.drewN _, Below.drewN' B0.out _⟩
  case round =>
    clear K0 Q0 B0 hw1 w1
    obtain ⟨i, rfl, hi, hk, hq, hbel⟩ := hrel
    have HQ := Lib.hid hq
    have HB := Lib.hid hbel
    have HK := Lib.hid hk
    obtain ⟨g, o, f, b, G, O, F, B, k0, lg, lo, lf, lb, ug, uo⟩ := hk
    have hBl : B.length = n + 1 := by rw [lb.1, hn]
    obtain ⟨bg, og, cg, eg, hgc, -, hglt, hgcell, hgfr⟩ := k0.rg.at_ (by omega)
    obtain ⟨bo, oo, co, eo, hoc, -, holt, hocell, hofr⟩ := k0.ro.at_ (by omega)
    obtain ⟨bf, of_, cf, ef, hfc, -, hflt, hfcell, hffr⟩ := k0.rf.at_ (by omega)
    obtain ⟨bb, ob, cb, eb, hbc, -, hblt, hbcell, hbfr⟩ := k0.rb.at_ (by omega)
    subst eg eo ef eb
    have n1 : p ≠ bo := fun e => k0.ro.ne k0.blk (by decide) (by rw [e]; rfl)
    have n2 : p ≠ bf := fun e => k0.rf.ne k0.blk (by decide) (by rw [e]; rfl)
    have n3 : p ≠ bb := fun e => k0.rb.ne k0.blk (by decide) (by rw [e]; rfl)
    have n4 : bo ≠ bf := fun e => k0.of bo rfl (by rw [e]; rfl)
    have x0 : wr.cell? ⟨p, 0, none⟩ = some (.slice (some ⟨bg, og, none⟩) (n + 1) cg) := by have := k0.blk.cell 0; rw [← hn, ← lg]; exact this
    have x1 : wr.cell? ⟨p, 1, none⟩ = some (.slice (some ⟨bo, oo, none⟩) (n + 1) co) := by have := k0.blk.cell 1; rw [← hn, ← lo]; exact this
    have x2 : wr.cell? ⟨p, 2, none⟩ = some (.slice (some ⟨bf, of_, none⟩) (n + 1) cf) := by have := k0.blk.cell 2; rw [← hn, ← lf]; exact this
    have x3 : wr.cell? ⟨p, 3, none⟩ = some (.slice (some ⟨bb, ob, none⟩) (n + 1) cb) := by have := k0.blk.cell 3; rw [← hBl]; exact this
    rw [hn] at hi lg lo lf
    by_cases hin : i < n + 1
    · have hin2 : (i : Int) < ((n + 1 : Nat) : Int) := by omega
      have hin3 : (i : Int) < (n : Int) + 1 := by omega
      have g1 : IntKind.i64.wrap ((i : Int) + 1) = i + 1 := IntWalk.i64_in _ (by omega)
      obtain ⟨Am, cm, m, hlm, hBm⟩ := getD_last lb (show i < ls.length by omega)
      have hm5 := hls.out m (List.mem_of_getElem? hlm)
      have y3 : wr.cell? ⟨bb, ob + i, none⟩ = some (.slice Am m cm) := hbcell i _ hBm
      obtain ⟨yo, hyo⟩ : ∃ yo, O[i]? = some yo := ⟨_, List.getElem?_eq_getElem (by omega)⟩
      obtain ⟨ov, rfl⟩ := uo yo (List.mem_of_getElem? hyo)
      have y1 : wr.cell? ⟨bo, oo + i, none⟩ = some (.int .i64 ov) := hocell i _ hyo
      obtain ⟨yf, hyf⟩ : ∃ yf, F[i]? = some yf := ⟨_, List.getElem?_eq_getElem (by omega)⟩
      have y2 : wr.cell? ⟨bf, of_ + i, none⟩ = some yf := hfcell i _ hyf
      obtain ⟨yg, hyg⟩ : ∃ yg, G[i]? = some yg := ⟨_, List.getElem?_eq_getElem (by omega)⟩
      obtain ⟨gn, rfl⟩ := ug yg (List.mem_of_getElem? hyg)
      have z1 := hofr (oo + i)
      have z2 := hffr (of_ + i)
      have hio : (i : Int) < O.length := by omega
      have UG := Lib.hid ug
      have UO := Lib.hid uo
      have LB := Lib.hid lb
      have K := Lib.hid k0
      have hHG := Lib.hid hyg
      have hio' : i < O.length := by omega
      have hif : i < F.length := by omega
      by_cases ov0 : ov = 0
      · subst ov0
        by_cases hms : size ≤ m
        · have d5 : decide (size ≤ (m : Int)) = true := decide_eq_true hms
          clear k0 lb ug uo hbel hq hocell hfcell hgcell hbcell hofr hffr hgfr hbfr hyo hyf hyg
          have hHG := hHG
          replace hBm := Lib.hid hBm
          have n5 : w.heap.size ≠ bo := fun e => K.out.ro.ne HQ.out (by decide) (by rw [e]; rfl)
          have n6 : w.heap.size ≠ bf := fun e => K.out.rf.ne HQ.out (by decide) (by rw [e]; rfl)
          have n7 : w.heap.size ≠ bb := fun e => K.out.rb.ne HQ.out (by decide) (by rw [e]; rfl)
          have P1 := Lib.hid (K.out.put1 rfl hio' (.int .i64 1))
          have hmk : ∀ W, (Instr.makeSlice 23 (.int .i64 m) (.int .i64 m)).run Try.prog W = .ok (.slice (some ⟨W.heap.size, 0, none⟩) m m) (W.alloc (.cells (madeCells #[.int .u8 0] m) 5)) := fun W =>
            run_make_row' 23 5 (.int .u8 0) 1 Try.underlying23 infoByte rfl .i64 .i64 m (by omega) (by omega) W
          go_wp2_with fail
          generalize hw2 : (wr.setCell ⟨bo, oo + i, none⟩ (.int .i64 1)).setCell ⟨bf, of_ + i, none⟩ (.int .i64 1) = w2
          have K2 : Hid (Rw w2 base p (.slice (some ⟨bg, og, none⟩) G.length cg) (.slice (some ⟨bo, oo, none⟩) O.length co) (.slice (some ⟨bf, of_, none⟩) F.length cf) (.slice (some ⟨bb, ob, none⟩) B.length cb) G (O.set i (.int .i64 1)) (F.set i (.int .i64 1)) B) := by
            rw [← hw2]; exact (P1.out.1.put2 rfl hif (.int .i64 1)).1
          have BB2 : Hid (Below base w w2) := by
            rw [← hw2]; exact (HB.out.setCell P1.out.2 _).setCell (P1.out.1.put2 rfl hif (.int .i64 1)).2 _
          have HQ2 : Hid (Blk w2 w.heap.size 40 [.int .i64 0, .int .u64 0]) := by
            rw [← hw2]; exact (HQ.out.far (p := ⟨bo, oo + i, none⟩) n5 _).far (p := ⟨bf, of_ + i, none⟩) n6 _
          have hsz2 : wr.heap.size = w2.heap.size := by rw [← hw2]; simp
          obtain ⟨yb, fb, lb2⟩ := K2.out.rb.cellAt hBm.out
          have yfb := fb (ob + i)
          have xb : w2.cell? ⟨p, 3, none⟩ = some (.slice (some ⟨bb, ob, none⟩) (n + 1) cb) := by have := K2.out.blk.cell 3; rw [← hBl]; exact this
          have xpl := K2.out.blk.lt
          clear hw2 x0 x1 x2 x3 y1 y2 y3 z1 z2 P1 fb HK n1 n2 n4
          have HSD : Hid (SG p bb (ob + i) (.slice (some ⟨bb, ob, none⟩) (n + 1) cb) (.slice Am m cm) w2.drew) := ⟨xb, yb, xpl, lb2⟩
          have KB := Lib.hid (K2.out.put3 rfl (by omega : i < B.length) (.slice (some ⟨w2.heap.size, 0, none⟩) m m))
          have ya : (w2.drew.alloc (.cells (madeCells #[.int .u8 0] m) 5)).cell? ⟨bb, ob + i, none⟩ = some (.slice Am m cm) := (World.cell?_alloc_lt _ _ _ lb2).trans yb
          have yaf : (w2.drew.alloc (.cells (madeCells #[.int .u8 0] m) 5)).frozen? ⟨bb, ob + i, none⟩ = false := ((K2.out.drew.alloc (.cells (madeCells #[.int .u8 0] m) 5)).rb.cellAt hBm.out).2.1 _
          refine wp_region_zone (SG p bb (ob + i) (.slice (some ⟨bb, ob, none⟩) (n + 1) cb) (.slice Am m cm)) (fun j => decide (j < 15)) (by kernel_rfl) ?_
          refine wpAnyZ_move (i := 0) (v := ?_) rfl (by kernel_rfl) (by kernel_rfl) (by kernel_rfl) (fun _ _ _ h => h) (Or.inl ⟨by rfl, ?_⟩) ?_
          (rotate_left 1; (focus (intro W; go_simp; try with_reducible rfl)))
          try simp only [Act.put, List.setIfInBounds_toArray, List.set_cons_zero, List.set_cons_succ, List.getElem_toArray, List.getElem_cons_succ, List.getElem_cons_zero]
          refine wpAnyZ_move (i := 1) (v := ?_) rfl (by kernel_rfl) (by kernel_rfl) (by kernel_rfl) (fun _ _ _ h => h) (Or.inl ⟨by rfl, ?_⟩) ?_
          (rotate_left 1; (focus (intro W; go_simp; try with_reducible rfl)))
          try simp only [Act.put, List.setIfInBounds_toArray, List.set_cons_zero, List.set_cons_succ, List.getElem_toArray, List.getElem_cons_succ, List.getElem_cons_zero]
          refine wpAnyZ_move (i := 2) (v := ?_) rfl (by kernel_rfl) (by kernel_rfl) (by kernel_rfl) (fun _ _ _ h => h) (Or.inl ⟨by rfl, ?_⟩) ?_
          (rotate_left 1; (focus (intro W; go_simp; try with_reducible rfl)))
          try simp only [Act.put, List.setIfInBounds_toArray, List.set_cons_zero, List.set_cons_succ, List.getElem_toArray, List.getElem_cons_succ, List.getElem_cons_zero]
          refine wpAnyZ_take (i := 3) (v := ?_) rfl (by kernel_rfl) (by kernel_rfl) (by kernel_rfl) (by kernel_rfl) (fun _ _ _ h => h) (Or.inl ⟨by rfl, ?_⟩) HSD.out ?_
          (rotate_left 1; (focus (intro W hS; obtain ⟨y0, y1, y2, y4⟩ := hS; go_simp; try with_reducible rfl)))
          try simp only [Act.put, List.setIfInBounds_toArray, List.set_cons_zero, List.set_cons_succ, List.getElem_toArray, List.getElem_cons_succ, List.getElem_cons_zero]
          refine wpAnyZ_move (i := 4) (v := ?_) rfl (by kernel_rfl) (by kernel_rfl) (by kernel_rfl) (fun _ _ _ h => h) (Or.inl ⟨by rfl, ?_⟩) ?_
          (rotate_left 1; (focus (intro W; go_simp; try with_reducible rfl)))
          try simp only [Act.put, List.setIfInBounds_toArray, List.set_cons_zero, List.set_cons_succ, List.getElem_toArray, List.getElem_cons_succ, List.getElem_cons_zero]
          refine wpAnyZ_move (i := 5) (v := ?_) rfl (by kernel_rfl) (by kernel_rfl) (by kernel_rfl) (fun _ _ _ h => h) (Or.inl ⟨by rfl, ?_⟩) ?_
          (rotate_left 1; (focus (intro W; go_simp; try with_reducible rfl)))
          try simp only [Act.put, List.setIfInBounds_toArray, List.set_cons_zero, List.set_cons_succ, List.getElem_toArray, List.getElem_cons_succ, List.getElem_cons_zero]
          refine wpAnyZ_move (i := 6) (v := ?_) rfl (by kernel_rfl) (by kernel_rfl) (by kernel_rfl) (fun _ _ _ h => h) (Or.inl ⟨by rfl, ?_⟩) ?_
          (rotate_left 1; (focus (intro W; go_simp; try with_reducible rfl)))
          try simp only [Act.put, List.setIfInBounds_toArray, List.set_cons_zero, List.set_cons_succ, List.getElem_toArray, List.getElem_cons_succ, List.getElem_cons_zero]
          refine wpAnyZ_move (i := 7) (v := ?_) rfl (by kernel_rfl) (by kernel_rfl) (by kernel_rfl) (fun _ _ _ h => h) (Or.inl ⟨by rfl, ?_⟩) ?_
          (rotate_left 1; (focus (intro W; go_simp; try with_reducible rfl)))
          try simp only [Act.put, List.setIfInBounds_toArray, List.set_cons_zero, List.set_cons_succ, List.getElem_toArray, List.getElem_cons_succ, List.getElem_cons_zero]
          refine wpAnyZ_take (i := 8) (v := ?_) rfl (by kernel_rfl) (by kernel_rfl) (by kernel_rfl) (by kernel_rfl) (fun _ _ _ h => h) (Or.inl ⟨by rfl, ?_⟩) HSD.out ?_
          (rotate_left 1; (focus (intro W hS; obtain ⟨y0, y1, y2, y4⟩ := hS; go_simp; try with_reducible rfl)))
          try simp only [Act.put, List.setIfInBounds_toArray, List.set_cons_zero, List.set_cons_succ, List.getElem_toArray, List.getElem_cons_succ, List.getElem_cons_zero]
          refine wpAnyZ_move (i := 9) (v := ?_) rfl (by kernel_rfl) (by kernel_rfl) (by kernel_rfl) (fun _ _ _ h => h) (Or.inl ⟨by rfl, ?_⟩) ?_
          (rotate_left 1; (focus (intro W; go_simp; try with_reducible rfl)))
          try simp only [Act.put, List.setIfInBounds_toArray, List.set_cons_zero, List.set_cons_succ, List.getElem_toArray, List.getElem_cons_succ, List.getElem_cons_zero]
          refine wpAnyZ_move (i := 10) (v := ?_) rfl (by kernel_rfl) (by kernel_rfl) (by kernel_rfl) (fun _ _ _ h => h) (Or.inl ⟨by rfl, ?_⟩) ?_
          (rotate_left 1; (focus (intro W; go_simp; try with_reducible rfl)))
          try simp only [Act.put, List.setIfInBounds_toArray, List.set_cons_zero, List.set_cons_succ, List.getElem_toArray, List.getElem_cons_succ, List.getElem_cons_zero]
          refine wpAnyZ_take (i := 11) (v := ?_) rfl (by kernel_rfl) (by kernel_rfl) (by kernel_rfl) (by kernel_rfl) (fun _ _ _ h => h) (Or.inl ⟨by rfl, ?_⟩) HSD.out ?_
          (rotate_left 1; (focus (intro W hS; obtain ⟨y0, y1, y2, y4⟩ := hS; go_simp; try with_reducible rfl)))
          try simp only [Act.put, List.setIfInBounds_toArray, List.set_cons_zero, List.set_cons_succ, List.getElem_toArray, List.getElem_cons_succ, List.getElem_cons_zero]
          refine wpAnyZ_move (i := 12) (v := ?_) rfl (by kernel_rfl) (by kernel_rfl) (by kernel_rfl) (fun _ _ _ h => h) (Or.inl ⟨by rfl, ?_⟩) ?_
          (rotate_left 1; (focus (intro W; go_simp; try with_reducible rfl)))
          try simp only [Act.put, List.setIfInBounds_toArray, List.set_cons_zero, List.set_cons_succ, List.getElem_toArray, List.getElem_cons_succ, List.getElem_cons_zero]
          refine wpAnyZ_one (i := 13) (by kernel_rfl) rfl (fun K hK => ?_)
          go_simp
          refine hK.out _ _ (fun _ h => SG.alloc h _) ?_
          clear hK K
          refine wpAnyZ_move (i := 14) (v := ?_) rfl (by kernel_rfl) (by kernel_rfl) (by kernel_rfl) (fun _ _ _ h => h) (Or.inl ⟨by rfl, ?_⟩) ?_
          (rotate_left 1; (focus (intro W; go_simp; try with_reducible rfl)))
          try simp only [Act.put, List.setIfInBounds_toArray, List.set_cons_zero, List.set_cons_succ, List.getElem_toArray, List.getElem_cons_succ, List.getElem_cons_zero]
          refine wpAnyZ_one (i := 15) (by kernel_rfl) rfl (fun K hK => ?_)
          go_simp
          refine hK.out _ _ (fun h => absurd h (by decide)) ?_
          clear hK K
          refine wpAnyZ_done (by kernel_rfl) ?_ _
          generalize hw3 : ((w2.setCell ⟨bb, ob + i, none⟩ (.slice (some ⟨w2.heap.size, 0, none⟩) m m)).alloc (.cells (madeCells #[.int .u8 0] m) 5)).drew = w3
          have K3 : Hid (Rw w3 base p (.slice (some ⟨bg, og, none⟩) G.length cg) (.slice (some ⟨bo, oo, none⟩) O.length co) (.slice (some ⟨bf, of_, none⟩) F.length cf) (.slice (some ⟨bb, ob, none⟩) B.length cb) G (O.set i (.int .i64 1)) (F.set i (.int .i64 1)) (B.set i (.slice (some ⟨w2.heap.size, 0, none⟩) m m))) := by
            rw [← hw3]; exact (KB.out.1.alloc _).drew
          have BB3 : Hid (Below base w w3) := by
            rw [← hw3]; exact ((BB2.out.setCell (p := ⟨bb, ob + i, none⟩) KB.out.2 _).alloc (by have := BB2.out.size; simp; omega) _).drew
          have HQ3 : Hid (Blk w3 w.heap.size 40 [.int .i64 0, .int .u64 0]) := by
            rw [← hw3]; exact ((HQ2.out.far (p := ⟨bb, ob + i, none⟩) n7 _).alloc _).drew
          have RP : Hid (RefP w3 base p ls) := by
            refine ⟨_, _, _, _, _, _, _, _, K3.out, by rw [lg, hn], by rw [List.length_set, lo, hn], by rw [List.length_set, lf, hn], ⟨by rw [List.length_set]; exact LB.out.1, fun a y mm hy hmm => ?_⟩, UG.out, fun y hy => ?_⟩
            · by_cases ea : i = a
              · subst ea
                rw [List.getElem?_set_self (by omega)] at hy
                injection hy with hy
                rw [hlm] at hmm
                injection hmm with hmm
                subst hmm
                exact ⟨_, _, hy.symm⟩
              · rw [List.getElem?_set_ne ea] at hy
                exact LB.out.2 a y mm hy hmm
            · rcases List.mem_or_eq_of_mem_set hy with hy | hy
              · exact UO.out y hy
              · exact ⟨_, hy⟩
          have c0 : w3.cell? ⟨p, 0, none⟩ = some (.slice (some ⟨bg, og, none⟩) (n + 1) cg) := by have := K3.out.blk.cell 0; rw [← lg]; exact this
          have c1 := (K3.out.rg.cellAt hHG.out).1
          have c2 := (K3.out.rg.cellAt hHG.out).2.2
          have c3 := K3.out.blk.lt
          have c4 := HQ3.out.cell 0
          have c5 := HQ3.out.cell 1
          have c6 := HQ3.out.free 0
          have c7 := HQ3.out.free 1
          have c8 := HQ3.out.lt
          clear hw3 KB ya yaf HSD K2 BB2 HQ2 yb yfb xb xpl HQ HB
          go_wp2_with fail
          (try simp only [Exit.inBlock, Exit.then])
          refine bodyPost_ret (ret_cell rfl _ rfl ((HQ3.out.put 0 _).put 1 _) Try.underlying40 rfl (by kernel_rfl)) rfl ?_
          exact ⟨_, _, rfl, (RP.out.handle HQ3.out 0 _).handle (HQ3.out.put 0 _) 1 _, (BB3.out.setCell (p := ⟨w.heap.size, 0, none⟩) hbz _).setCell (p := ⟨w.heap.size, 1, none⟩) hbz _⟩
        · have d5 : decide (size ≤ (m : Int)) = false := decide_eq_false hms
          clear k0 lb ug uo hbel hq hocell hfcell hgcell hbcell hofr hffr hgfr hbfr hyo hyf hyg hBm hHG n1 n2 n3 n4
          go_wp2_with fail
          go_roundw
          case rel => exact ⟨i + 1, by go_num, by omega, HK.out, HQ.out, HB.out⟩
          case measure => simp [intOf]; omega
      · have d5 : (ov == 0) = false := beq_eq_false_iff_ne.2 ov0
        clear k0 lb ug uo hbel hq hocell hfcell hgcell hbcell hofr hffr hgfr hbfr hyo hyf hyg hBm hHG n1 n2 n3 n4 ov0
        go_wp2_with fail
        go_roundw
        case rel => exact ⟨i + 1, by go_num, by omega, HK.out, HQ.out, HB.out⟩
        case measure => simp [intOf]; omega
    · obtain rfl : i = n + 1 := by omega
      have hin2 : ¬ ((n + 1 : Nat) : Int) < ((n + 1 : Nat) : Int) := by omega
      have q0 := HQ.out.cell 0
      have q1 := HQ.out.cell 1
      have q2 := HQ.out.free 0
      have q3 := HQ.out.free 1
      have ql := HQ.out.lt
      clear k0 lb ug uo hbel hq hocell hfcell hgcell hbcell hofr hffr hgfr hbfr n1 n2 n3 n4
      go_wp2_with fail
      (try simp only [Exit.inBlock, Exit.then])
      refine bodyPost_ret (ret_cell rfl _ rfl ((HQ.out.put 0 _).put 1 _) Try.underlying40 rfl (by kernel_rfl)) rfl ?_
      exact ⟨_, _, rfl, (HK.out.handle HQ.out 0 _).handle (HQ.out.put 0 _) 1 _, (HB.out.setCell (p := ⟨w.heap.size, 0, none⟩) hbz _).setCell (p := ⟨w.heap.size, 1, none⟩) hbz _⟩
end Go.Proofs.Ytajcjepolfmhmaa
