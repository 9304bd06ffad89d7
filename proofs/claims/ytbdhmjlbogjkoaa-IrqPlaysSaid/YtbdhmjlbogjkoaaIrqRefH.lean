/- The reference of layer 13: New. -/
import Derived.Test.YtbdhmjlbogjkoaaIrqRefE
import Derived.Test.YtbdhmjlbogjkoaaIrqF
import Derived.Test.YtbdhmjlbogjkoaaRZone
namespace Go.Proofs.Ytbdhmjlbogjkoaa
open Go.RowKit
set_option linter.unusedVariables false
set_option linter.unusedSimpArgs false
def noRs (i : Nat) : List (List Int) := List.replicate i []
theorem forgetZ {P : Program} {ops : Array Oper} {Q : Exit → Act → World → Prop} {md : Region.Mode} {S : World → Prop} {pre : Nat → Bool} {fuel : Nat} {listed : Array Bool} {a : Act} {W : World} {F : World → Prop} (hF : F W)
    (h : ∀ W', F W' → wpAnyZ P md ops Q S pre fuel listed a W') : wpAnyZ P md ops Q S pre fuel listed a W := h W hF
theorem Only.cellE {F : Nat → Prop} {w w' : World} (o : Only F w w') {p : Addr} (hlt : p.block < w.heap.size) (hF : ¬ F p.block) : w'.cell? p = w.cell? p := by
  unfold World.cell?
  rw [o.block p.block hlt hF]
theorem IsKR.alloc {w : World} {b : Nat} {s : Bk} (h : IsKR w b s) (o : Obj) : IsKR (w.alloc o) b s := Blk.alloc h o
theorem Src.block {w : World} {g : Nat} {t : TypeId} {cs : List Value} (k : Blk w g t cs) {size m : Nat} (h : cs.length = m * size) : Src w size (some ⟨g, 0, none⟩) m cs := by
  refine ⟨h, .inr ⟨_, rfl, fun j u hu => ?_⟩⟩
  have e : (⟨g, 0, none⟩ : Addr).add j = ⟨g, j, none⟩ := by cases j <;> simp [Addr.add]
  rw [e, k.cell j]
  exact hu
def SB (sv : Value) (wr : World) (W : World) : Prop := Only (fun j => sv.ownBlock = some j) wr W
theorem rnew12_k (d q : Int) (w : World) : Calls Try.prog 38 #[.int .i64 d, .int .u64 q] w fun e w' => ∃ kB, e = .returned (.pointer (some ⟨kB, 0, none⟩)) ∧ w.heap.size ≤ kB ∧ IsKR w' kB ⟨d, q, d, 0, 0⟩ ∧ Below w.heap.size w w' :=
  (rnew12_any d q w).mono fun e w' ⟨h1, h2, h3⟩ => ⟨_, h1, Nat.le_refl _, h2, h3⟩
section
variable {w w' : World} {q : Nat} {sv sv' : Value} {av : List Av} {ls : List Ln} {Rs : List (List Int)} {c now T : Int} {F : Nat → Prop}
theorem IsRI.snoc {a : Av} {n : Ln} (h : IsRI w q sv av ls Rs c now) (o : Only (fun j => sv.ownBlock = some j) w w') (hs : Slc w' 57 1 sv' (av.length + 1) ((av.map fun a => .pointer (some ⟨a.x, 0, none⟩)) ++ [.pointer (some ⟨a.x, 0, none⟩)]))
    (hsv : ∀ j, sv'.ownBlock = some j → j ≠ q) (hx : w.heap.size ≤ a.x) (hg : w.heap.size ≤ a.g) (hk : w.heap.size ≤ a.k) (hr : a.rv = .slice none 0 0) (hv : a.gv = .slice none 0 0) (kl : IsRL w' a n [] now) :
    IsRI (w'.setCell ⟨q, 0, none⟩ sv') q sv' (av ++ [a]) (ls ++ [n]) (Rs ++ [[]]) c now := by
  have hql := h.blk.lt
  have hlen := h.len
  have hlenR := h.lenR
  have ofar : Only (fun j => j = q) w' (w'.setCell ⟨q, 0, none⟩ sv') := Only.setCell (Only.refl (fun j => j = q) w') (p := ⟨q, 0, none⟩) (fun _ => rfl) _
  have nw : ∀ b ∈ av, ∀ j, ownV b j → j < w.heap.size := fun b hb j hj => by
    obtain ⟨m, S, k⟩ := h.ofMem hb
    exact k.lt hj
  refine ⟨(h.blk.only o (fun e => h.row.ne h.blk (by decide) e)).put 0 _, ?_, by simp [hlen], by simp [hlenR], ?_, ?_, ?_, ?_, ?_⟩
  · have := hs.only ofar (fun j e f => hsv j e f)
    simpa using this
  · intro i b m S hb hm hS
    rcases Nat.lt_trichotomy i av.length with hi | hi | hi
    · rw [List.getElem?_append_left hi] at hb
      rw [List.getElem?_append_left (by omega)] at hm hS
      have l := h.line i b m S hb hm hS
      obtain ⟨cg, gb⟩ := l.gblk
      obtain ⟨Lg, gs⟩ := l.gslc
      have ns : ∀ j, ownV b j → sv.ownBlock ≠ some j := fun j hj e => by
        rcases hj with e2 | e2 | e2 | e2 | e2
        · subst e2; exact h.row.ne l.x.x (by decide) e
        · subst e2; exact h.row.ne gb (by decide) e
        · subst e2; exact h.row.ne l.x.k (by decide) e
        · exact slc_ne h.row l.r (by decide) e e2
        · exact slc_ne h.row gs (by decide) e e2
      have nq : ∀ j, ownV b j → j ≠ q := fun j hj e => by
        subst e
        rcases hj with e2 | e2 | e2 | e2 | e2
        · exact h.blk.ne l.x.x (by decide) e2
        · exact h.blk.ne gb (by decide) e2
        · exact h.blk.ne l.x.k (by decide) e2
        · exact l.r.ne h.blk (by decide) e2
        · exact gs.ne h.blk (by decide) e2
      exact (l.only o ns).only ofar (fun j hj e => nq j hj e)
    · subst hi
      rw [List.getElem?_append_right (Nat.le_refl _), Nat.sub_self] at hb
      rw [List.getElem?_append_right (by omega)] at hm hS
      rw [show av.length - ls.length = 0 by omega] at hm
      rw [show av.length - Rs.length = 0 by omega] at hS
      simp at hb hm hS
      subst hb hm hS
      refine kl.only ofar (fun j hj e => ?_)
      subst e
      rcases hj with e2 | e2 | e2 | e2 | e2
      · omega
      · omega
      · omega
      · rw [hr] at e2; cases e2
      · rw [hv] at e2; cases e2
    · rw [List.getElem?_append_right (by omega), List.getElem?_eq_none (by simp; omega)] at hb
      cases hb
  · rw [List.map_append]
    exact nodup_snoc h.nx (fun x hx' e => by
      obtain ⟨b, hb, rfl⟩ := List.mem_map.1 hx'
      have := nw b hb _ (.inl rfl)
      have e2 : b.x = a.x := e
      omega)
  · rw [List.map_append]
    exact nodup_snoc h.ng (fun x hx' e => by
      obtain ⟨b, hb, rfl⟩ := List.mem_map.1 hx'
      have := nw b hb _ (.inr (.inl rfl))
      have e2 : b.g = a.g := e
      omega)
  · rw [List.map_append]
    exact nodup_snoc h.nk (fun x hx' e => by
      obtain ⟨b, hb, rfl⟩ := List.mem_map.1 hx'
      have := nw b hb _ (.inr (.inr (.inl rfl)))
      have e2 : b.k = a.k := e
      omega)
  · intro i j b d y hb hd hy
    have key : ∀ i b, (av ++ [a])[i]? = some b → av[i]? = some b ∨ (i = av.length ∧ b = a) := fun i b hb => by
      rcases Nat.lt_or_ge i av.length with hi | hi
      · rw [List.getElem?_append_left hi] at hb; exact .inl hb
      · have hi2 : i = av.length := by
          have := (List.getElem?_eq_some_iff.1 hb).1
          simp at this; omega
        subst hi2
        rw [List.getElem?_append_right (Nat.le_refl _), Nat.sub_self] at hb
        simp at hb
        exact .inr ⟨rfl, hb.symm⟩
    rcases key i b hb with h1 | ⟨-, h1⟩
    · rcases key j d hd with h2 | ⟨-, h2⟩
      · exact h.dr i j b d y h1 h2 hy
      · subst h2
        exact ⟨fun e => (by rw [hr] at e; cases e), fun e => (by rw [hv] at e; cases e)⟩
    · subst h1; rw [hr] at hy; cases hy
end
def RelRN (w : World) (L : Nat → Lp) (m : Nat) (iv : Value) (wr : World) : Prop :=
  ∃ i : Nat, iv = .int .i64 i ∧ i ≤ m ∧ (∃ sv av, IsRI wr w.heap.size sv av (newLs L i) (noRs i) 0 0 ∧ ∀ j, ownR w.heap.size sv av j → w.heap.size ≤ j) ∧ Below w.heap.size w wr
def MadeR (w : World) (ls : List Ln) (Rs : List (List Int)) (e : Ending) (w' : World) : Prop := ∃ q sv av, e = .returned (.pointer (some ⟨q, 0, none⟩)) ∧ IsRI w' q sv av ls Rs 0 0 ∧ (∀ j, ownR q sv av j → w.heap.size ≤ j) ∧ Below w.heap.size w w'
theorem infoPl : (Try.prog.info? 57).map (fun i => (i.zero, i.size, i.bytes)) = some (some (.pointer none), 1, 8) := by kernel_rfl
set_option maxRecDepth 100000 in
set_option maxHeartbeats 8000000 in
theorem rnew13_any (w : World) (A : Option Addr) (n cap : Nat) (L : Nat → Lp) (hA : Hid (Lns w A n L)) (hL : Hid (∀ i, i < n → (L i).ok)) (n1 : 1 ≤ n) (n16 : n ≤ 16) :
    Calls Try.prog 19 #[.slice A n cap] w (MadeR w (newLs L n) (noRs n)) := by
  go_enter Try.func19, Try.ntmps19
  go_wp2_with fail
  go_loopw [4] (fun iv wr => Hid (RelRN w L n iv wr)) (fun iv _ => n - (intOf iv).toNat)
  case atStart =>
    refine ⟨0, rfl, by omega, ⟨.slice none 0 0, [], ⟨Blk.new w _ _, Slc.nil _ _ _, rfl, rfl, fun i a n R h => (by simp at h), List.nodup_nil, List.nodup_nil, List.nodup_nil, fun i j a b k h => (by simp at h)⟩, fun j h => h.elim (fun e => Nat.le_of_eq e.symm) (fun e => e.elim (fun e => by cases e) (fun ⟨a, h, _⟩ => (by simp at h)))⟩, (Below.refl _ _).alloc (Nat.le_refl _) _⟩
  case round =>
    obtain ⟨i, rfl, hi, ⟨sv, av, hk, hown⟩, hb⟩ := hrel
    have HK := Lib.hid hk
    have HOWN := Lib.hid hown
    have HB := Lib.hid hb
    have hlen : av.length = i := by rw [hk.len, newLs_length]
    have z0 : wr.cell? ⟨w.heap.size, 0, none⟩ = some sv := hk.blk.cell 0
    have y0 : wr.frozen? ⟨w.heap.size, 0, none⟩ = false := hk.blk.free 0
    have hql := hk.blk.lt
    by_cases hin : i < n
    · have hi2 : (i : Int) < n := by omega
      obtain ⟨ab, ao, rfl, hlt, c0, c1, c2, c3, c4, c5⟩ := hA.out i hin
      have okl := hL.out i hin
      have qq := fun j => hb.cell (p := ⟨ab, j, none⟩) hlt
      have q0 := (qq _).trans c0
      have q1 := (qq _).trans c1
      have q2 := (qq _).trans c2
      have q3 := (qq _).trans c3
      have q4 := (qq _).trans c4
      have q5 := (qq _).trans c5
      have hlt2 := Nat.lt_of_lt_of_le hlt hb.size
      have HN : Hid (newLs L (i + 1) = newLs L i ++ [newL (L i)]) := rfl
      have hnl : newL (L i) = ⟨L i, ⟨(L i).c, (L i).h, 0, 0, 0⟩, ⟨(L i).d, (L i).q, (L i).d, 0, 0⟩, 0, 0, false, 0, 0⟩ := rfl
      have HNL := Lib.hid hnl
      have OKL := Lib.hid okl
      have g1 : IntKind.i64.wrap ((i : Int) + 1) = i + 1 := IntWalk.i64_in _ (by omega)
      clear c0 c1 c2 c3 c4 c5 qq hb hnl okl hown
      generalize L i = l at *
      obtain ⟨lc, lh, ld, lq, lsx, lz⟩ := l
      simp only at *
      obtain ⟨As, cs, hsv, -⟩ := HK.out.row.shape
      subst hsv
      obtain ⟨ia, hia, hza, hza1, hza2⟩ := info_parts infoPl
      have S0 : Hid (SB (.slice As av.length cs) wr wr.drew) := (Only.refl _ _).drew
      have B0 : Hid (Below wr.heap.size wr wr.drew) := (Below.refl _ _).drew
      have LC : Hid (∀ W, SB (.slice As av.length cs) wr W → W.cell? ⟨ab, ao + i * 6, none⟩ = some (.int .i64 lc) ∧ W.cell? ⟨ab, ao + i * 6 + 1, none⟩ = some (.int .u64 lh) ∧ W.cell? ⟨ab, ao + i * 6 + 2, none⟩ = some (.int .i64 ld) ∧ W.cell? ⟨ab, ao + i * 6 + 3, none⟩ = some (.int .u64 lq) ∧ W.cell? ⟨ab, ao + i * 6 + 4, none⟩ = some (.int .i64 lsx) ∧ W.cell? ⟨ab, ao + i * 6 + 5, none⟩ = some (.int .u64 lz) ∧ ab < W.heap.size) := fun W s => by
        have hab : ¬ (Value.slice As av.length cs).ownBlock = some ab := fun e => by have := HOWN.out ab (.inr (.inl e)); omega
        have e := fun j => Only.cellE s (p := ⟨ab, j, none⟩) hlt2 hab
        exact ⟨(e _).trans q0, (e _).trans q1, (e _).trans q2, (e _).trans q3, (e _).trans q4, (e _).trans q5, Nat.lt_of_lt_of_le hlt2 s.size⟩
      have QC : Hid (∀ W, SB (.slice As av.length cs) wr W → W.cell? ⟨w.heap.size, 0, none⟩ = some (.slice As av.length cs) ∧ w.heap.size < W.heap.size) := fun W s => by
        have q := HK.out.blk.only s (fun e => HK.out.row.ne HK.out.blk (by decide) e)
        exact ⟨q.cell 0, q.lt⟩
      have hal : av.length ≤ 16 := by omega
      have NK := fun W => Lib.hid (rnew12_k ld lq W)
      clear z0 y0 q0 q1 q2 q3 q4 q5 hlt hql hlen
      go_wp2_with fail
      generalize hsv2 : Value.slice As av.length cs = sv at *
      refine wp_region_zone (SB sv wr) (fun j => decide (j < 38)) (by kernel_rfl) ?_
      refine wpAnyZ_move (i := 0) (v := ?_) rfl (by kernel_rfl) (by kernel_rfl) (by kernel_rfl) (fun _ _ _ h => h) (Or.inl ⟨by rfl, ?_⟩) ?_
      (rotate_left 1; (focus (intro W; go_simp; try with_reducible rfl)))
      try simp only [Act.put, List.setIfInBounds_toArray, List.set_cons_zero, List.set_cons_succ, List.getElem_toArray, List.getElem_cons_succ, List.getElem_cons_zero]
      refine wpAnyZ_move (i := 1) (v := ?_) rfl (by kernel_rfl) (by kernel_rfl) (by kernel_rfl) (fun _ _ _ h => h) (Or.inl ⟨by rfl, ?_⟩) ?_
      (rotate_left 1; (focus (intro W; go_simp; try with_reducible rfl)))
      try simp only [Act.put, List.setIfInBounds_toArray, List.set_cons_zero, List.set_cons_succ, List.getElem_toArray, List.getElem_cons_succ, List.getElem_cons_zero]
      refine wpAnyZ_move (i := 2) (v := ?_) rfl (by kernel_rfl) (by kernel_rfl) (by kernel_rfl) (fun _ _ _ h => h) (Or.inl ⟨by rfl, ?_⟩) ?_
      (rotate_left 1; (focus (intro W; go_simp; try with_reducible rfl)))
      try simp only [Act.put, List.setIfInBounds_toArray, List.set_cons_zero, List.set_cons_succ, List.getElem_toArray, List.getElem_cons_succ, List.getElem_cons_zero]
      refine wpAnyZ_move (i := 3) (v := ?_) rfl (by kernel_rfl) (by kernel_rfl) (by kernel_rfl) (fun _ _ _ h => h) (Or.inl ⟨by rfl, ?_⟩) ?_
      (rotate_left 1; (focus (intro W; go_simp; try with_reducible rfl)))
      try simp only [Act.put, List.setIfInBounds_toArray, List.set_cons_zero, List.set_cons_succ, List.getElem_toArray, List.getElem_cons_succ, List.getElem_cons_zero]
      refine wpAnyZ_take (i := 4) (v := ?_) rfl (by kernel_rfl) (by kernel_rfl) (by kernel_rfl) (by kernel_rfl) (fun _ _ _ h => h) (Or.inl ⟨by rfl, ?_⟩) S0.out ?_
      (rotate_left 1; (focus (intro W hS; obtain ⟨q0, ql⟩ := QC.out W hS; go_simp; try with_reducible rfl)))
      try simp only [Act.put, List.setIfInBounds_toArray, List.set_cons_zero, List.set_cons_succ, List.getElem_toArray, List.getElem_cons_succ, List.getElem_cons_zero]
      refine wpAnyZ_move (i := 5) (v := ?_) rfl (by kernel_rfl) (by kernel_rfl) (by kernel_rfl) (fun _ _ _ h => h) (Or.inl ⟨by rfl, ?_⟩) ?_
      (rotate_left 1; (focus (intro W; go_simp; try with_reducible rfl)))
      try simp only [Act.put, List.setIfInBounds_toArray, List.set_cons_zero, List.set_cons_succ, List.getElem_toArray, List.getElem_cons_succ, List.getElem_cons_zero]
      refine wpAnyZ_move (i := 6) (v := ?_) rfl (by kernel_rfl) (by kernel_rfl) (by kernel_rfl) (fun _ _ _ h => h) (Or.inl ⟨by rfl, ?_⟩) ?_
      (rotate_left 1; (focus (intro W; go_simp; try with_reducible rfl)))
      try simp only [Act.put, List.setIfInBounds_toArray, List.set_cons_zero, List.set_cons_succ, List.getElem_toArray, List.getElem_cons_succ, List.getElem_cons_zero]
      refine wpAnyZ_move (i := 7) (v := ?_) rfl (by kernel_rfl) (by kernel_rfl) (by kernel_rfl) (fun _ _ _ h => h) (Or.inl ⟨by rfl, ?_⟩) ?_
      (rotate_left 1; (focus (intro W; go_simp; try with_reducible rfl)))
      try simp only [Act.put, List.setIfInBounds_toArray, List.set_cons_zero, List.set_cons_succ, List.getElem_toArray, List.getElem_cons_succ, List.getElem_cons_zero]
      refine wpAnyZ_take (i := 8) (v := ?_) rfl (by kernel_rfl) (by kernel_rfl) (by kernel_rfl) (by kernel_rfl) (fun _ _ _ h => h) (Or.inl ⟨by rfl, ?_⟩) S0.out ?_
      (rotate_left 1; (focus (intro W hS; obtain ⟨q0, q1, q2, q3, q4, q5, ql⟩ := LC.out W hS; go_simp; try with_reducible rfl)))
      try simp only [Act.put, List.setIfInBounds_toArray, List.set_cons_zero, List.set_cons_succ, List.getElem_toArray, List.getElem_cons_succ, List.getElem_cons_zero]
      refine wpAnyZ_move (i := 9) (v := ?_) rfl (by kernel_rfl) (by kernel_rfl) (by kernel_rfl) (fun _ _ _ h => h) (Or.inl ⟨by rfl, ?_⟩) ?_
      (rotate_left 1; (focus (intro W; go_simp; try with_reducible rfl)))
      try simp only [Act.put, List.setIfInBounds_toArray, List.set_cons_zero, List.set_cons_succ, List.getElem_toArray, List.getElem_cons_succ, List.getElem_cons_zero]
      refine wpAnyZ_move (i := 10) (v := ?_) rfl (by kernel_rfl) (by kernel_rfl) (by kernel_rfl) (fun _ _ _ h => h) (Or.inl ⟨by rfl, ?_⟩) ?_
      (rotate_left 1; (focus (intro W; go_simp; try with_reducible rfl)))
      try simp only [Act.put, List.setIfInBounds_toArray, List.set_cons_zero, List.set_cons_succ, List.getElem_toArray, List.getElem_cons_succ, List.getElem_cons_zero]
      refine wpAnyZ_move (i := 11) (v := ?_) rfl (by kernel_rfl) (by kernel_rfl) (by kernel_rfl) (fun _ _ _ h => h) (Or.inl ⟨by rfl, ?_⟩) ?_
      (rotate_left 1; (focus (intro W; go_simp; try with_reducible rfl)))
      try simp only [Act.put, List.setIfInBounds_toArray, List.set_cons_zero, List.set_cons_succ, List.getElem_toArray, List.getElem_cons_succ, List.getElem_cons_zero]
      refine wpAnyZ_move (i := 12) (v := ?_) rfl (by kernel_rfl) (by kernel_rfl) (by kernel_rfl) (fun _ _ _ h => h) (Or.inl ⟨by rfl, ?_⟩) ?_
      (rotate_left 1; (focus (intro W; go_simp; try with_reducible rfl)))
      try simp only [Act.put, List.setIfInBounds_toArray, List.set_cons_zero, List.set_cons_succ, List.getElem_toArray, List.getElem_cons_succ, List.getElem_cons_zero]
      refine wpAnyZ_take (i := 13) (v := ?_) rfl (by kernel_rfl) (by kernel_rfl) (by kernel_rfl) (by kernel_rfl) (fun _ _ _ h => h) (Or.inl ⟨by rfl, ?_⟩) S0.out ?_
      (rotate_left 1; (focus (intro W hS; obtain ⟨q0, q1, q2, q3, q4, q5, ql⟩ := LC.out W hS; go_simp; try with_reducible rfl)))
      try simp only [Act.put, List.setIfInBounds_toArray, List.set_cons_zero, List.set_cons_succ, List.getElem_toArray, List.getElem_cons_succ, List.getElem_cons_zero]
      refine wpAnyZ_move (i := 14) (v := ?_) rfl (by kernel_rfl) (by kernel_rfl) (by kernel_rfl) (fun _ _ _ h => h) (Or.inl ⟨by rfl, ?_⟩) ?_
      (rotate_left 1; (focus (intro W; go_simp; try with_reducible rfl)))
      try simp only [Act.put, List.setIfInBounds_toArray, List.set_cons_zero, List.set_cons_succ, List.getElem_toArray, List.getElem_cons_succ, List.getElem_cons_zero]
      refine wpAnyZ_move (i := 15) (v := ?_) rfl (by kernel_rfl) (by kernel_rfl) (by kernel_rfl) (fun _ _ _ h => h) (Or.inl ⟨by rfl, ?_⟩) ?_
      (rotate_left 1; (focus (intro W; go_simp; try with_reducible rfl)))
      try simp only [Act.put, List.setIfInBounds_toArray, List.set_cons_zero, List.set_cons_succ, List.getElem_toArray, List.getElem_cons_succ, List.getElem_cons_zero]
      refine wpAnyZ_move (i := 16) (v := ?_) rfl (by kernel_rfl) (by kernel_rfl) (by kernel_rfl) (fun _ _ _ h => h) (Or.inl ⟨by rfl, ?_⟩) ?_
      (rotate_left 1; (focus (intro W; go_simp; try with_reducible rfl)))
      try simp only [Act.put, List.setIfInBounds_toArray, List.set_cons_zero, List.set_cons_succ, List.getElem_toArray, List.getElem_cons_succ, List.getElem_cons_zero]
      refine wpAnyZ_move (i := 17) (v := ?_) rfl (by kernel_rfl) (by kernel_rfl) (by kernel_rfl) (fun _ _ _ h => h) (Or.inl ⟨by rfl, ?_⟩) ?_
      (rotate_left 1; (focus (intro W; go_simp; try with_reducible rfl)))
      try simp only [Act.put, List.setIfInBounds_toArray, List.set_cons_zero, List.set_cons_succ, List.getElem_toArray, List.getElem_cons_succ, List.getElem_cons_zero]
      refine wpAnyZ_take (i := 18) (v := ?_) rfl (by kernel_rfl) (by kernel_rfl) (by kernel_rfl) (by kernel_rfl) (fun _ _ _ h => h) (Or.inl ⟨by rfl, ?_⟩) S0.out ?_
      (rotate_left 1; (focus (intro W hS; obtain ⟨q0, q1, q2, q3, q4, q5, ql⟩ := LC.out W hS; go_simp; try with_reducible rfl)))
      try simp only [Act.put, List.setIfInBounds_toArray, List.set_cons_zero, List.set_cons_succ, List.getElem_toArray, List.getElem_cons_succ, List.getElem_cons_zero]
      refine wpAnyZ_move (i := 19) (v := ?_) rfl (by kernel_rfl) (by kernel_rfl) (by kernel_rfl) (fun _ _ _ h => h) (Or.inl ⟨by rfl, ?_⟩) ?_
      (rotate_left 1; (focus (intro W; go_simp; try with_reducible rfl)))
      try simp only [Act.put, List.setIfInBounds_toArray, List.set_cons_zero, List.set_cons_succ, List.getElem_toArray, List.getElem_cons_succ, List.getElem_cons_zero]
      refine wpAnyZ_move (i := 21) (v := ?_) rfl (by kernel_rfl) (by kernel_rfl) (by kernel_rfl) (fun _ _ _ h => h) (Or.inl ⟨by rfl, ?_⟩) ?_
      (rotate_left 1; (focus (intro W; go_simp; try with_reducible rfl)))
      try simp only [Act.put, List.setIfInBounds_toArray, List.set_cons_zero, List.set_cons_succ, List.getElem_toArray, List.getElem_cons_succ, List.getElem_cons_zero]
      refine wpAnyZ_move (i := 22) (v := ?_) rfl (by kernel_rfl) (by kernel_rfl) (by kernel_rfl) (fun _ _ _ h => h) (Or.inl ⟨by rfl, ?_⟩) ?_
      (rotate_left 1; (focus (intro W; go_simp; try with_reducible rfl)))
      try simp only [Act.put, List.setIfInBounds_toArray, List.set_cons_zero, List.set_cons_succ, List.getElem_toArray, List.getElem_cons_succ, List.getElem_cons_zero]
      refine wpAnyZ_move (i := 23) (v := ?_) rfl (by kernel_rfl) (by kernel_rfl) (by kernel_rfl) (fun _ _ _ h => h) (Or.inl ⟨by rfl, ?_⟩) ?_
      (rotate_left 1; (focus (intro W; go_simp; try with_reducible rfl)))
      try simp only [Act.put, List.setIfInBounds_toArray, List.set_cons_zero, List.set_cons_succ, List.getElem_toArray, List.getElem_cons_succ, List.getElem_cons_zero]
      refine wpAnyZ_move (i := 24) (v := ?_) rfl (by kernel_rfl) (by kernel_rfl) (by kernel_rfl) (fun _ _ _ h => h) (Or.inl ⟨by rfl, ?_⟩) ?_
      (rotate_left 1; (focus (intro W; go_simp; try with_reducible rfl)))
      try simp only [Act.put, List.setIfInBounds_toArray, List.set_cons_zero, List.set_cons_succ, List.getElem_toArray, List.getElem_cons_succ, List.getElem_cons_zero]
      refine wpAnyZ_take (i := 25) (v := ?_) rfl (by kernel_rfl) (by kernel_rfl) (by kernel_rfl) (by kernel_rfl) (fun _ _ _ h => h) (Or.inl ⟨by rfl, ?_⟩) S0.out ?_
      (rotate_left 1; (focus (intro W hS; obtain ⟨q0, q1, q2, q3, q4, q5, ql⟩ := LC.out W hS; go_simp; try with_reducible rfl)))
      try simp only [Act.put, List.setIfInBounds_toArray, List.set_cons_zero, List.set_cons_succ, List.getElem_toArray, List.getElem_cons_succ, List.getElem_cons_zero]
      refine wpAnyZ_move (i := 26) (v := ?_) rfl (by kernel_rfl) (by kernel_rfl) (by kernel_rfl) (fun _ _ _ h => h) (Or.inl ⟨by rfl, ?_⟩) ?_
      (rotate_left 1; (focus (intro W; go_simp; try with_reducible rfl)))
      try simp only [Act.put, List.setIfInBounds_toArray, List.set_cons_zero, List.set_cons_succ, List.getElem_toArray, List.getElem_cons_succ, List.getElem_cons_zero]
      refine wpAnyZ_move (i := 27) (v := ?_) rfl (by kernel_rfl) (by kernel_rfl) (by kernel_rfl) (fun _ _ _ h => h) (Or.inl ⟨by rfl, ?_⟩) ?_
      (rotate_left 1; (focus (intro W; go_simp; try with_reducible rfl)))
      try simp only [Act.put, List.setIfInBounds_toArray, List.set_cons_zero, List.set_cons_succ, List.getElem_toArray, List.getElem_cons_succ, List.getElem_cons_zero]
      refine wpAnyZ_move (i := 28) (v := ?_) rfl (by kernel_rfl) (by kernel_rfl) (by kernel_rfl) (fun _ _ _ h => h) (Or.inl ⟨by rfl, ?_⟩) ?_
      (rotate_left 1; (focus (intro W; go_simp; try with_reducible rfl)))
      try simp only [Act.put, List.setIfInBounds_toArray, List.set_cons_zero, List.set_cons_succ, List.getElem_toArray, List.getElem_cons_succ, List.getElem_cons_zero]
      refine wpAnyZ_move (i := 29) (v := ?_) rfl (by kernel_rfl) (by kernel_rfl) (by kernel_rfl) (fun _ _ _ h => h) (Or.inl ⟨by rfl, ?_⟩) ?_
      (rotate_left 1; (focus (intro W; go_simp; try with_reducible rfl)))
      try simp only [Act.put, List.setIfInBounds_toArray, List.set_cons_zero, List.set_cons_succ, List.getElem_toArray, List.getElem_cons_succ, List.getElem_cons_zero]
      refine wpAnyZ_take (i := 30) (v := ?_) rfl (by kernel_rfl) (by kernel_rfl) (by kernel_rfl) (by kernel_rfl) (fun _ _ _ h => h) (Or.inl ⟨by rfl, ?_⟩) S0.out ?_
      (rotate_left 1; (focus (intro W hS; obtain ⟨q0, q1, q2, q3, q4, q5, ql⟩ := LC.out W hS; go_simp; try with_reducible rfl)))
      try simp only [Act.put, List.setIfInBounds_toArray, List.set_cons_zero, List.set_cons_succ, List.getElem_toArray, List.getElem_cons_succ, List.getElem_cons_zero]
      subst hsv2
      refine wpAnyZ_two (i := 20) (j := 31) (by kernel_rfl) rfl rfl (fun K hK => ?_) (fun K hK => ?_)
      · go_simp
        refine hK.out _ _ (fun _ hS => Only.alloc hS _) ?_
        clear hK K
        refine forgetZ (F := fun X => Below wr.heap.size wr X ∧ Blk X wr.drew.heap.size 85 [.int .i64 lc, .int .u64 lh, .slice none 0 0, .int .u64 0]) ⟨Below.alloc B0.out (Below.size B0.out) _, Blk.new wr.drew 85 [.int .i64 lc, .int .u64 lh, .slice none 0 0, .int .u64 0]⟩ ?_
        obtain ⟨gB, hgB⟩ : ∃ gB, gB = wr.heap.size := ⟨_, rfl⟩
        have hgw : wr.heap.size ≤ gB := by omega
        rw [← show gB = wr.drew.heap.size from hgB]
        try rw [← hgB]
        rintro W1 ⟨s1, g1b⟩
        have s1 : Below wr.heap.size wr W1 := by rw [← hgB]; exact s1
        clear hgB
        have SW1 := Lib.hid s1
        have GB1 := Lib.hid g1b
        clear s1 g1b
        refine wpAnyZ_one (i := 31) (by kernel_rfl) rfl (fun K hK => ?_)
        go_simp
        go_wp2_with (go_at_call 38; (with_reducible refine Calls.mono (NK _).out ?_); rintro e W2 ⟨kB, rfl, hkw, kb, b2⟩; have SW2 := Lib.hid (Below.next SW1.out b2); have GB2 := Lib.hid (GB1.out.below b2 GB1.out.lt); have KB2 := Lib.hid kb; have hkw : wr.heap.size ≤ kB := Nat.le_trans SW1.out.size hkw; have ob2 := Only.of_below (F := fun j => (Value.slice As av.length cs).ownBlock = some j) b2; have OB2 := Lib.hid ob2; clear kb b2 ob2)
        refine hK.out _ _ (fun _ hS => Only.trans hS OB2.out (fun _ _ h => h)) ?_
        clear hK K
        refine wpAnyZ_move (i := 32) (v := ?_) rfl (by kernel_rfl) (by kernel_rfl) (by kernel_rfl) (fun _ _ _ h => h) (Or.inl ⟨by rfl, ?_⟩) ?_
        (rotate_left 1; (focus (intro W; go_simp; try with_reducible rfl)))
        try simp only [Act.put, List.setIfInBounds_toArray, List.set_cons_zero, List.set_cons_succ, List.getElem_toArray, List.getElem_cons_succ, List.getElem_cons_zero]
        refine wpAnyZ_one (i := 33) (by kernel_rfl) rfl (fun K hK => ?_)
        go_simp
        refine hK.out _ _ (fun _ hS => Only.alloc hS _) ?_
        clear hK K
        refine forgetZ (F := fun X => Below wr.heap.size wr X ∧ Blk X gB 85 [.int .i64 lc, .int .u64 lh, .slice none 0 0, .int .u64 0] ∧ IsKR X kB ⟨ld, lq, ld, 0, 0⟩ ∧ Blk X W2.heap.size 56 (rlCells ⟨W2.heap.size, gB, kB, .slice none 0 0, .slice none 0 0⟩ (newL ⟨lc, lh, ld, lq, lsx, lz⟩)))
          ⟨Below.alloc SW2.out (Below.size SW2.out) _, GB2.out.alloc _, IsKR.alloc KB2.out _, Blk.new W2 56 (rlCells ⟨W2.heap.size, gB, kB, .slice none 0 0, .slice none 0 0⟩ (newL ⟨lc, lh, ld, lq, lsx, lz⟩))⟩ ?_
        obtain ⟨xB, hxB⟩ : ∃ xB, xB = W2.heap.size := ⟨_, rfl⟩
        have hxw : wr.heap.size ≤ xB := by rw [hxB]; exact SW2.out.size
        rw [← hxB]
        clear hxB
        rintro W3 ⟨s3, g3, k3, x3⟩
        have SW3 := Lib.hid s3
        have GB3 := Lib.hid g3
        have KB3 := Lib.hid k3
        have XB3 := Lib.hid x3
        clear s3 g3 k3 x3
        refine wpAnyZ_one (i := 34) (by kernel_rfl) rfl (fun K hK => ?_)
        go_simp
        refine hK.out _ _ (fun _ hS => Only.alloc hS _) ?_
        clear hK K
        refine forgetZ (F := fun X => Below wr.heap.size wr X ∧ Blk X gB 85 [.int .i64 lc, .int .u64 lh, .slice none 0 0, .int .u64 0] ∧ IsKR X kB ⟨ld, lq, ld, 0, 0⟩ ∧ Blk X xB 56 (rlCells ⟨xB, gB, kB, .slice none 0 0, .slice none 0 0⟩ (newL ⟨lc, lh, ld, lq, lsx, lz⟩)) ∧ Blk X W3.heap.size 57 [.pointer (some ⟨xB, 0, none⟩)])
          ⟨Below.alloc SW3.out (Below.size SW3.out) _, GB3.out.alloc _, IsKR.alloc KB3.out _, XB3.out.alloc _, Blk.new W3 57 [.pointer (some ⟨xB, 0, none⟩)]⟩ ?_
        rintro W4 ⟨s4, g4, k4, x4, n4⟩
        have SW4 := Lib.hid s4
        have GB4 := Lib.hid g4
        have KB4 := Lib.hid k4
        have XB4 := Lib.hid x4
        have NB4 := Lib.hid n4
        have SL4 : Hid (Slc W4 57 1 (.slice As av.length cs) av.length (av.map fun a => .pointer (some ⟨a.x, 0, none⟩))) := HK.out.row.below s4 (fun j e => HK.out.row.lt e)
        have SR4 := Lib.hid (Src.block n4 (size := 1) (m := 1) rfl)
        have ngb : ∀ j, (Value.slice As av.length cs).ownBlock = some j → j ≠ gB ∧ j ≠ kB ∧ j ≠ xB := fun j e => ⟨fun f => SL4.out.ne g4 (by decide) (by rw [e, f]), fun f => SL4.out.ne k4 (by decide) (by rw [e, f]), fun f => SL4.out.ne x4 (by decide) (by rw [e, f])⟩
        have NGB := Lib.hid ngb
        clear s4 g4 k4 x4 n4 ngb
        refine wpAnyZ_one (i := 35) (by kernel_rfl) rfl (fun K hK => ?_)
        refine step_append_slc _ rfl (.tmp 17) (.tmp 47) _ rfl 57 ia _ 1 8 Try.underlying58 hia hza hza1 hza2 rfl (by omega) (.slice As av.length cs) av.length (av.map fun a => .pointer (some ⟨a.x, 0, none⟩)) rfl SL4.out (some ⟨W3.heap.size, 0, none⟩) 1 1 [.pointer (some ⟨xB, 0, none⟩)] rfl SR4.out (by simp [Value.oneCell']) (by omega) (by simp only [maxLen]; omega) ?_
        intro v5 W5 hs5 ho5 hat5
        obtain ⟨A5, c5, e5, -⟩ := hs5.shape
        subst e5
        have s5 : SB (.slice As av.length cs) wr W5 := Only.trans (Only.of_below SW4.out) ho5 (fun _ _ h => h)
        have SW5 := Lib.hid s5
        have q5b := HK.out.blk.only s5 (fun e => HK.out.row.ne HK.out.blk (by decide) e)
        have z5 : W5.cell? ⟨w.heap.size, 0, none⟩ = some (.slice As av.length cs) := q5b.cell 0
        have y5 : W5.frozen? ⟨w.heap.size, 0, none⟩ = false := q5b.free 0
        have hql5 := q5b.lt
        have GB5 := Lib.hid (GB4.out.only ho5 (fun e => (NGB.out _ e).1 rfl))
        have KB5 := Lib.hid (Blk.only KB4.out ho5 (fun e => (NGB.out _ e).2.1 rfl))
        have XB5 := Lib.hid (XB4.out.only ho5 (fun e => (NGB.out _ e).2.2 rfl))
        have HS5 := Lib.hid hs5
        have AT5 : Hid (∀ j, (Value.slice A5 (av.length + 1) c5).ownBlock = some j → (Value.slice As av.length cs).ownBlock = some j ∨ wr.heap.size ≤ j) := fun j e => by
          rcases hat5 with h | h
          · exact .inl (h.symm.trans e)
          · right
            have h2 := h.symm.trans e
            injection h2 with h2
            have := SW4.out.size
            omega
        clear hs5 ho5 hat5 q5b s5
        try go_simp
        refine hK.out _ _ (fun _ _ => SW5.out) ?_
        clear hK K
        refine wpAnyZ_move (i := 36) (v := ?_) rfl (by kernel_rfl) (by kernel_rfl) (by kernel_rfl) (fun _ _ _ h => h) (Or.inl ⟨by rfl, ?_⟩) ?_
        (rotate_left 1; (focus (intro W; go_simp; try with_reducible rfl)))
        try simp only [Act.put, List.setIfInBounds_toArray, List.set_cons_zero, List.set_cons_succ, List.getElem_toArray, List.getElem_cons_succ, List.getElem_cons_zero]
        refine wpAnyZ_move (i := 37) (v := ?_) rfl (by kernel_rfl) (by kernel_rfl) (by kernel_rfl) (fun _ _ _ h => h) (Or.inl ⟨by rfl, ?_⟩) ?_
        (rotate_left 1; (focus (intro W; go_simp; try with_reducible rfl)))
        try simp only [Act.put, List.setIfInBounds_toArray, List.set_cons_zero, List.set_cons_succ, List.getElem_toArray, List.getElem_cons_succ, List.getElem_cons_zero]
        refine wpAnyZ_one (i := 38) (by kernel_rfl) rfl (fun K hK => ?_)
        go_simp
        refine hK.out _ _ (fun h => absurd h (by decide)) ?_
        clear hK K
        refine wpAnyZ_done (by kernel_rfl) ?_ _
        go_wp2_with fail
        go_roundw
        case rel =>
          have kl : IsRL W5 ⟨xB, gB, kB, .slice none 0 0, .slice none 0 0⟩ (newL ⟨lc, lh, ld, lq, lsx, lz⟩) [] 0 := ⟨⟨XB5.out, KB5.out⟩, ⟨⟨lc, lh, 0, 0, 0⟩, GE.refl ⟨OKL.out.c0, OKL.out.c1, OKL.out.h0, OKL.out.h1, Int.le_refl 0, by have := OKL.out.c0; show (0 : Int) < lc; simp only at this; omega, Int.le_refl 0, (show (0 : Int) < 4611686018427387904 from by decide), Int.le_refl 0, (show (0 : Int) < 4611686018427387904 from by decide)⟩, [], GB5.out, Slc.nil _ _ _, rfl, fun x h => by simp at h⟩, Slc.nil _ _ _, fun i h => by cases h⟩
          have hsn := IsRI.snoc HK.out SW5.out HS5.out (fun j e f => by
            subst f
            rcases AT5.out _ e with h | h
            · exact HK.out.row.ne HK.out.blk (by decide) h
            · have := HK.out.blk.lt; omega) hxw hgw hkw rfl rfl kl
          refine ⟨i + 1, by go_num, by omega, ⟨_, _, by rw [HN.out]; rw [show noRs (i + 1) = noRs i ++ [[]] by unfold noRs; rw [List.replicate_succ']]; exact hsn, fun j hj => ?_⟩, ?_⟩
          · have hw := HB.out.size
            rcases hj with e | e | ⟨b, hb, e⟩
            · omega
            · rcases AT5.out j e with h | h
              · exact HOWN.out j (.inr (.inl h))
              · omega
            · rcases List.mem_append.1 hb with hb | hb
              · exact HOWN.out j (.inr (.inr ⟨b, hb, e⟩))
              · simp at hb
                subst hb
                rcases e with e | e | e | e | e
                · simp only at e; omega
                · simp only at e; omega
                · simp only at e; omega
                · cases e
                · cases e
          · exact Below.setCell (Below.onlyF HB.out SW5.out (fun j e => HOWN.out j (.inr (.inl e)))) (p := ⟨w.heap.size, 0, none⟩) (Nat.le_refl _) _
        case measure => simp [intOf]; omega
      · go_simp
        go_wp2_with (go_at_call 38; (with_reducible refine Calls.mono (NK _).out ?_); rintro e W1 ⟨kB, rfl, hkw, kb, b2⟩; have SW1 := Lib.hid (Below.next (Below.refl wr.heap.size wr).drew b2); have KB1 := Lib.hid kb; have hkw : wr.heap.size ≤ kB := hkw; have ob2 := Only.of_below (F := fun j => (Value.slice As av.length cs).ownBlock = some j) b2; have OB2 := Lib.hid ob2; clear kb b2 ob2)
        refine hK.out _ _ (fun _ hS => Only.trans hS OB2.out (fun _ _ h => h)) ?_
        clear hK K
        refine wpAnyZ_one (i := 20) (by kernel_rfl) rfl (fun K hK => ?_)
        go_simp
        refine hK.out _ _ (fun _ hS => Only.alloc hS _) ?_
        clear hK K
        refine forgetZ (F := fun X => Below wr.heap.size wr X ∧ IsKR X kB ⟨ld, lq, ld, 0, 0⟩ ∧ Blk X W1.heap.size 85 [.int .i64 lc, .int .u64 lh, .slice none 0 0, .int .u64 0]) ⟨Below.alloc SW1.out (Below.size SW1.out) _, IsKR.alloc KB1.out _, Blk.new W1 85 [.int .i64 lc, .int .u64 lh, .slice none 0 0, .int .u64 0]⟩ ?_
        obtain ⟨gB, hgB⟩ : ∃ gB, gB = W1.heap.size := ⟨_, rfl⟩
        have hgw : wr.heap.size ≤ gB := by rw [hgB]; exact SW1.out.size
        rw [← hgB]
        clear hgB
        rintro W2 ⟨s2, k2, g2b⟩
        have SW2 := Lib.hid s2
        have KB2 := Lib.hid k2
        have GB2 := Lib.hid g2b
        clear s2 k2 g2b
        refine wpAnyZ_move (i := 32) (v := ?_) rfl (by kernel_rfl) (by kernel_rfl) (by kernel_rfl) (fun _ _ _ h => h) (Or.inl ⟨by rfl, ?_⟩) ?_
        (rotate_left 1; (focus (intro W; go_simp; try with_reducible rfl)))
        try simp only [Act.put, List.setIfInBounds_toArray, List.set_cons_zero, List.set_cons_succ, List.getElem_toArray, List.getElem_cons_succ, List.getElem_cons_zero]
        refine wpAnyZ_one (i := 33) (by kernel_rfl) rfl (fun K hK => ?_)
        go_simp
        refine hK.out _ _ (fun _ hS => Only.alloc hS _) ?_
        clear hK K
        refine forgetZ (F := fun X => Below wr.heap.size wr X ∧ Blk X gB 85 [.int .i64 lc, .int .u64 lh, .slice none 0 0, .int .u64 0] ∧ IsKR X kB ⟨ld, lq, ld, 0, 0⟩ ∧ Blk X W2.heap.size 56 (rlCells ⟨W2.heap.size, gB, kB, .slice none 0 0, .slice none 0 0⟩ (newL ⟨lc, lh, ld, lq, lsx, lz⟩)))
          ⟨Below.alloc SW2.out (Below.size SW2.out) _, GB2.out.alloc _, IsKR.alloc KB2.out _, Blk.new W2 56 (rlCells ⟨W2.heap.size, gB, kB, .slice none 0 0, .slice none 0 0⟩ (newL ⟨lc, lh, ld, lq, lsx, lz⟩))⟩ ?_
        obtain ⟨xB, hxB⟩ : ∃ xB, xB = W2.heap.size := ⟨_, rfl⟩
        have hxw : wr.heap.size ≤ xB := by rw [hxB]; exact SW2.out.size
        rw [← hxB]
        clear hxB
        rintro W3 ⟨s3, g3, k3, x3⟩
        have SW3 := Lib.hid s3
        have GB3 := Lib.hid g3
        have KB3 := Lib.hid k3
        have XB3 := Lib.hid x3
        clear s3 g3 k3 x3
        refine wpAnyZ_one (i := 34) (by kernel_rfl) rfl (fun K hK => ?_)
        go_simp
        refine hK.out _ _ (fun _ hS => Only.alloc hS _) ?_
        clear hK K
        refine forgetZ (F := fun X => Below wr.heap.size wr X ∧ Blk X gB 85 [.int .i64 lc, .int .u64 lh, .slice none 0 0, .int .u64 0] ∧ IsKR X kB ⟨ld, lq, ld, 0, 0⟩ ∧ Blk X xB 56 (rlCells ⟨xB, gB, kB, .slice none 0 0, .slice none 0 0⟩ (newL ⟨lc, lh, ld, lq, lsx, lz⟩)) ∧ Blk X W3.heap.size 57 [.pointer (some ⟨xB, 0, none⟩)])
          ⟨Below.alloc SW3.out (Below.size SW3.out) _, GB3.out.alloc _, IsKR.alloc KB3.out _, XB3.out.alloc _, Blk.new W3 57 [.pointer (some ⟨xB, 0, none⟩)]⟩ ?_
        rintro W4 ⟨s4, g4, k4, x4, n4⟩
        have SW4 := Lib.hid s4
        have GB4 := Lib.hid g4
        have KB4 := Lib.hid k4
        have XB4 := Lib.hid x4
        have NB4 := Lib.hid n4
        have SL4 : Hid (Slc W4 57 1 (.slice As av.length cs) av.length (av.map fun a => .pointer (some ⟨a.x, 0, none⟩))) := HK.out.row.below s4 (fun j e => HK.out.row.lt e)
        have SR4 := Lib.hid (Src.block n4 (size := 1) (m := 1) rfl)
        have ngb : ∀ j, (Value.slice As av.length cs).ownBlock = some j → j ≠ gB ∧ j ≠ kB ∧ j ≠ xB := fun j e => ⟨fun f => SL4.out.ne g4 (by decide) (by rw [e, f]), fun f => SL4.out.ne k4 (by decide) (by rw [e, f]), fun f => SL4.out.ne x4 (by decide) (by rw [e, f])⟩
        have NGB := Lib.hid ngb
        clear s4 g4 k4 x4 n4 ngb
        refine wpAnyZ_one (i := 35) (by kernel_rfl) rfl (fun K hK => ?_)
        refine step_append_slc _ rfl (.tmp 17) (.tmp 47) _ rfl 57 ia _ 1 8 Try.underlying58 hia hza hza1 hza2 rfl (by omega) (.slice As av.length cs) av.length (av.map fun a => .pointer (some ⟨a.x, 0, none⟩)) rfl SL4.out (some ⟨W3.heap.size, 0, none⟩) 1 1 [.pointer (some ⟨xB, 0, none⟩)] rfl SR4.out (by simp [Value.oneCell']) (by omega) (by simp only [maxLen]; omega) ?_
        intro v5 W5 hs5 ho5 hat5
        obtain ⟨A5, c5, e5, -⟩ := hs5.shape
        subst e5
        have s5 : SB (.slice As av.length cs) wr W5 := Only.trans (Only.of_below SW4.out) ho5 (fun _ _ h => h)
        have SW5 := Lib.hid s5
        have q5b := HK.out.blk.only s5 (fun e => HK.out.row.ne HK.out.blk (by decide) e)
        have z5 : W5.cell? ⟨w.heap.size, 0, none⟩ = some (.slice As av.length cs) := q5b.cell 0
        have y5 : W5.frozen? ⟨w.heap.size, 0, none⟩ = false := q5b.free 0
        have hql5 := q5b.lt
        have GB5 := Lib.hid (GB4.out.only ho5 (fun e => (NGB.out _ e).1 rfl))
        have KB5 := Lib.hid (Blk.only KB4.out ho5 (fun e => (NGB.out _ e).2.1 rfl))
        have XB5 := Lib.hid (XB4.out.only ho5 (fun e => (NGB.out _ e).2.2 rfl))
        have HS5 := Lib.hid hs5
        have AT5 : Hid (∀ j, (Value.slice A5 (av.length + 1) c5).ownBlock = some j → (Value.slice As av.length cs).ownBlock = some j ∨ wr.heap.size ≤ j) := fun j e => by
          rcases hat5 with h | h
          · exact .inl (h.symm.trans e)
          · right
            have h2 := h.symm.trans e
            injection h2 with h2
            have := SW4.out.size
            omega
        clear hs5 ho5 hat5 q5b s5
        try go_simp
        refine hK.out _ _ (fun _ _ => SW5.out) ?_
        clear hK K
        refine wpAnyZ_move (i := 36) (v := ?_) rfl (by kernel_rfl) (by kernel_rfl) (by kernel_rfl) (fun _ _ _ h => h) (Or.inl ⟨by rfl, ?_⟩) ?_
        (rotate_left 1; (focus (intro W; go_simp; try with_reducible rfl)))
        try simp only [Act.put, List.setIfInBounds_toArray, List.set_cons_zero, List.set_cons_succ, List.getElem_toArray, List.getElem_cons_succ, List.getElem_cons_zero]
        refine wpAnyZ_move (i := 37) (v := ?_) rfl (by kernel_rfl) (by kernel_rfl) (by kernel_rfl) (fun _ _ _ h => h) (Or.inl ⟨by rfl, ?_⟩) ?_
        (rotate_left 1; (focus (intro W; go_simp; try with_reducible rfl)))
        try simp only [Act.put, List.setIfInBounds_toArray, List.set_cons_zero, List.set_cons_succ, List.getElem_toArray, List.getElem_cons_succ, List.getElem_cons_zero]
        refine wpAnyZ_one (i := 38) (by kernel_rfl) rfl (fun K hK => ?_)
        go_simp
        refine hK.out _ _ (fun h => absurd h (by decide)) ?_
        clear hK K
        refine wpAnyZ_done (by kernel_rfl) ?_ _
        go_wp2_with fail
        go_roundw
        case rel =>
          have kl : IsRL W5 ⟨xB, gB, kB, .slice none 0 0, .slice none 0 0⟩ (newL ⟨lc, lh, ld, lq, lsx, lz⟩) [] 0 := ⟨⟨XB5.out, KB5.out⟩, ⟨⟨lc, lh, 0, 0, 0⟩, GE.refl ⟨OKL.out.c0, OKL.out.c1, OKL.out.h0, OKL.out.h1, Int.le_refl 0, by have := OKL.out.c0; show (0 : Int) < lc; simp only at this; omega, Int.le_refl 0, (show (0 : Int) < 4611686018427387904 from by decide), Int.le_refl 0, (show (0 : Int) < 4611686018427387904 from by decide)⟩, [], GB5.out, Slc.nil _ _ _, rfl, fun x h => by simp at h⟩, Slc.nil _ _ _, fun i h => by cases h⟩
          have hsn := IsRI.snoc HK.out SW5.out HS5.out (fun j e f => by
            subst f
            rcases AT5.out _ e with h | h
            · exact HK.out.row.ne HK.out.blk (by decide) h
            · have := HK.out.blk.lt; omega) hxw hgw hkw rfl rfl kl
          refine ⟨i + 1, by go_num, by omega, ⟨_, _, by rw [HN.out]; rw [show noRs (i + 1) = noRs i ++ [[]] by unfold noRs; rw [List.replicate_succ']]; exact hsn, fun j hj => ?_⟩, ?_⟩
          · have hw := HB.out.size
            rcases hj with e | e | ⟨b, hb, e⟩
            · omega
            · rcases AT5.out j e with h | h
              · exact HOWN.out j (.inr (.inl h))
              · omega
            · rcases List.mem_append.1 hb with hb | hb
              · exact HOWN.out j (.inr (.inr ⟨b, hb, e⟩))
              · simp at hb
                subst hb
                rcases e with e | e | e | e | e
                · simp only at e; omega
                · simp only at e; omega
                · simp only at e; omega
                · cases e
                · cases e
          · exact Below.setCell (Below.onlyF HB.out SW5.out (fun j e => HOWN.out j (.inr (.inl e)))) (p := ⟨w.heap.size, 0, none⟩) (Nat.le_refl _) _
        case measure => simp [intOf]; omega
    · obtain rfl : i = n := by omega
      have hi2 : ¬ (i : Int) < i := by omega
      clear hk hown hb
      go_wp2_with fail
      go_ret
      exact ⟨w.heap.size, sv, av, rfl, HK.out, HOWN.out, HB.out⟩
end Go.Proofs.Ytbdhmjlbogjkoaa
