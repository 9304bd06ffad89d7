/- Layer 6 (bus): a new bus, of masters that may be. -/
import Derived.Test.YtbfhohcimomphaaBusMay
import Derived.Test.YtbfhohcimomphaaRZone
namespace Go.Proofs.Ytbfhohcimomphaa
open Go.RowKit
set_option linter.unusedVariables false
set_option linter.unusedSimpArgs false
/-- What stands at the loads of the round's last region. -/
def S6 (p g : Nat) (v u : Value) (m : Mp) (W : World) : Prop :=
  W.cell? ⟨p, 0, none⟩ = some v ∧ W.cell? ⟨p, 1, none⟩ = some u ∧ W.cell? ⟨g, 0, none⟩ = some (.int .i64 m.q) ∧ W.cell? ⟨g, 1, none⟩ = some (.int .i64 m.u) ∧ W.cell? ⟨g, 2, none⟩ = some (.int .u64 m.b) ∧ W.cell? ⟨g, 3, none⟩ = some (.int .u64 m.p)
theorem S6.drew {p g : Nat} {v u : Value} {m : Mp} {W : World} (h : S6 p g v u m W) : S6 p g v u m W.drew := h
theorem S6.alloc {p g : Nat} {v u : Value} {m : Mp} {W : World} (h : S6 p g v u m W) (o : Obj) : S6 p g v u m (W.alloc o) := by
  have k : ∀ (a : Addr) (x : Value), W.cell? a = some x → (W.alloc o).cell? a = some x := fun a x e => (World.cell?_alloc_lt _ _ _ (World.block_lt_of_cell? W a e)).trans e
  exact ⟨k _ _ h.1, k _ _ h.2.1, k _ _ h.2.2.1, k _ _ h.2.2.2.1, k _ _ h.2.2.2.2.1, k _ _ h.2.2.2.2.2⟩
set_option maxRecDepth 100000 in
set_option maxHeartbeats 40000000 in
theorem newb_any (w : World) (Aa : Option Addr) (cap : Nat) (L : List Mp) (ph : Int) (hA : Hid (Mps w Aa L)) (hL : Hid (∀ m ∈ L, m.ok)) (n1 : 1 ≤ L.length) (n16 : L.length ≤ 16) (p0 : 0 ≤ ph) (p1 : ph < 4611686018427387904) :
    Calls Try.prog 10 #[.slice Aa L.length cap, .int .u64 ph] w (MadeB w L ph) := by
  have d1 : ((L.length : Int) == 0) = false := beq_eq_false_iff_ne.2 (by omega)
  have d2 : decide (16 < (L.length : Int)) = false := decide_eq_false (by omega)
  have d3 : (L.length == 0) = false := beq_eq_false_iff_ne.2 (by omega)
  have d4 : decide (16 < L.length) = false := decide_eq_false (by omega)
  have TM := fun W => Lib.hid (may_any ph W)
  have d5 : decide (ph < 4611686018427387904) = true := decide_eq_true p1
  have cs0 : ∃ cs : List Value, Hid (cs = [.slice none 0 0, .slice none 0 0] ++ (List.replicate 16 (.int .i64 0)) ++ [.bool false, .int .u64 0, .int .u64 ph, .int .i64 (-1), .int .i64 0]) := ⟨_, rfl⟩
  obtain ⟨cs, CS⟩ := cs0
  obtain ⟨ia, hia, hza, hza1, hza2⟩ := info_parts infoMa
  obtain ⟨it, hit, hzt, hzt1, hzt2⟩ := info_parts infoMt
  go_enter Try.func10, Try.ntmps10
  go_wp2_with fail
  go_loopw [26] (fun iv wr => Hid (RelN1 w L w.heap.size cs iv wr)) (fun iv _ => L.length - (intOf iv).toNat)
  case atStart => exact ⟨0, rfl, by omega, by rw [CS.out]; exact Blk.new w _ _, (Below.refl _ _).alloc (Nat.le_refl _) _⟩
  case round =>
    obtain ⟨i, rfl, hi, hblk, hbel⟩ := hrel
    have BLK := Lib.hid hblk
    have BEL := Lib.hid hbel
    by_cases hil : i < L.length
    · have hi2 : (i : Int) < L.length := by omega
      have hm : L[i]? = some L[i] := List.getElem?_eq_getElem hil
      obtain ⟨ab, ao, rfl, hlt, c0, c1, c2, c3⟩ := hA.out i _ hm
      have okm := hL.out _ (List.mem_of_getElem? hm)
      have q := fun j => hbel.cell (p := ⟨ab, j, none⟩) hlt
      have q0 := (q _).trans c0
      have q1 := (q _).trans c1
      have q2 := (q _).trans c2
      have q3 := (q _).trans c3
      have cm := fun W => mayBu_any L[i] okm.rng W
      rw [mayBu_ok.2 okm] at cm
      have CM := fun W => Lib.hid (cm W)
      clear c0 c1 c2 c3 q cm hblk hbel hm okm
      generalize L[i] = m at *
      go_wp2_with (go_at_call 15; (with_reducible refine Calls.mono (CM _).out ?_); rintro e w1 ⟨rfl, b1⟩; have B1 := Lib.hid (Below.next ((Below.refl wr.heap.size wr).alloc (Nat.le_refl _) _) b1); clear b1)
      go_roundw
      case rel => exact ⟨i + 1, by go_num, by omega, BLK.out.below B1.out BLK.out.lt, Below.next BEL.out B1.out⟩
      case measure => simp [intOf]; omega
    · have hi2 : ¬ (i : Int) < L.length := by omega
      clear hblk hbel
      go_wp2_with (go_at_call 21; (with_reducible refine Calls.mono (TM _).out ?_); rintro e w2 ⟨rfl, rfl⟩)
      go_loopw [39] (fun iv wx => Hid (RelN2 w L ph w.heap.size iv wx)) (fun iv _ => L.length - (intOf iv).toNat)
      case atStart =>
        refine ⟨0, ⟨w.heap.size, .slice none 0 0, .slice none 0 0, []⟩, rfl, by omega, rfl, ⟨?_, by simp [newB], Slc.nil _ _ _, Slc.nil _ _ _, rfl, rfl, fun i x s h => by simp at h, List.nodup_nil⟩, fun a ha => ?_, BEL.out⟩
        · have h := BLK.out
          rw [CS.out] at h
          exact h
        · rcases ha with (ha | ha) | ha | ha
          · exact Nat.le_of_eq ha.symm
          · simp at ha
          · simp [Value.ownBlock] at ha
          · simp [Value.ownBlock] at ha
      case round =>
        clear BLK BEL TM hi hil hi2
        obtain ⟨i, A, rfl, hi, hAp, kB, hlow, hbel⟩ := hrel
        have BEL := Lib.hid hbel
        have LOW := Lib.hid hlow
        by_cases hil : i < L.length
        · have hi2 : (i : Int) < L.length := by omega
          have hm : L[i]? = some L[i] := List.getElem?_eq_getElem hil
          obtain ⟨ab, ao, rfl, hlt, c0, c1, c2, c3⟩ := hA.out i _ hm
          have okm := hL.out _ (List.mem_of_getElem? hm)
          have q := fun j => hbel.cell (p := ⟨ab, j, none⟩) hlt
          have q0 := (q _).trans c0
          have q1 := (q _).trans c1
          have q2 := (q _).trans c2
          have q3 := (q _).trans c3
          obtain ⟨m1, m2, m3, m4⟩ := mayM_iff.1 okm.may
          have NM := fun W => Lib.hid (newM_any L[i].b L[i].p ph W (by omega) (by omega) (by omega) (by omega) p0 (by omega) okm.may p1)
          have htk : (newB L ph i).L.length = i := by simp [newB]; omega
          obtain ⟨Av, cv, ev, hcv⟩ := kB.list.shape
          obtain ⟨Au, cu, eu, hcu⟩ := kB.row.shape
          rw [htk] at ev eu
          have LM := Lib.hid (Blk.new wr 41 (mpCells L[i]))
          have KB := Lib.hid kB
          have EV := Lib.hid ev
          have EU := Lib.hid eu
          have HM := Lib.hid hm
          have HTK := Lib.hid htk
          have HAP := Lib.hid hAp
          clear c0 c1 c2 c3 q hbel hm okm hlow kB ev eu htk hAp
          generalize L[i] = m at *
          go_wp2_with (go_at_call 22; (with_reducible refine Calls.mono (NM _).out ?_); rintro e w1 ⟨x, rfl, hx, kx, b1⟩
                       have b1' := Below.next ((Below.refl wr.heap.size wr).alloc (Nat.le_refl _) _) b1
                       have lm1 := LM.out.below b1 LM.out.lt
                       have e0 : w1.cell? ⟨wr.heap.size, 0, none⟩ = some (.int .i64 m.q) := lm1.cell 0
                       have e1 : w1.cell? ⟨wr.heap.size, 1, none⟩ = some (.int .i64 m.u) := lm1.cell 1
                       have e2 : w1.cell? ⟨wr.heap.size, 2, none⟩ = some (.int .u64 m.b) := lm1.cell 2
                       have e3 : w1.cell? ⟨wr.heap.size, 3, none⟩ = some (.int .u64 m.p) := lm1.cell 3
                       have hz := lm1.lt
                       have k1 := KB.out.below b1'
                       have c0 := k1.cells.1
                       have c1 := k1.cells.2.1
                       rw [EV.out, HAP.out] at c0
                       rw [EU.out, HAP.out] at c1
                       have K1 := Lib.hid k1
                       have KX := Lib.hid kx
                       have HX := Lib.hid hx
                       have B1 := Lib.hid b1'
                       have LB := Lib.hid b1
                       clear k1 kx hx b1 b1' lm1)
          have G0 : ∃ G : Nat → Prop, Hid (∀ g, G g ↔ ((Value.slice Av i cv).ownBlock = some g ∨ (Value.slice Au i cu).ownBlock = some g)) := ⟨_, fun g => Iff.rfl⟩
          obtain ⟨G, HG⟩ := G0
          have SV : Hid (∀ W, Only (fun g => (Value.slice Au i cu).ownBlock = some g) w1 W → Slc W 41 4 (.slice Av i cv) i (flatM (L.take i))) := fun W o => by
            have h := K1.out.list
            rw [EV.out, HTK.out] at h
            refine h.only o (fun g hg e => ?_)
            have h2 := K1.out.row
            rw [EU.out] at h2
            exact absurd hg (by
              intro hg
              obtain ⟨t1, h3⟩ := slcBlk h hg
              obtain ⟨t2, h4⟩ := slcBlk h2 e
              exact h3.ne h4 (by decide) rfl)
          have SU : Hid (∀ W, Only (fun g => (Value.slice Av i cv).ownBlock = some g) w1 W → Slc W 67 1 (.slice Au i cu) i (A.xs.map mptr)) := fun W o => by
            have h := K1.out.row
            rw [EU.out, HTK.out] at h
            refine h.only o (fun g hg e => ?_)
            have h2 := K1.out.list
            rw [EV.out] at h2
            obtain ⟨t1, h3⟩ := slcBlk h hg
            obtain ⟨t2, h4⟩ := slcBlk h2 e
            exact h3.ne h4 (by decide) rfl
          have P0 : Hid ((buHead A (newB L ph i).S ++ buTail (newB L ph i))[0]? = some (.slice Av i cv)) := by show some A.v = _; rw [EV.out]
          have P1 : Hid ((buHead A (newB L ph i).S ++ buTail (newB L ph i))[1]? = some (.slice Au i cu)) := by show some A.u = _; rw [EU.out]
          have UL : Hid (∀ g, w1.heap.size ≤ g → ¬ (Value.slice Au i cu).ownBlock = some g) := fun g hg e => by
            have h := K1.out.row
            rw [EU.out] at h
            have := h.lt e
            omega
          have VL : Hid (∀ g, w1.heap.size ≤ g → ¬ (Value.slice Av i cv).ownBlock = some g) := fun g hg e => by
            have h := K1.out.list
            rw [EV.out] at h
            have := h.lt e
            omega
          have LM1 := Lib.hid (LM.out.below LB.out LM.out.lt)
          have NGP : Hid (¬ G A.p) := fun h => by
            rcases (HG.out _).1 h with h | h
            · have := K1.out.list.ne K1.out.blk (by decide)
              rw [EV.out] at this
              exact this h
            · have := K1.out.row.ne K1.out.blk (by decide)
              rw [EU.out] at this
              exact this h
          have NGM : Hid (¬ G wr.heap.size) := fun h => by
            have h1 : ∀ g, (Value.slice Av i cv).ownBlock = some g → g < wr.heap.size := fun g hg => by
              have h := KB.out.list
              rw [EV.out] at h
              exact h.lt hg
            have h2 : ∀ g, (Value.slice Au i cu).ownBlock = some g → g < wr.heap.size := fun g hg => by
              have h := KB.out.row
              rw [EU.out] at h
              exact h.lt hg
            rcases (HG.out _).1 h with h | h
            · have := h1 _ h; omega
            · have := h2 _ h; omega
          have LA2 := Lib.hid (show Blk ((w1.alloc (.cells #[.pointer (some ⟨x, 0, none⟩)] 67)).alloc (.cells #[.int .i64 m.q, .int .i64 m.u, .int .u64 m.b, .int .u64 m.p] 41)) (w1.heap.size + 1) 41 (mpCells m) from by
            have h := Blk.new (w1.alloc (.cells #[.pointer (some ⟨x, 0, none⟩)] 67)) 41 (mpCells m)
            rw [show (w1.alloc (.cells #[.pointer (some ⟨x, 0, none⟩)] 67)).heap.size = w1.heap.size + 1 from by simp] at h
            exact h)
          have LB2 := Lib.hid (show Blk ((w1.alloc (.cells #[.int .i64 m.q, .int .i64 m.u, .int .u64 m.b, .int .u64 m.p] 41)).alloc (.cells #[.pointer (some ⟨x, 0, none⟩)] 67)) (w1.heap.size + 1) 67 [.pointer (some ⟨x, 0, none⟩)] from by
            have h := Blk.new (w1.alloc (.cells ⟨mpCells m⟩ 41)) 67 [.pointer (some ⟨x, 0, none⟩)]
            rw [show (w1.alloc (.cells ⟨mpCells m⟩ 41)).heap.size = w1.heap.size + 1 from by simp] at h
            exact h)
          have hpz := K1.out.blk.lt
          rw [HAP.out] at hpz
          have VU : Hid (∀ g, (Value.slice Av i cv).ownBlock = some g → ¬ (Value.slice Au i cu).ownBlock = some g) := fun g hg e => by
            have h := K1.out.list
            rw [EV.out] at h
            have h2 := K1.out.row
            rw [EU.out] at h2
            obtain ⟨t1, h3⟩ := slcBlk h hg
            obtain ⟨t2, h4⟩ := slcBlk h2 e
            exact h3.ne h4 (by decide) rfl
          have HS1 : Hid (S6 w.heap.size wr.heap.size (.slice Av i cv) (.slice Au i cu) m w1) := ⟨c0, c1, e0, e1, e2, e3⟩
          have HSD : Hid (S6 w.heap.size wr.heap.size (.slice Av i cv) (.slice Au i cu) m w1.drew) := ⟨c0, c1, e0, e1, e2, e3⟩
          refine wp_region_zone (S6 w.heap.size wr.heap.size (.slice Av i cv) (.slice Au i cu) m) (fun j => decide (j < 18)) (by kernel_rfl) ?_
          refine wpAnyZ_move (i := 0) (v := ?_) rfl (by kernel_rfl) (by kernel_rfl) (by kernel_rfl) (fun _ _ _ h => h) (Or.inl ⟨by rfl, ?_⟩) ?_
          (rotate_left 1; (focus (intro W; go_simp; try with_reducible rfl)))
          try simp only [Act.put, List.setIfInBounds_toArray, List.set_cons_zero, List.set_cons_succ]
          refine wpAnyZ_move (i := 1) (v := ?_) rfl (by kernel_rfl) (by kernel_rfl) (by kernel_rfl) (fun _ _ _ h => h) (Or.inl ⟨by rfl, ?_⟩) ?_
          (rotate_left 1; (focus (intro W; go_simp; try with_reducible rfl)))
          try simp only [Act.put, List.setIfInBounds_toArray, List.set_cons_zero, List.set_cons_succ]
          refine wpAnyZ_move (i := 2) (v := ?_) rfl (by kernel_rfl) (by kernel_rfl) (by kernel_rfl) (fun _ _ _ h => h) (Or.inl ⟨by rfl, ?_⟩) ?_
          (rotate_left 1; (focus (intro W; go_simp; try with_reducible rfl)))
          try simp only [Act.put, List.setIfInBounds_toArray, List.set_cons_zero, List.set_cons_succ]
          refine wpAnyZ_move (i := 3) (v := ?_) rfl (by kernel_rfl) (by kernel_rfl) (by kernel_rfl) (fun _ _ _ h => h) (Or.inl ⟨by rfl, ?_⟩) ?_
          (rotate_left 1; (focus (intro W; go_simp; try with_reducible rfl)))
          try simp only [Act.put, List.setIfInBounds_toArray, List.set_cons_zero, List.set_cons_succ]
          refine wpAnyZ_move (i := 4) (v := ?_) rfl (by kernel_rfl) (by kernel_rfl) (by kernel_rfl) (fun _ _ _ h => h) (Or.inl ⟨by rfl, ?_⟩) ?_
          (rotate_left 1; (focus (intro W; go_simp; try with_reducible rfl)))
          try simp only [Act.put, List.setIfInBounds_toArray, List.set_cons_zero, List.set_cons_succ]
          refine wpAnyZ_take (i := 5) (v := ?_) rfl (by kernel_rfl) (by kernel_rfl) (by kernel_rfl) (by kernel_rfl) (fun _ _ _ h => h) (Or.inl ⟨by rfl, ?_⟩) HSD.out ?_
          (rotate_left 1; (focus (intro W hS; obtain ⟨y0, y1, y2, y3, y4, y5⟩ := hS; go_simp; try with_reducible rfl)))
          try simp only [Act.put, List.setIfInBounds_toArray, List.set_cons_zero, List.set_cons_succ]
          refine wpAnyZ_take (i := 6) (v := ?_) rfl (by kernel_rfl) (by kernel_rfl) (by kernel_rfl) (by kernel_rfl) (fun _ _ _ h => h) (Or.inl ⟨by rfl, ?_⟩) HSD.out ?_
          (rotate_left 1; (focus (intro W hS; obtain ⟨y0, y1, y2, y3, y4, y5⟩ := hS; go_simp; try with_reducible rfl)))
          try simp only [Act.put, List.setIfInBounds_toArray, List.set_cons_zero, List.set_cons_succ]
          refine wpAnyZ_move (i := 9) (v := ?_) rfl (by kernel_rfl) (by kernel_rfl) (by kernel_rfl) (fun _ _ _ h => h) (Or.inl ⟨by rfl, ?_⟩) ?_
          (rotate_left 1; (focus (intro W; go_simp; try with_reducible rfl)))
          try simp only [Act.put, List.setIfInBounds_toArray, List.set_cons_zero, List.set_cons_succ]
          refine wpAnyZ_move (i := 10) (v := ?_) rfl (by kernel_rfl) (by kernel_rfl) (by kernel_rfl) (fun _ _ _ h => h) (Or.inl ⟨by rfl, ?_⟩) ?_
          (rotate_left 1; (focus (intro W; go_simp; try with_reducible rfl)))
          try simp only [Act.put, List.setIfInBounds_toArray, List.set_cons_zero, List.set_cons_succ]
          refine wpAnyZ_move (i := 11) (v := ?_) rfl (by kernel_rfl) (by kernel_rfl) (by kernel_rfl) (fun _ _ _ h => h) (Or.inl ⟨by rfl, ?_⟩) ?_
          (rotate_left 1; (focus (intro W; go_simp; try with_reducible rfl)))
          try simp only [Act.put, List.setIfInBounds_toArray, List.set_cons_zero, List.set_cons_succ]
          refine wpAnyZ_take (i := 12) (v := ?_) rfl (by kernel_rfl) (by kernel_rfl) (by kernel_rfl) (by kernel_rfl) (fun _ _ _ h => h) (Or.inl ⟨by rfl, ?_⟩) HSD.out ?_
          (rotate_left 1; (focus (intro W hS; obtain ⟨y0, y1, y2, y3, y4, y5⟩ := hS; go_simp; try with_reducible rfl)))
          try simp only [Act.put, List.setIfInBounds_toArray, List.set_cons_zero, List.set_cons_succ]
          refine wpAnyZ_move (i := 13) (v := ?_) rfl (by kernel_rfl) (by kernel_rfl) (by kernel_rfl) (fun _ _ _ h => h) (Or.inl ⟨by rfl, ?_⟩) ?_
          (rotate_left 1; (focus (intro W; go_simp; try with_reducible rfl)))
          try simp only [Act.put, List.setIfInBounds_toArray, List.set_cons_zero, List.set_cons_succ]
          refine wpAnyZ_two (i := 7) (j := 14) (by kernel_rfl) rfl rfl (fun K hK => ?_) (fun K hK => ?_)
          · go_simp
            refine hK.out _ _ (fun _ _ => ?_) ?_
            (focus (repeat (first | exact HS1.out | exact HSW.out | with_reducible refine S6.drew ?_ | with_reducible refine S6.alloc ?_ _)))
            clear hK K
            refine wpAnyZ_two (i := 8) (j := 14) (by kernel_rfl) rfl rfl (fun K hK => ?_) (fun K hK => ?_)
            · refine step_append_slc _ rfl (.tmp 58) (.tmp 60) _ rfl 41 ia _ 4 32 Try.underlying22 hia hza hza1 hza2 rfl (by omega) (.slice Av i cv) i (flatM (L.take i)) rfl (SV.out _ ?_) _ 1 1 (mpCells m) rfl ?_ (by simp [Value.oneCell', mpCells]) (by omega) (by simp only [maxLen]; omega) ?_; (repeat (first | with_reducible exact OU.out | with_reducible exact Only.refl _ _ | with_reducible refine Only.alloc ?_ _ | with_reducible refine Only.drew ?_)); (refine Src.block (t := 41) ?_ rfl; repeat (first | with_reducible refine Blk.drew ?_ | with_reducible exact LA2.out | exact Blk.new _ _ _ | with_reducible refine Blk.alloc ?_ _ | with_reducible refine Blk.only ?_ OUr.out (UL.out _ (by omega)))); intro v1 wv hs' ho' hat'; have hog : Only G w1 wv := by { refine Only.trans (F := G) ?_ ho' (fun g _ h => (HG.out g).2 (.inl h)); (repeat (first | with_reducible exact OG.out | with_reducible exact Only.refl _ _ | with_reducible refine Only.alloc ?_ _ | with_reducible refine Only.drew ?_)); (first | done | fail "no") }; (try (have hov : Only (fun g => (Value.slice Av i cv).ownBlock = some g) w1 wv := ?_; rotate_left; (focus (refine Only.trans (F := fun g => (Value.slice Av i cv).ownBlock = some g) ?_ ho' (fun g _ h => h); (repeat (first | with_reducible exact Only.refl _ _ | with_reducible refine Only.alloc ?_ _ | with_reducible refine Only.drew ?_)); done)); have OV := Lib.hid hov; clear hov)); have kp := Blk.only K1.out.blk hog NGP.out; rw [HAP.out] at kp; have p0 : wv.cell? ⟨w.heap.size, 0, none⟩ = some (.slice Av i cv) := (kp.cell 0).trans P0.out; have p1 : wv.cell? ⟨w.heap.size, 1, none⟩ = some (.slice Au i cu) := (kp.cell 1).trans P1.out; have f0 : wv.frozen? ⟨w.heap.size, 0, none⟩ = false := kp.free 0; have f1 : wv.frozen? ⟨w.heap.size, 1, none⟩ = false := kp.free 1; have lm2 := Blk.only LM1.out hog NGM.out; have g0 : wv.cell? ⟨wr.heap.size, 0, none⟩ = some (.int .i64 m.q) := lm2.cell 0; have g1 : wv.cell? ⟨wr.heap.size, 1, none⟩ = some (.int .i64 m.u) := lm2.cell 1; have g2 : wv.cell? ⟨wr.heap.size, 2, none⟩ = some (.int .u64 m.b) := lm2.cell 2; have g3 : wv.cell? ⟨wr.heap.size, 3, none⟩ = some (.int .u64 m.p) := lm2.cell 3; have z0 := kp.lt; have z1 := lm2.lt; obtain ⟨A3, c3, e3', -⟩ := hs'.shape; subst e3'; have ZZ := Lib.hid hog.size; have HSV := Lib.hid hs'; have OVr := Lib.hid ho'; have OG := Lib.hid hog; have HATV := Lib.hid hat'; clear hs' ho' hog hat' kp lm2
              try go_simp
              have HSW : Hid (S6 w.heap.size wr.heap.size (.slice Av i cv) (.slice Au i cu) m wv) := ⟨p0, p1, g0, g1, g2, g3⟩
              refine hK.out _ _ (fun _ _ => ?_) ?_
              (focus (repeat (first | exact HS1.out | exact HSW.out | with_reducible refine S6.drew ?_ | with_reducible refine S6.alloc ?_ _)))
              clear hK K
              refine wpAnyZ_one (i := 14) (by kernel_rfl) rfl (fun K hK => ?_)
              go_simp
              refine hK.out _ _ (fun _ _ => ?_) ?_
              (focus (repeat (first | exact HS1.out | exact HSW.out | with_reducible refine S6.drew ?_ | with_reducible refine S6.alloc ?_ _)))
              clear hK K
              refine wpAnyZ_one (i := 15) (by kernel_rfl) rfl (fun K hK => ?_)
              refine step_append_slc _ rfl (.tmp 65) (.tmp 67) _ rfl 67 it _ 1 8 Try.underlying62 hit hzt hzt1 hzt2 rfl (by omega) (.slice Au i cu) i (A.xs.map mptr) rfl (SU.out _ ?_) _ 1 1 [.pointer (some ⟨x, 0, none⟩)] rfl ?_ (by simp [Value.oneCell']) (by omega) (by simp only [maxLen]; omega) ?_; (repeat (first | with_reducible exact OV.out | with_reducible exact Only.refl _ _ | with_reducible refine Only.alloc ?_ _ | with_reducible refine Only.drew ?_)); (refine Src.block (t := 67) ?_ rfl; repeat (first | with_reducible refine Blk.drew ?_ | with_reducible exact LB2.out | with_reducible exact Blk.new _ _ _ | with_reducible refine Blk.alloc ?_ _ | with_reducible refine Blk.only ?_ OVr.out (VL.out _ (by omega)))); intro u1 wu hs' ho' hat'; have hog : Only G w1 wu := by { refine Only.trans (F := G) ?_ ho' (fun g _ h => (HG.out g).2 (.inr h)); (repeat (first | with_reducible exact OG.out | with_reducible exact Only.refl _ _ | with_reducible refine Only.alloc ?_ _ | with_reducible refine Only.drew ?_)); (first | done | fail "no") }; (try (have hov : Only (fun g => (Value.slice Au i cu).ownBlock = some g) w1 wu := ?_; rotate_left; (focus (refine Only.trans (F := fun g => (Value.slice Au i cu).ownBlock = some g) ?_ ho' (fun g _ h => h); (repeat (first | with_reducible exact Only.refl _ _ | with_reducible refine Only.alloc ?_ _ | with_reducible refine Only.drew ?_)); done)); have OU := Lib.hid hov; clear hov)); have kp := Blk.only K1.out.blk hog NGP.out; rw [HAP.out] at kp; have p0 : wu.cell? ⟨w.heap.size, 0, none⟩ = some (.slice Av i cv) := (kp.cell 0).trans P0.out; have p1 : wu.cell? ⟨w.heap.size, 1, none⟩ = some (.slice Au i cu) := (kp.cell 1).trans P1.out; have f0 : wu.frozen? ⟨w.heap.size, 0, none⟩ = false := kp.free 0; have f1 : wu.frozen? ⟨w.heap.size, 1, none⟩ = false := kp.free 1; have lm2 := Blk.only LM1.out hog NGM.out; have g0 : wu.cell? ⟨wr.heap.size, 0, none⟩ = some (.int .i64 m.q) := lm2.cell 0; have g1 : wu.cell? ⟨wr.heap.size, 1, none⟩ = some (.int .i64 m.u) := lm2.cell 1; have g2 : wu.cell? ⟨wr.heap.size, 2, none⟩ = some (.int .u64 m.b) := lm2.cell 2; have g3 : wu.cell? ⟨wr.heap.size, 3, none⟩ = some (.int .u64 m.p) := lm2.cell 3; have z0 := kp.lt; have z1 := lm2.lt; obtain ⟨A4, c4, e3', -⟩ := hs'.shape; subst e3'; have HSU := Lib.hid hs'; have OUr := Lib.hid ho'; have OG := Lib.hid hog; have HATU := Lib.hid hat'; clear hs' ho' hog hat' kp lm2
              try go_simp
              clear HSW
              have HSW : Hid (S6 w.heap.size wr.heap.size (.slice Av i cv) (.slice Au i cu) m wu) := ⟨p0, p1, g0, g1, g2, g3⟩
              refine hK.out _ _ (fun _ _ => ?_) ?_
              (focus (repeat (first | exact HS1.out | exact HSW.out | with_reducible refine S6.drew ?_ | with_reducible refine S6.alloc ?_ _)))
              clear hK K
              refine wpAnyZ_move (i := 16) (v := ?_) rfl (by kernel_rfl) (by kernel_rfl) (by kernel_rfl) (fun _ _ _ h => h) (Or.inl ⟨by rfl, ?_⟩) ?_
              (rotate_left 1; (focus (intro W; go_simp; try with_reducible rfl)))
              try simp only [Act.put, List.setIfInBounds_toArray, List.set_cons_zero, List.set_cons_succ]
              refine wpAnyZ_move (i := 17) (v := ?_) rfl (by kernel_rfl) (by kernel_rfl) (by kernel_rfl) (fun _ _ _ h => h) (Or.inl ⟨by rfl, ?_⟩) ?_
              (rotate_left 1; (focus (intro W; go_simp; try with_reducible rfl)))
              try simp only [Act.put, List.setIfInBounds_toArray, List.set_cons_zero, List.set_cons_succ]
              refine wpAnyZ_one (i := 18) (by kernel_rfl) rfl (fun K hK => ?_)
              go_simp
              refine hK.out _ _ (fun h => absurd h (by decide)) ?_
              clear hK K
              refine wpAnyZ_move (i := 19) (v := ?_) rfl (by kernel_rfl) (by kernel_rfl) (by kernel_rfl) (fun _ _ _ h => h) (Or.inl ⟨by rfl, ?_⟩) ?_
              (rotate_left 1; (focus (intro W; go_simp; try with_reducible rfl)))
              try simp only [Act.put, List.setIfInBounds_toArray, List.set_cons_zero, List.set_cons_succ]
              refine wpAnyZ_move (i := 20) (v := ?_) rfl (by kernel_rfl) (by kernel_rfl) (by kernel_rfl) (fun _ _ _ h => h) (Or.inl ⟨by rfl, ?_⟩) ?_
              (rotate_left 1; (focus (intro W; go_simp; try with_reducible rfl)))
              try simp only [Act.put, List.setIfInBounds_toArray, List.set_cons_zero, List.set_cons_succ]
              refine wpAnyZ_one (i := 21) (by kernel_rfl) rfl (fun K hK => ?_)
              go_simp
              refine hK.out _ _ (fun h => absurd h (by decide)) ?_
              clear hK K
              refine wpAnyZ_done (by kernel_rfl) ?_ _
              go_wp2_with fail
              go_roundw
              case measure => simp [intOf]; omega
              case rel =>
                have NVU : ∀ g, (Value.slice A3 (i + 1) c3).ownBlock = some g → ¬ (Value.slice Au i cu).ownBlock = some g := fun g hg hu => by
                  rcases HATV.out with e | e
                  · exact VU.out g (e.symm.trans hg) hu
                  · have e2 := e.symm.trans hg
                    cases e2
                    exact UL.out _ (by first | omega | (simp; done) | (simp; omega)) hu
                refine newb_rel (wr := wr) (w1 := w1) (wl := wu) (A := A) (G := G) (m := m) (x := x) (v1 := .slice A3 (i + 1) c3) (u1 := .slice A4 (i + 1) c4) KB.out K1.out HAP.out HM.out KX.out ?_ ?_ BEL.out B1.out LOW.out OG.out ?_ ?_ ?_ ?_ ?_ ?_
                · exact Nat.le_trans (by simp) HX.out
                · intro g h; rw [EV.out, EU.out]; exact (HG.out g).1 h
                · first | exact .inl rfl | exact .inr rfl
                · refine Slc.only ?_ OUr.out NVU
                  repeat (first | exact HSV.out | refine Slc.drew ?_ | refine Slc.alloc ?_ _)
                · exact HSU.out
                · rw [EV.out]
                  exact HATV.out.imp id fun h => ⟨_, by first | omega | (simp; done) | (simp; omega), h⟩
                · rw [EU.out]
                  exact HATU.out.imp id fun h => ⟨_, by have z := ZZ.out; first | omega | (simp; omega), h⟩
                · go_num
            · go_simp
              refine hK.out _ _ (fun _ _ => ?_) ?_
              (focus (repeat (first | exact HS1.out | exact HSW.out | with_reducible refine S6.drew ?_ | with_reducible refine S6.alloc ?_ _)))
              clear hK K
              refine wpAnyZ_one (i := 8) (by kernel_rfl) rfl (fun K hK => ?_)
              refine step_append_slc _ rfl (.tmp 58) (.tmp 60) _ rfl 41 ia _ 4 32 Try.underlying22 hia hza hza1 hza2 rfl (by omega) (.slice Av i cv) i (flatM (L.take i)) rfl (SV.out _ ?_) _ 1 1 (mpCells m) rfl ?_ (by simp [Value.oneCell', mpCells]) (by omega) (by simp only [maxLen]; omega) ?_; (repeat (first | with_reducible exact OU.out | with_reducible exact Only.refl _ _ | with_reducible refine Only.alloc ?_ _ | with_reducible refine Only.drew ?_)); (refine Src.block (t := 41) ?_ rfl; repeat (first | with_reducible refine Blk.drew ?_ | with_reducible exact LA2.out | exact Blk.new _ _ _ | with_reducible refine Blk.alloc ?_ _ | with_reducible refine Blk.only ?_ OUr.out (UL.out _ (by omega)))); intro v1 wv hs' ho' hat'; have hog : Only G w1 wv := by { refine Only.trans (F := G) ?_ ho' (fun g _ h => (HG.out g).2 (.inl h)); (repeat (first | with_reducible exact OG.out | with_reducible exact Only.refl _ _ | with_reducible refine Only.alloc ?_ _ | with_reducible refine Only.drew ?_)); (first | done | fail "no") }; (try (have hov : Only (fun g => (Value.slice Av i cv).ownBlock = some g) w1 wv := ?_; rotate_left; (focus (refine Only.trans (F := fun g => (Value.slice Av i cv).ownBlock = some g) ?_ ho' (fun g _ h => h); (repeat (first | with_reducible exact Only.refl _ _ | with_reducible refine Only.alloc ?_ _ | with_reducible refine Only.drew ?_)); done)); have OV := Lib.hid hov; clear hov)); have kp := Blk.only K1.out.blk hog NGP.out; rw [HAP.out] at kp; have p0 : wv.cell? ⟨w.heap.size, 0, none⟩ = some (.slice Av i cv) := (kp.cell 0).trans P0.out; have p1 : wv.cell? ⟨w.heap.size, 1, none⟩ = some (.slice Au i cu) := (kp.cell 1).trans P1.out; have f0 : wv.frozen? ⟨w.heap.size, 0, none⟩ = false := kp.free 0; have f1 : wv.frozen? ⟨w.heap.size, 1, none⟩ = false := kp.free 1; have lm2 := Blk.only LM1.out hog NGM.out; have g0 : wv.cell? ⟨wr.heap.size, 0, none⟩ = some (.int .i64 m.q) := lm2.cell 0; have g1 : wv.cell? ⟨wr.heap.size, 1, none⟩ = some (.int .i64 m.u) := lm2.cell 1; have g2 : wv.cell? ⟨wr.heap.size, 2, none⟩ = some (.int .u64 m.b) := lm2.cell 2; have g3 : wv.cell? ⟨wr.heap.size, 3, none⟩ = some (.int .u64 m.p) := lm2.cell 3; have z0 := kp.lt; have z1 := lm2.lt; obtain ⟨A3, c3, e3', -⟩ := hs'.shape; subst e3'; have ZZ := Lib.hid hog.size; have HSV := Lib.hid hs'; have OVr := Lib.hid ho'; have OG := Lib.hid hog; have HATV := Lib.hid hat'; clear hs' ho' hog hat' kp lm2
              try go_simp
              have HSW : Hid (S6 w.heap.size wr.heap.size (.slice Av i cv) (.slice Au i cu) m wv) := ⟨p0, p1, g0, g1, g2, g3⟩
              refine hK.out _ _ (fun _ _ => ?_) ?_
              (focus (repeat (first | exact HS1.out | exact HSW.out | with_reducible refine S6.drew ?_ | with_reducible refine S6.alloc ?_ _)))
              clear hK K
              refine wpAnyZ_one (i := 15) (by kernel_rfl) rfl (fun K hK => ?_)
              refine step_append_slc _ rfl (.tmp 65) (.tmp 67) _ rfl 67 it _ 1 8 Try.underlying62 hit hzt hzt1 hzt2 rfl (by omega) (.slice Au i cu) i (A.xs.map mptr) rfl (SU.out _ ?_) _ 1 1 [.pointer (some ⟨x, 0, none⟩)] rfl ?_ (by simp [Value.oneCell']) (by omega) (by simp only [maxLen]; omega) ?_; (repeat (first | with_reducible exact OV.out | with_reducible exact Only.refl _ _ | with_reducible refine Only.alloc ?_ _ | with_reducible refine Only.drew ?_)); (refine Src.block (t := 67) ?_ rfl; repeat (first | with_reducible refine Blk.drew ?_ | with_reducible exact LB2.out | with_reducible exact Blk.new _ _ _ | with_reducible refine Blk.alloc ?_ _ | with_reducible refine Blk.only ?_ OVr.out (VL.out _ (by omega)))); intro u1 wu hs' ho' hat'; have hog : Only G w1 wu := by { refine Only.trans (F := G) ?_ ho' (fun g _ h => (HG.out g).2 (.inr h)); (repeat (first | with_reducible exact OG.out | with_reducible exact Only.refl _ _ | with_reducible refine Only.alloc ?_ _ | with_reducible refine Only.drew ?_)); (first | done | fail "no") }; (try (have hov : Only (fun g => (Value.slice Au i cu).ownBlock = some g) w1 wu := ?_; rotate_left; (focus (refine Only.trans (F := fun g => (Value.slice Au i cu).ownBlock = some g) ?_ ho' (fun g _ h => h); (repeat (first | with_reducible exact Only.refl _ _ | with_reducible refine Only.alloc ?_ _ | with_reducible refine Only.drew ?_)); done)); have OU := Lib.hid hov; clear hov)); have kp := Blk.only K1.out.blk hog NGP.out; rw [HAP.out] at kp; have p0 : wu.cell? ⟨w.heap.size, 0, none⟩ = some (.slice Av i cv) := (kp.cell 0).trans P0.out; have p1 : wu.cell? ⟨w.heap.size, 1, none⟩ = some (.slice Au i cu) := (kp.cell 1).trans P1.out; have f0 : wu.frozen? ⟨w.heap.size, 0, none⟩ = false := kp.free 0; have f1 : wu.frozen? ⟨w.heap.size, 1, none⟩ = false := kp.free 1; have lm2 := Blk.only LM1.out hog NGM.out; have g0 : wu.cell? ⟨wr.heap.size, 0, none⟩ = some (.int .i64 m.q) := lm2.cell 0; have g1 : wu.cell? ⟨wr.heap.size, 1, none⟩ = some (.int .i64 m.u) := lm2.cell 1; have g2 : wu.cell? ⟨wr.heap.size, 2, none⟩ = some (.int .u64 m.b) := lm2.cell 2; have g3 : wu.cell? ⟨wr.heap.size, 3, none⟩ = some (.int .u64 m.p) := lm2.cell 3; have z0 := kp.lt; have z1 := lm2.lt; obtain ⟨A4, c4, e3', -⟩ := hs'.shape; subst e3'; have HSU := Lib.hid hs'; have OUr := Lib.hid ho'; have OG := Lib.hid hog; have HATU := Lib.hid hat'; clear hs' ho' hog hat' kp lm2
              try go_simp
              clear HSW
              have HSW : Hid (S6 w.heap.size wr.heap.size (.slice Av i cv) (.slice Au i cu) m wu) := ⟨p0, p1, g0, g1, g2, g3⟩
              refine hK.out _ _ (fun _ _ => ?_) ?_
              (focus (repeat (first | exact HS1.out | exact HSW.out | with_reducible refine S6.drew ?_ | with_reducible refine S6.alloc ?_ _)))
              clear hK K
              refine wpAnyZ_move (i := 16) (v := ?_) rfl (by kernel_rfl) (by kernel_rfl) (by kernel_rfl) (fun _ _ _ h => h) (Or.inl ⟨by rfl, ?_⟩) ?_
              (rotate_left 1; (focus (intro W; go_simp; try with_reducible rfl)))
              try simp only [Act.put, List.setIfInBounds_toArray, List.set_cons_zero, List.set_cons_succ]
              refine wpAnyZ_move (i := 17) (v := ?_) rfl (by kernel_rfl) (by kernel_rfl) (by kernel_rfl) (fun _ _ _ h => h) (Or.inl ⟨by rfl, ?_⟩) ?_
              (rotate_left 1; (focus (intro W; go_simp; try with_reducible rfl)))
              try simp only [Act.put, List.setIfInBounds_toArray, List.set_cons_zero, List.set_cons_succ]
              refine wpAnyZ_one (i := 18) (by kernel_rfl) rfl (fun K hK => ?_)
              go_simp
              refine hK.out _ _ (fun h => absurd h (by decide)) ?_
              clear hK K
              refine wpAnyZ_move (i := 19) (v := ?_) rfl (by kernel_rfl) (by kernel_rfl) (by kernel_rfl) (fun _ _ _ h => h) (Or.inl ⟨by rfl, ?_⟩) ?_
              (rotate_left 1; (focus (intro W; go_simp; try with_reducible rfl)))
              try simp only [Act.put, List.setIfInBounds_toArray, List.set_cons_zero, List.set_cons_succ]
              refine wpAnyZ_move (i := 20) (v := ?_) rfl (by kernel_rfl) (by kernel_rfl) (by kernel_rfl) (fun _ _ _ h => h) (Or.inl ⟨by rfl, ?_⟩) ?_
              (rotate_left 1; (focus (intro W; go_simp; try with_reducible rfl)))
              try simp only [Act.put, List.setIfInBounds_toArray, List.set_cons_zero, List.set_cons_succ]
              refine wpAnyZ_one (i := 21) (by kernel_rfl) rfl (fun K hK => ?_)
              go_simp
              refine hK.out _ _ (fun h => absurd h (by decide)) ?_
              clear hK K
              refine wpAnyZ_done (by kernel_rfl) ?_ _
              go_wp2_with fail
              go_roundw
              case measure => simp [intOf]; omega
              case rel =>
                have NVU : ∀ g, (Value.slice A3 (i + 1) c3).ownBlock = some g → ¬ (Value.slice Au i cu).ownBlock = some g := fun g hg hu => by
                  rcases HATV.out with e | e
                  · exact VU.out g (e.symm.trans hg) hu
                  · have e2 := e.symm.trans hg
                    cases e2
                    exact UL.out _ (by first | omega | (simp; done) | (simp; omega)) hu
                refine newb_rel (wr := wr) (w1 := w1) (wl := wu) (A := A) (G := G) (m := m) (x := x) (v1 := .slice A3 (i + 1) c3) (u1 := .slice A4 (i + 1) c4) KB.out K1.out HAP.out HM.out KX.out ?_ ?_ BEL.out B1.out LOW.out OG.out ?_ ?_ ?_ ?_ ?_ ?_
                · exact Nat.le_trans (by simp) HX.out
                · intro g h; rw [EV.out, EU.out]; exact (HG.out g).1 h
                · first | exact .inl rfl | exact .inr rfl
                · refine Slc.only ?_ OUr.out NVU
                  repeat (first | exact HSV.out | refine Slc.drew ?_ | refine Slc.alloc ?_ _)
                · exact HSU.out
                · rw [EV.out]
                  exact HATV.out.imp id fun h => ⟨_, by first | omega | (simp; done) | (simp; omega), h⟩
                · rw [EU.out]
                  exact HATU.out.imp id fun h => ⟨_, by have z := ZZ.out; first | omega | (simp; omega), h⟩
                · go_num
          · go_simp
            refine hK.out _ _ (fun _ _ => ?_) ?_
            (focus (repeat (first | exact HS1.out | exact HSW.out | with_reducible refine S6.drew ?_ | with_reducible refine S6.alloc ?_ _)))
            clear hK K
            refine wpAnyZ_one (i := 7) (by kernel_rfl) rfl (fun K hK => ?_)
            go_simp
            refine hK.out _ _ (fun _ _ => ?_) ?_
            (focus (repeat (first | exact HS1.out | exact HSW.out | with_reducible refine S6.drew ?_ | with_reducible refine S6.alloc ?_ _)))
            clear hK K
            refine wpAnyZ_one (i := 8) (by kernel_rfl) rfl (fun K hK => ?_)
            refine step_append_slc _ rfl (.tmp 58) (.tmp 60) _ rfl 41 ia _ 4 32 Try.underlying22 hia hza hza1 hza2 rfl (by omega) (.slice Av i cv) i (flatM (L.take i)) rfl (SV.out _ ?_) _ 1 1 (mpCells m) rfl ?_ (by simp [Value.oneCell', mpCells]) (by omega) (by simp only [maxLen]; omega) ?_; (repeat (first | with_reducible exact OU.out | with_reducible exact Only.refl _ _ | with_reducible refine Only.alloc ?_ _ | with_reducible refine Only.drew ?_)); (refine Src.block (t := 41) ?_ rfl; repeat (first | with_reducible refine Blk.drew ?_ | with_reducible exact LA2.out | exact Blk.new _ _ _ | with_reducible refine Blk.alloc ?_ _ | with_reducible refine Blk.only ?_ OUr.out (UL.out _ (by omega)))); intro v1 wv hs' ho' hat'; have hog : Only G w1 wv := by { refine Only.trans (F := G) ?_ ho' (fun g _ h => (HG.out g).2 (.inl h)); (repeat (first | with_reducible exact OG.out | with_reducible exact Only.refl _ _ | with_reducible refine Only.alloc ?_ _ | with_reducible refine Only.drew ?_)); (first | done | fail "no") }; (try (have hov : Only (fun g => (Value.slice Av i cv).ownBlock = some g) w1 wv := ?_; rotate_left; (focus (refine Only.trans (F := fun g => (Value.slice Av i cv).ownBlock = some g) ?_ ho' (fun g _ h => h); (repeat (first | with_reducible exact Only.refl _ _ | with_reducible refine Only.alloc ?_ _ | with_reducible refine Only.drew ?_)); done)); have OV := Lib.hid hov; clear hov)); have kp := Blk.only K1.out.blk hog NGP.out; rw [HAP.out] at kp; have p0 : wv.cell? ⟨w.heap.size, 0, none⟩ = some (.slice Av i cv) := (kp.cell 0).trans P0.out; have p1 : wv.cell? ⟨w.heap.size, 1, none⟩ = some (.slice Au i cu) := (kp.cell 1).trans P1.out; have f0 : wv.frozen? ⟨w.heap.size, 0, none⟩ = false := kp.free 0; have f1 : wv.frozen? ⟨w.heap.size, 1, none⟩ = false := kp.free 1; have lm2 := Blk.only LM1.out hog NGM.out; have g0 : wv.cell? ⟨wr.heap.size, 0, none⟩ = some (.int .i64 m.q) := lm2.cell 0; have g1 : wv.cell? ⟨wr.heap.size, 1, none⟩ = some (.int .i64 m.u) := lm2.cell 1; have g2 : wv.cell? ⟨wr.heap.size, 2, none⟩ = some (.int .u64 m.b) := lm2.cell 2; have g3 : wv.cell? ⟨wr.heap.size, 3, none⟩ = some (.int .u64 m.p) := lm2.cell 3; have z0 := kp.lt; have z1 := lm2.lt; obtain ⟨A3, c3, e3', -⟩ := hs'.shape; subst e3'; have ZZ := Lib.hid hog.size; have HSV := Lib.hid hs'; have OVr := Lib.hid ho'; have OG := Lib.hid hog; have HATV := Lib.hid hat'; clear hs' ho' hog hat' kp lm2
            try go_simp
            have HSW : Hid (S6 w.heap.size wr.heap.size (.slice Av i cv) (.slice Au i cu) m wv) := ⟨p0, p1, g0, g1, g2, g3⟩
            refine hK.out _ _ (fun _ _ => ?_) ?_
            (focus (repeat (first | exact HS1.out | exact HSW.out | with_reducible refine S6.drew ?_ | with_reducible refine S6.alloc ?_ _)))
            clear hK K
            refine wpAnyZ_one (i := 15) (by kernel_rfl) rfl (fun K hK => ?_)
            refine step_append_slc _ rfl (.tmp 65) (.tmp 67) _ rfl 67 it _ 1 8 Try.underlying62 hit hzt hzt1 hzt2 rfl (by omega) (.slice Au i cu) i (A.xs.map mptr) rfl (SU.out _ ?_) _ 1 1 [.pointer (some ⟨x, 0, none⟩)] rfl ?_ (by simp [Value.oneCell']) (by omega) (by simp only [maxLen]; omega) ?_; (repeat (first | with_reducible exact OV.out | with_reducible exact Only.refl _ _ | with_reducible refine Only.alloc ?_ _ | with_reducible refine Only.drew ?_)); (refine Src.block (t := 67) ?_ rfl; repeat (first | with_reducible refine Blk.drew ?_ | with_reducible exact LB2.out | with_reducible exact Blk.new _ _ _ | with_reducible refine Blk.alloc ?_ _ | with_reducible refine Blk.only ?_ OVr.out (VL.out _ (by omega)))); intro u1 wu hs' ho' hat'; have hog : Only G w1 wu := by { refine Only.trans (F := G) ?_ ho' (fun g _ h => (HG.out g).2 (.inr h)); (repeat (first | with_reducible exact OG.out | with_reducible exact Only.refl _ _ | with_reducible refine Only.alloc ?_ _ | with_reducible refine Only.drew ?_)); (first | done | fail "no") }; (try (have hov : Only (fun g => (Value.slice Au i cu).ownBlock = some g) w1 wu := ?_; rotate_left; (focus (refine Only.trans (F := fun g => (Value.slice Au i cu).ownBlock = some g) ?_ ho' (fun g _ h => h); (repeat (first | with_reducible exact Only.refl _ _ | with_reducible refine Only.alloc ?_ _ | with_reducible refine Only.drew ?_)); done)); have OU := Lib.hid hov; clear hov)); have kp := Blk.only K1.out.blk hog NGP.out; rw [HAP.out] at kp; have p0 : wu.cell? ⟨w.heap.size, 0, none⟩ = some (.slice Av i cv) := (kp.cell 0).trans P0.out; have p1 : wu.cell? ⟨w.heap.size, 1, none⟩ = some (.slice Au i cu) := (kp.cell 1).trans P1.out; have f0 : wu.frozen? ⟨w.heap.size, 0, none⟩ = false := kp.free 0; have f1 : wu.frozen? ⟨w.heap.size, 1, none⟩ = false := kp.free 1; have lm2 := Blk.only LM1.out hog NGM.out; have g0 : wu.cell? ⟨wr.heap.size, 0, none⟩ = some (.int .i64 m.q) := lm2.cell 0; have g1 : wu.cell? ⟨wr.heap.size, 1, none⟩ = some (.int .i64 m.u) := lm2.cell 1; have g2 : wu.cell? ⟨wr.heap.size, 2, none⟩ = some (.int .u64 m.b) := lm2.cell 2; have g3 : wu.cell? ⟨wr.heap.size, 3, none⟩ = some (.int .u64 m.p) := lm2.cell 3; have z0 := kp.lt; have z1 := lm2.lt; obtain ⟨A4, c4, e3', -⟩ := hs'.shape; subst e3'; have HSU := Lib.hid hs'; have OUr := Lib.hid ho'; have OG := Lib.hid hog; have HATU := Lib.hid hat'; clear hs' ho' hog hat' kp lm2
            try go_simp
            clear HSW
            have HSW : Hid (S6 w.heap.size wr.heap.size (.slice Av i cv) (.slice Au i cu) m wu) := ⟨p0, p1, g0, g1, g2, g3⟩
            refine hK.out _ _ (fun _ _ => ?_) ?_
            (focus (repeat (first | exact HS1.out | exact HSW.out | with_reducible refine S6.drew ?_ | with_reducible refine S6.alloc ?_ _)))
            clear hK K
            refine wpAnyZ_move (i := 16) (v := ?_) rfl (by kernel_rfl) (by kernel_rfl) (by kernel_rfl) (fun _ _ _ h => h) (Or.inl ⟨by rfl, ?_⟩) ?_
            (rotate_left 1; (focus (intro W; go_simp; try with_reducible rfl)))
            try simp only [Act.put, List.setIfInBounds_toArray, List.set_cons_zero, List.set_cons_succ]
            refine wpAnyZ_move (i := 17) (v := ?_) rfl (by kernel_rfl) (by kernel_rfl) (by kernel_rfl) (fun _ _ _ h => h) (Or.inl ⟨by rfl, ?_⟩) ?_
            (rotate_left 1; (focus (intro W; go_simp; try with_reducible rfl)))
            try simp only [Act.put, List.setIfInBounds_toArray, List.set_cons_zero, List.set_cons_succ]
            refine wpAnyZ_one (i := 18) (by kernel_rfl) rfl (fun K hK => ?_)
            go_simp
            refine hK.out _ _ (fun h => absurd h (by decide)) ?_
            clear hK K
            refine wpAnyZ_move (i := 19) (v := ?_) rfl (by kernel_rfl) (by kernel_rfl) (by kernel_rfl) (fun _ _ _ h => h) (Or.inl ⟨by rfl, ?_⟩) ?_
            (rotate_left 1; (focus (intro W; go_simp; try with_reducible rfl)))
            try simp only [Act.put, List.setIfInBounds_toArray, List.set_cons_zero, List.set_cons_succ]
            refine wpAnyZ_move (i := 20) (v := ?_) rfl (by kernel_rfl) (by kernel_rfl) (by kernel_rfl) (fun _ _ _ h => h) (Or.inl ⟨by rfl, ?_⟩) ?_
            (rotate_left 1; (focus (intro W; go_simp; try with_reducible rfl)))
            try simp only [Act.put, List.setIfInBounds_toArray, List.set_cons_zero, List.set_cons_succ]
            refine wpAnyZ_one (i := 21) (by kernel_rfl) rfl (fun K hK => ?_)
            go_simp
            refine hK.out _ _ (fun h => absurd h (by decide)) ?_
            clear hK K
            refine wpAnyZ_done (by kernel_rfl) ?_ _
            go_wp2_with fail
            go_roundw
            case measure => simp [intOf]; omega
            case rel =>
              have NVU : ∀ g, (Value.slice A3 (i + 1) c3).ownBlock = some g → ¬ (Value.slice Au i cu).ownBlock = some g := fun g hg hu => by
                rcases HATV.out with e | e
                · exact VU.out g (e.symm.trans hg) hu
                · have e2 := e.symm.trans hg
                  cases e2
                  exact UL.out _ (by first | omega | (simp; done) | (simp; omega)) hu
              refine newb_rel (wr := wr) (w1 := w1) (wl := wu) (A := A) (G := G) (m := m) (x := x) (v1 := .slice A3 (i + 1) c3) (u1 := .slice A4 (i + 1) c4) KB.out K1.out HAP.out HM.out KX.out ?_ ?_ BEL.out B1.out LOW.out OG.out ?_ ?_ ?_ ?_ ?_ ?_
              · exact Nat.le_trans (by simp) HX.out
              · intro g h; rw [EV.out, EU.out]; exact (HG.out g).1 h
              · first | exact .inl rfl | exact .inr rfl
              · refine Slc.only ?_ OUr.out NVU
                repeat (first | exact HSV.out | refine Slc.drew ?_ | refine Slc.alloc ?_ _)
              · exact HSU.out
              · rw [EV.out]
                exact HATV.out.imp id fun h => ⟨_, by first | omega | (simp; done) | (simp; omega), h⟩
              · rw [EU.out]
                exact HATU.out.imp id fun h => ⟨_, by have z := ZZ.out; first | omega | (simp; omega), h⟩
              · go_num
        · have hi2 : ¬ (i : Int) < L.length := by omega
          obtain rfl : i = L.length := by omega
          have KB := Lib.hid kB
          have HAP := Lib.hid hAp
          clear kB hbel hlow hAp
          go_wp2_with fail
          go_ret2
          exact ⟨A, by rw [HAP.out]; rfl, KB.out, LOW.out, BEL.out⟩
end Go.Proofs.Ytbfhohcimomphaa
