/- The reference of layer 6 (bus): a new one. -/
import Derived.Test.YtbfhohcimomphaaBusRef
import Derived.Test.YtbfhohcimomphaaRZone
namespace Go.Proofs.Ytbfhohcimomphaa
open Go.RowKit
set_option linter.unusedVariables false
set_option linter.unusedSimpArgs false
def m0 (m : Mp) (ph : Int) : Ms := ⟨m.b, m.p, ph, ph, 0, 0⟩
def ML (L : List Mp) (ph : Int) (i : Nat) : Ms := match L[i]? with
  | some m => m0 m ph
  | none => ⟨0, 0, 0, 0, 0, 0⟩
def RelN (w : World) (L : List Mp) (av : Value) (ph : Int) (p gs : Nat) (iv : Value) (wr : World) : Prop :=
  ∃ (i : Nat) (mv : Value) (xs : Nat → Nat), iv = .int .i64 i ∧ i ≤ L.length ∧
    Blk wr p 59 [av, .int .u64 ph, mv, .slice (some ⟨gs, 0, none⟩) L.length L.length, .slice none 0 0] ∧ Blk wr gs 3 (Fn .i64 (fun _ => 0) L.length) ∧
    Slc wr 80 1 mv i ((List.range i).map fun j => .pointer (some ⟨xs j, 0, none⟩)) ∧ (∀ j, j < i → IsO wr (xs j) (.slice none 0 0) [] (ML L ph j) 0) ∧
    (∀ j, j < i → w.heap.size ≤ xs j) ∧ (∀ j k, j < i → k < i → xs j = xs k → j = k) ∧ (∀ g, mv.ownBlock = some g → w.heap.size ≤ g) ∧ Below w.heap.size w wr
/-- What stands at the loads of a round. -/
def S3 (p ab off : Nat) (v : Value) (m : Mp) (W : World) : Prop :=
  W.cell? ⟨p, 2, none⟩ = some v ∧ W.cell? ⟨ab, off + 2, none⟩ = some (.int .u64 m.b) ∧ W.cell? ⟨ab, off + 3, none⟩ = some (.int .u64 m.p)
theorem S3.alloc {p ab off : Nat} {v : Value} {m : Mp} {W : World} (h : S3 p ab off v m W) (o : Obj) : S3 p ab off v m (W.alloc o) := by
  have k : ∀ (a : Addr) (x : Value), W.cell? a = some x → (W.alloc o).cell? a = some x := fun a x e => (World.cell?_alloc_lt _ _ _ (World.block_lt_of_cell? W a e)).trans e
  exact ⟨k _ _ h.1, k _ _ h.2.1, k _ _ h.2.2⟩
theorem S3.below {p ab off : Nat} {v : Value} {m : Mp} {W W' : World} (h : S3 p ab off v m W) (o : Below W.heap.size W W') (h1 : p < W.heap.size) (h2 : ab < W.heap.size) : S3 p ab off v m W' :=
  ⟨(o.cell (p := ⟨p, 2, none⟩) h1).trans h.1, (o.cell (p := ⟨ab, off + 2, none⟩) h2).trans h.2.1, (o.cell (p := ⟨ab, off + 3, none⟩) h2).trans h.2.2⟩
theorem S3.only {F : Nat → Prop} {p ab off : Nat} {v : Value} {m : Mp} {W W' : World} (h : S3 p ab off v m W) (o : Only F W W') (h1 : p < W.heap.size) (h2 : ab < W.heap.size) (f1 : ¬ F p) (f2 : ¬ F ab) : S3 p ab off v m W' :=
  ⟨(World.cell?_of_block (o.block p h1 f1)).trans h.1, (World.cell?_of_block (o.block ab h2 f2)).trans h.2.1, (World.cell?_of_block (o.block ab h2 f2)).trans h.2.2⟩
theorem infoRm : (Try.prog.info? 80).map (fun i => (i.zero, i.size, i.bytes)) = some (some (.pointer none), 1, 8) := by kernel_rfl
def NewRB (w : World) (L : List Mp) (av : Value) (ph : Int) (e : Ending) (w' : World) : Prop :=
  ∃ R : Rl, e = .returned (.pointer (some ⟨R.p, 0, none⟩)) ∧ R.av = av ∧ IsRB w' R L.length (ML L ph) (fun _ => 0) [] ph ∧ (∀ a, R.all L.length a → w.heap.size ≤ a) ∧ Below w.heap.size w w'
set_option maxRecDepth 100000 in
set_option maxHeartbeats 4000000 in
theorem rnewB_any (w : World) (Aa : Option Addr) (cap : Nat) (L : List Mp) (ph : Int) (hA : Hid (Mps w Aa L)) (hr : Hid (∀ m ∈ L, m.rng)) (n16 : L.length ≤ 16) (p0 : 0 ≤ ph) (p1 : ph ≤ 18446744073709551615) :
    Calls Try.prog 17 #[.slice Aa L.length cap, .int .u64 ph] w (NewRB w L (.slice Aa L.length cap) ph) := by
  have hmk : ∀ W, (Instr.makeSlice 33 (.int .i64 L.length) (.int .i64 L.length)).run Try.prog W = .ok (.slice (some ⟨W.heap.size, 0, none⟩) L.length L.length) (W.alloc (.cells ⟨Fn .i64 (fun _ => 0) L.length⟩ 3)) := fun W => by
    rw [← made_Fn]
    exact run_make_row' 33 3 (.int .i64 0) 8 Try.underlying33 infoInt rfl .i64 .i64 L.length (by omega) (by omega) W
  obtain ⟨it, hit, hzt, hzt1, hzt2⟩ := info_parts infoRm
  go_enter Try.func17, Try.ntmps17
  go_wp2_with fail
  have G0 := Lib.hid (show Blk ((w.alloc (.cells ⟨Fn .i64 (fun _ => 0) L.length⟩ 3)).alloc (.cells #[.slice Aa L.length cap, .int .u64 ph, .slice none 0 0, .slice (some ⟨w.heap.size, 0, none⟩) L.length L.length, .slice none 0 0] 59)) w.heap.size 3 (Fn .i64 (fun _ => 0) L.length) from (Blk.new w 3 (Fn .i64 (fun _ => 0) L.length)).alloc _)
  have P0 := Lib.hid (show Blk ((w.alloc (.cells ⟨Fn .i64 (fun _ => 0) L.length⟩ 3)).alloc (.cells #[.slice Aa L.length cap, .int .u64 ph, .slice none 0 0, .slice (some ⟨w.heap.size, 0, none⟩) L.length L.length, .slice none 0 0] 59)) (w.heap.size + 1) 59 [.slice Aa L.length cap, .int .u64 ph, .slice none 0 0, .slice (some ⟨w.heap.size, 0, none⟩) L.length L.length, .slice none 0 0] from by
    have := Blk.new (w.alloc (.cells ⟨Fn .i64 (fun _ => 0) L.length⟩ 3)) 59 [.slice Aa L.length cap, .int .u64 ph, .slice none 0 0, .slice (some ⟨w.heap.size, 0, none⟩) L.length L.length, .slice none 0 0]
    simpa using this)
  go_loopw [6] (fun iv wr => Hid (RelN w L (.slice Aa L.length cap) ph (w.heap.size + 1) w.heap.size iv wr)) (fun iv _ => L.length - (intOf iv).toNat)
  case atStart => exact ⟨0, .slice none 0 0, fun _ => 0, rfl, by omega, P0.out, G0.out, Slc.nil _ _ _, fun j h => by omega, fun j h => by omega, fun j k h => by omega, fun g h => by simp [Value.ownBlock] at h, ((Below.refl _ _).alloc (Nat.le_refl _) _).alloc (by simp) _⟩
  case round =>
    obtain ⟨i, mv, xs, rfl, hi, kp, kg, sm, ks, kl, kd, ko, hbel⟩ := hrel
    have KP := Lib.hid kp
    have KG := Lib.hid kg
    have SM := Lib.hid sm
    have KS := Lib.hid ks
    have KL := Lib.hid kl
    have KD := Lib.hid kd
    have KO := Lib.hid ko
    have BEL := Lib.hid hbel
    clear kp kg sm ks kl kd ko hbel P0 G0
    by_cases hil : i < L.length
    · have hi2 : (i : Int) < L.length := by omega
      have hm : L[i]? = some L[i] := List.getElem?_eq_getElem hil
      obtain ⟨ab, ao, rfl, hab, -, -, hcb, hcp⟩ := hA.out i _ hm
      have rm := hr.out _ (List.mem_of_getElem? hm)
      have q1 := (BEL.out.cell (p := ⟨ab, ao + i * 4 + 2, none⟩) hab).trans hcb
      have q2 := (BEL.out.cell (p := ⟨ab, ao + i * 4 + 3, none⟩) hab).trans hcp
      have hab2 : ab < wr.heap.size := Nat.lt_of_lt_of_le hab BEL.out.size
      obtain ⟨Am, cm, em, hcm⟩ := SM.out.shape
      subst em
      have q0 : wr.cell? ⟨w.heap.size + 1, 2, none⟩ = some (.slice Am i cm) := KP.out.cell 2
      have hpz := KP.out.lt
      have NM := fun W => Lib.hid (rnewo_any L[i].b L[i].p ph W p0 p1)
      have EML : ML L ph i = m0 L[i] ph := by unfold ML; rw [hm]
      have HML := Lib.hid EML
      clear hcb hcp hm EML rm
      generalize L[i] = m at *
      have NAB := Lib.hid (show ∀ g, (Value.slice Am i cm).ownBlock = some g → g ≠ ab from fun g hg e => by have := KO.out g hg; omega)
      have NPB := Lib.hid (SM.out.ne KP.out (by decide))
      have HS1 : Hid (S3 (w.heap.size + 1) ab (ao + i * 4) (.slice Am i cm) m wr) := ⟨q0, q1, q2⟩
      have HSD : Hid (S3 (w.heap.size + 1) ab (ao + i * 4) (.slice Am i cm) m wr.drew) := ⟨q0, q1, q2⟩
      go_wp2_with fail
      refine wp_region_zone (S3 (w.heap.size + 1) ab (ao + i * 4) (.slice Am i cm) m) (fun j => decide (j < 16)) (by kernel_rfl) ?_
      refine wpAnyZ_move (i := 0) (v := ?_) rfl (by kernel_rfl) (by kernel_rfl) (by kernel_rfl) (fun _ _ _ h => h) (Or.inl ⟨by rfl, ?_⟩) ?_
      (rotate_left 1; (focus (intro W; go_simp; try with_reducible rfl)))
      try simp only [Act.put, List.setIfInBounds_toArray, List.set_cons_zero, List.set_cons_succ]
      refine wpAnyZ_move (i := 1) (v := ?_) rfl (by kernel_rfl) (by kernel_rfl) (by kernel_rfl) (fun _ _ _ h => h) (Or.inl ⟨by rfl, ?_⟩) ?_
      (rotate_left 1; (focus (intro W; go_simp; try with_reducible rfl)))
      try simp only [Act.put, List.setIfInBounds_toArray, List.set_cons_zero, List.set_cons_succ]
      refine wpAnyZ_move (i := 2) (v := ?_) rfl (by kernel_rfl) (by kernel_rfl) (by kernel_rfl) (fun _ _ _ h => h) (Or.inl ⟨by rfl, ?_⟩) ?_
      (rotate_left 1; (focus (intro W; go_simp; try with_reducible rfl)))
      try simp only [Act.put, List.setIfInBounds_toArray, List.set_cons_zero, List.set_cons_succ]
      refine wpAnyZ_move (i := 3) (v := ?_) rfl (by kernel_rfl) (by kernel_rfl) (by kernel_rfl) (fun _ _ _ h => h) (Or.inl ⟨by rfl, ?_⟩) ?_
      (rotate_left 1; (focus (intro W; go_simp; try with_reducible rfl)))
      try simp only [Act.put, List.setIfInBounds_toArray, List.set_cons_zero, List.set_cons_succ]
      refine wpAnyZ_take (i := 4) (v := ?_) rfl (by kernel_rfl) (by kernel_rfl) (by kernel_rfl) (by kernel_rfl) (fun _ _ _ h => h) (Or.inl ⟨by rfl, ?_⟩) HSD.out ?_
      (rotate_left 1; (focus (intro W hS; obtain ⟨y0, y1, y2⟩ := hS; go_simp; try with_reducible rfl)))
      try simp only [Act.put, List.setIfInBounds_toArray, List.set_cons_zero, List.set_cons_succ]
      refine wpAnyZ_move (i := 5) (v := ?_) rfl (by kernel_rfl) (by kernel_rfl) (by kernel_rfl) (fun _ _ _ h => h) (Or.inl ⟨by rfl, ?_⟩) ?_
      (rotate_left 1; (focus (intro W; go_simp; try with_reducible rfl)))
      try simp only [Act.put, List.setIfInBounds_toArray, List.set_cons_zero, List.set_cons_succ]
      refine wpAnyZ_move (i := 6) (v := ?_) rfl (by kernel_rfl) (by kernel_rfl) (by kernel_rfl) (fun _ _ _ h => h) (Or.inl ⟨by rfl, ?_⟩) ?_
      (rotate_left 1; (focus (intro W; go_simp; try with_reducible rfl)))
      try simp only [Act.put, List.setIfInBounds_toArray, List.set_cons_zero, List.set_cons_succ]
      refine wpAnyZ_move (i := 7) (v := ?_) rfl (by kernel_rfl) (by kernel_rfl) (by kernel_rfl) (fun _ _ _ h => h) (Or.inl ⟨by rfl, ?_⟩) ?_
      (rotate_left 1; (focus (intro W; go_simp; try with_reducible rfl)))
      try simp only [Act.put, List.setIfInBounds_toArray, List.set_cons_zero, List.set_cons_succ]
      refine wpAnyZ_move (i := 8) (v := ?_) rfl (by kernel_rfl) (by kernel_rfl) (by kernel_rfl) (fun _ _ _ h => h) (Or.inl ⟨by rfl, ?_⟩) ?_
      (rotate_left 1; (focus (intro W; go_simp; try with_reducible rfl)))
      try simp only [Act.put, List.setIfInBounds_toArray, List.set_cons_zero, List.set_cons_succ]
      refine wpAnyZ_take (i := 9) (v := ?_) rfl (by kernel_rfl) (by kernel_rfl) (by kernel_rfl) (by kernel_rfl) (fun _ _ _ h => h) (Or.inl ⟨by rfl, ?_⟩) HSD.out ?_
      (rotate_left 1; (focus (intro W hS; obtain ⟨y0, y1, y2⟩ := hS; go_simp; try with_reducible rfl)))
      try simp only [Act.put, List.setIfInBounds_toArray, List.set_cons_zero, List.set_cons_succ]
      refine wpAnyZ_move (i := 10) (v := ?_) rfl (by kernel_rfl) (by kernel_rfl) (by kernel_rfl) (fun _ _ _ h => h) (Or.inl ⟨by rfl, ?_⟩) ?_
      (rotate_left 1; (focus (intro W; go_simp; try with_reducible rfl)))
      try simp only [Act.put, List.setIfInBounds_toArray, List.set_cons_zero, List.set_cons_succ]
      refine wpAnyZ_one (i := 11) (by kernel_rfl) rfl (fun K hK => ?_)
      go_simp
      go_wp2_with (go_at_call 31; (with_reducible refine Calls.mono (NM _).out ?_); rintro e w1 ⟨r, rfl, hr0, kr, b1⟩; have b1 := Below.trans ((Below.refl wr.heap.size wr).drew) b1; have R0 := Lib.hid hr0; have KR := Lib.hid kr; have B1 := Lib.hid b1; have SW1 := Lib.hid (HS1.out.below b1 hpz hab2); clear hr0 kr b1)
      refine hK.out _ _ (fun _ _ => SW1.out) ?_
      clear hK K
      refine wpAnyZ_one (i := 12) (by kernel_rfl) rfl (fun K hK => ?_)
      go_simp
      refine hK.out _ _ (fun _ _ => S3.alloc SW1.out _) ?_
      clear hK K
      refine wpAnyZ_one (i := 13) (by kernel_rfl) rfl (fun K hK => ?_)
      refine step_append_slc _ rfl (.tmp 24) (.tmp 32) _ rfl 80 it _ 1 8 Try.underlying56 hit hzt hzt1 hzt2 rfl (by omega) (.slice Am i cm) i ((List.range i).map fun j => .pointer (some ⟨xs j, 0, none⟩)) rfl (Slc.alloc (SM.out.below B1.out fun g hg => SM.out.lt hg) _) (some ⟨w1.heap.size, 0, none⟩) 1 1 [.pointer (some ⟨r, 0, none⟩)] rfl (Src.one w1 80 _) (by simp [Value.oneCell']) (by omega) (by simp only [maxLen]; omega) ?_
      intro v' w' hs' ho' hat'
      obtain ⟨A4, c4, e4, -⟩ := hs'.shape
      subst e4
      have hw1 : Below wr.heap.size wr (w1.alloc (.cells #[.pointer (some ⟨r, 0, none⟩)] 80)) := B1.out.alloc B1.out.size _
      have kp := (KP.out.below hw1 KP.out.lt).only ho' (fun e => SM.out.ne KP.out (by decide) e)
      have kg := (KG.out.below hw1 KG.out.lt).only ho' (fun e => SM.out.ne KG.out (by decide) e)
      have p2 : w'.cell? ⟨w.heap.size + 1, 2, none⟩ = some (.slice Am i cm) := kp.cell 2
      have f2 : w'.frozen? ⟨w.heap.size + 1, 2, none⟩ = false := kp.free 2
      have z0 := kp.lt
      have KP2 := Lib.hid kp
      have KG2 := Lib.hid kg
      have HS := Lib.hid hs'
      have HAT := Lib.hid hat'
      have HO := Lib.hid ho'
      clear hs' ho' hat' kp kg hw1
      try go_simp
      refine hK.out _ _ (fun _ h => ?_) ?_
      focus
        exact S3.only (S3.alloc SW1.out _) HO.out (by have := B1.out.size; simp; omega) (by have := B1.out.size; simp; omega) (fun e => NPB.out e) (fun e => NAB.out _ e rfl)
      clear hK K
      refine wpAnyZ_move (i := 14) (v := ?_) rfl (by kernel_rfl) (by kernel_rfl) (by kernel_rfl) (fun _ _ _ h => h) (Or.inl ⟨by rfl, ?_⟩) ?_
      (rotate_left 1; (focus (intro W; go_simp; try with_reducible rfl)))
      try simp only [Act.put, List.setIfInBounds_toArray, List.set_cons_zero, List.set_cons_succ]
      refine wpAnyZ_move (i := 15) (v := ?_) rfl (by kernel_rfl) (by kernel_rfl) (by kernel_rfl) (fun _ _ _ h => h) (Or.inl ⟨by rfl, ?_⟩) ?_
      (rotate_left 1; (focus (intro W; go_simp; try with_reducible rfl)))
      try simp only [Act.put, List.setIfInBounds_toArray, List.set_cons_zero, List.set_cons_succ]
      refine wpAnyZ_one (i := 16) (by kernel_rfl) rfl (fun K hK => ?_)
      go_simp
      refine hK.out _ _ (fun h => absurd h (by decide)) ?_
      clear hK K
      refine wpAnyZ_done (by kernel_rfl) ?_ _
      go_wp2_with fail
      go_roundw
      case rel =>
        have hw1 : Below wr.heap.size wr (w1.alloc (.cells #[.pointer (some ⟨r, 0, none⟩)] 80)) := B1.out.alloc B1.out.size _
        have o2 : Only (fun g => (Value.slice Am i cm).ownBlock = some g ∨ g = w.heap.size + 1) (w1.alloc (.cells #[.pointer (some ⟨r, 0, none⟩)] 80)) (w'.setCell ⟨w.heap.size + 1, 2, none⟩ (.slice A4 (i + 1) c4)) :=
          Only.setCell (F := fun g => (Value.slice Am i cm).ownBlock = some g ∨ g = w.heap.size + 1) (Only.mono HO.out fun g _ h => .inl h) (fun _ => .inr rfl) _
        have o1 : Only (fun g => (Value.slice Am i cm).ownBlock = some g ∨ g = w.heap.size + 1) wr (w'.setCell ⟨w.heap.size + 1, 2, none⟩ (.slice A4 (i + 1) c4)) :=
          Only.trans (Only.of_below hw1) o2 fun g _ h => h
        have sz := BEL.out.size
        have sz1 := B1.out.size
        refine ⟨i + 1, .slice A4 (i + 1) c4, fun j => if j = i then r else xs j, by go_num, by omega, KP2.out.put 2 _, KG2.out.far (p := ⟨w.heap.size + 1, 2, none⟩) (fun e => by have : w.heap.size = w.heap.size + 1 := e; omega) _, ?_, fun j hj => ?_, fun j hj => ?_, fun j k hj hk e => ?_, fun g hg => ?_, ?_⟩
        · have h := HS.out.far (p := ⟨w.heap.size + 1, 2, none⟩) (fun e => HS.out.ne KP2.out (by decide) e) (.slice A4 (i + 1) c4)
          rw [List.range_succ, List.map_append]
          have e1 : (List.range i).map (fun j => Value.pointer (some ⟨if j = i then r else xs j, 0, none⟩)) = (List.range i).map fun j => .pointer (some ⟨xs j, 0, none⟩) :=
            List.map_congr_left fun j hj => by rw [if_neg (by have := List.mem_range.1 hj; omega)]
          rw [e1]
          simpa using h
        · by_cases e : j = i
          · subst e
            show IsO _ (if j = j then r else xs j) _ _ _ _
            rw [if_pos rfl, HML.out]
            exact (KR.out.below ((Below.refl _ _).alloc (Nat.le_refl _) _)).only o2 (fun h => by
              rcases h with h | h
              · exact (SM.out.below B1.out fun g hg => SM.out.lt hg).ne KR.out.1 (by decide) h
              · have := R0.out; have : wr.drew.heap.size = wr.heap.size := rfl; omega) (fun g hg => by simp [Value.ownBlock] at hg)
          · show IsO _ (if j = i then r else xs j) _ _ _ _
            rw [if_neg e]
            have k := KS.out j (by omega)
            exact k.only o1 (fun h => by
              rcases h with h | h
              · exact SM.out.ne k.1 (by decide) h
              · exact k.1.ne KP.out (by decide) h) (fun g hg => by simp [Value.ownBlock] at hg)
        · show _ ≤ (if j = i then r else xs j)
          by_cases e : j = i
          · rw [if_pos e]; have := R0.out; have : wr.drew.heap.size = wr.heap.size := rfl; omega
          · rw [if_neg e]; exact KL.out j (by omega)
        · have rr : ∀ a, a < i → xs a ≠ r := fun a ha e => by
            have := (KS.out a ha).1.lt
            have := R0.out; have : wr.drew.heap.size = wr.heap.size := rfl
            omega
          by_cases e1 : j = i <;> by_cases e2 : k = i
          · omega
          · simp only [if_pos e1, if_neg e2] at e; exact absurd e.symm (rr k (by omega))
          · simp only [if_neg e1, if_pos e2] at e; exact absurd e (rr j (by omega))
          · simp only [if_neg e1, if_neg e2] at e; exact KD.out j k (by omega) (by omega) e
        · rcases HAT.out with h | h
          · exact KO.out g (h.symm.trans hg)
          · have := h.symm.trans hg
            simp at this
            omega
        · exact Below.trans BEL.out (o1.below sz fun g hg h => by
            rcases h with h | h
            · have := KO.out g h; omega
            · omega)
      case measure => simp [intOf]; omega
    · have hi2 : ¬ (i : Int) < L.length := by omega
      obtain rfl : i = L.length := by omega
      go_wp2_with fail
      go_ret
      refine ⟨⟨w.heap.size + 1, w.heap.size, .slice Aa L.length cap, mv, .slice none 0 0, xs, fun _ => .slice none 0 0⟩, rfl, rfl, ⟨KP.out, SM.out, KG.out, Slc.nil _ _ _, fun i hi => ⟨[], KS.out i hi⟩, fun i j hi hj e => KD.out i j hi hj e, fun i j g hi hj h => by simp [Value.ownBlock] at h⟩, fun a ha => ?_, BEL.out⟩
      rcases ha with rfl | ⟨i, hi, rfl⟩ | ha | rfl | ha | ⟨i, hi, ha⟩
      · show w.heap.size ≤ w.heap.size + 1; omega
      · exact KL.out i hi
      · exact KO.out a ha
      · exact Nat.le_refl _
      · simp [Value.ownBlock] at ha
      · simp [Value.ownBlock] at ha
end Go.Proofs.Ytbfhohcimomphaa
