/- IrqPlays: of any lines it is told whether they may be; whatever is raised, acknowledged and masked, whenever: each answer, what pends, and how each line stands, is what the document says. No condition. -/
import Derived.Test.YtbdhmjlbogjkoaaIrqJoint
import Derived.Test.YtbdhmjlbogjkoaaIrqArg
import Derived.Test.YtbdhmjlbogjkoaaRZone
import Derived.Deep.DeepCutAuto
import Derived.Deep.CutBlock
import Derived.Test.YtbdhmjlbogjkoaaIrqAwake
import Derived.Test.YtbdhmjlbogjkoaaArgs
import Derived.Test.YtbdhmjlbogjkoaaArg
import Derived.Test.YtbdhmjlbogjkoaaRows
import Derived.ProofKit
import Derived.OpenShut
import Derived.ShutString
import Derived.ChangeOld
import Derived.Below
import Derived.SizedLaws
namespace Go.Proofs.Ytbdhmjlbogjkoaa
open Go.ChangeShapes Go.WideShapes Go.ChangeAt Go.RowKit
open Go.ChangeMaps (open_string shut_string)
set_option linter.unusedVariables false
set_option linter.unusedSimpArgs false
namespace irqPlays
theorem triple_of {a b c : Option IntKind} {cs : List Value} (h : AllOk [a, b, c] cs) : ∃ x y z, cs = [x, y, z] ∧ CellOk a x ∧ CellOk b y ∧ CellOk c z := by
  match cs, h with
  | [x, y, z], ⟨hx, hy, hz, _⟩ => exact ⟨x, y, z, rfl, hx, hy, hz⟩
/-- The script: of each step its kind, how much later, of which line. -/
def Script (w : World) (A : Option Addr) (n : Nat) (K Wt V : Nat → Int) : Prop :=
  ∀ i, i < n → ∃ b off, A = some ⟨b, off, none⟩ ∧ b < w.heap.size ∧ w.cell? ⟨b, off + i * 3, none⟩ = some (.int .i64 (K i)) ∧ w.cell? ⟨b, off + i * 3 + 1, none⟩ = some (.int .u64 (Wt i)) ∧ w.cell? ⟨b, off + i * 3 + 2, none⟩ = some (.int .i64 (V i)) ∧ 0 ≤ Wt i ∧ Wt i ≤ 18446744073709551615 ∧ -9223372036854775808 ≤ V i ∧ V i ≤ 9223372036854775807
theorem script_of {w : World} {A : Option Addr} {n : Nat} {D : Nat → List Value} (h : Elems w [some .i64, some .u64, some .i64] A n D) : ∃ K Wt V, Script w A n K Wt V := by
  have key : ∀ i, ∃ (t : Int × Int × Int), i < n → D i = [.int .i64 t.1, .int .u64 t.2.1, .int .i64 t.2.2] ∧ (Lit.int .u64 t.2.1).wf = true ∧ (Lit.int .i64 t.2.2).wf = true := by
    intro i
    by_cases hi : i < n
    · obtain ⟨hok, _⟩ := h i hi
      obtain ⟨x, y, z, e, ⟨a, rfl, ha⟩, ⟨b, rfl, hb⟩, ⟨c, rfl, hc⟩⟩ := triple_of hok
      exact ⟨(a, b, c), fun _ => ⟨e, hb, hc⟩⟩
    · exact ⟨(0, 0, 0), fun h => absurd h hi⟩
  refine ⟨fun i => (key i).choose.1, fun i => (key i).choose.2.1, fun i => (key i).choose.2.2, fun i hi => ?_⟩
  have hD := (key i).choose_spec hi
  obtain ⟨b, off, e, hb, hc⟩ := rows_of h (by simp) i hi
  refine ⟨b, off, e, hb, ?_, ?_, ?_, (bounds_u64 hD.2.1).1, (bounds_u64 hD.2.1).2, (bounds_i64 hD.2.2).1, (bounds_i64 hD.2.2).2⟩
  · have := hc i 0 hi (by simp)
    rw [hD.1] at this
    simpa using this
  · have := hc i 1 hi (by simp)
    rw [hD.1] at this
    simpa [Nat.add_assoc] using this
  · have := hc i 2 hi (by simp)
    rw [hD.1] at this
    simpa [Nat.add_assoc] using this
theorem lns_of {w : World} {A : Option Addr} {n : Nat} {D : Nat → List Value} (h : Elems w [some .i64, some .u64, some .i64, some .u64, some .i64, some .u64] A n D) : ∃ L : Nat → Lp, Lns w A n L ∧ ∀ i, i < n → (L i).rng := by
  have key : ∀ i, i < n → ∃ l : Lp, D i = lpCells l ∧ l.rng := fun i hi => lineOf (h i hi).1
  obtain ⟨L, hL⟩ : ∃ L : Nat → Lp, ∀ i, i < n → D i = lpCells (L i) ∧ (L i).rng :=
    ⟨fun i => if hi : i < n then (key i hi).choose else ⟨0, 0, 0, 0, 0, 0⟩, fun i hi => by simp only [hi, dif_pos]; exact (key i hi).choose_spec⟩
  refine ⟨L, fun i hi => ?_, fun i hi => (hL i hi).2⟩
  obtain ⟨b, off, e, hb, hc⟩ := rows_of h (by simp) i hi
  have h0 := hc i 0 hi (by simp)
  have h1 := hc i 1 hi (by simp)
  have h2 := hc i 2 hi (by simp)
  have h3 := hc i 3 hi (by simp)
  have h4 := hc i 4 hi (by simp)
  have h5 := hc i 5 hi (by simp)
  rw [(hL i hi).1] at h0 h1 h2 h3 h4 h5
  refine ⟨b, off, e, hb, by simpa [lpCells] using h0, ?_, ?_, ?_, ?_, ?_⟩
  · rw [Nat.add_assoc]; simpa [lpCells] using h1
  · rw [Nat.add_assoc]; simpa [lpCells] using h2
  · rw [Nat.add_assoc]; simpa [lpCells] using h3
  · rw [Nat.add_assoc]; simpa [lpCells] using h4
  · rw [Nat.add_assoc]; simpa [lpCells] using h5
def SZ (wr : World) (kd wd vd : Int) (W : World) : Prop := Blk W wr.heap.size 49 [.int .i64 kd, .int .u64 wd, .int .i64 vd]
def MidR (w : World) (p q n j : Nat) (wx : World) : Prop := J w.heap.size wx p q n j ∧ Below w.heap.size w wx
def SV (wr : World) (W : World) : Prop := Below wr.heap.size wr W
def Post (w : World) (e : Ending) (w' : World) : Prop := e = .returned (.bool true) ∧ Below w.heap.size w w'
def Rel1 (n : Nat) (w1 : World) (iv : Value) (wr : World) : Prop := ∃ i : Nat, iv = .int .i64 i ∧ i ≤ n ∧ Below w1.heap.size w1 wr
def Rel2 (w : World) (p q n m : Nat) (tv iv : Value) (wr : World) : Prop := ∃ (i : Nat) (t : Int), iv = .int .i64 i ∧ tv = .int .u64 t ∧ 0 ≤ t ∧ t ≤ 18446744073709551615 ∧ i ≤ m ∧ i ≤ 120 ∧ J w.heap.size wr p q n i ∧ Below w.heap.size w wr
def Rel3 (n : Nat) (w4 : World) (kv : Value) (wr : World) : Prop := ∃ k : Nat, kv = .int .i64 k ∧ k ≤ n ∧ Below w4.heap.size w4 wr
set_option maxRecDepth 100000 in
set_option maxHeartbeats 8000000 in
theorem walk2 (w : World) (A : Option Addr) (n cap : Nat) (L : Nat → Lp) (hA : Hid (Lns w A n L)) (hL : Hid (∀ i, i < n → (L i).rng)) (hn9 : n ≤ 140737488351232) (B : Option Addr) (m bc : Nat) (K Wt V : Nat → Int) (hS : Hid (Script w B m K Wt V)) (hm9 : m ≤ 140737488351232) :
    Calls Try.prog 5 #[.slice A n cap, .slice B m bc] w (Post w) := by
  by_cases h40 : n ≤ 40
  · have d40 : decide (40 < (n : Int)) = false := decide_eq_false (by omega)
    by_cases hall : allI n L
    · have HALL := Lib.hid hall
      have HLO : Hid (∀ i, i < n → (L i).ok) := fun i hi => mayI_ok (hL.out i hi) (hall.2.2 i hi)
      have hn1 := hall.1
      have hn16 := hall.2.1
      clear hall
      go_enter Try.func5, Try.ntmps5
      go_wp2_with (go_at_call 9; (with_reducible refine Calls.mono (awake_any _) ?_); rintro e w0 ⟨rfl, b0⟩; have B0 := Lib.hid b0; clear b0)
      go_at_call 11
      (with_reducible refine Calls.mono (newi_any w0 A n cap L (Lib.hid (hA.out.below B0.out)) HLO hn1 hn16) ?_)
      rintro e w1 ⟨p, ds, rfl, hI, hlo, b1⟩
      have HI := Lib.hid hI
      have HLO1 := Lib.hid (show ∀ y, ownI p ds y → w.heap.size ≤ y from fun y hy => Nat.le_trans B0.out.size (hlo y hy))
      have B1 := Lib.hid (Below.next B0.out b1)
      clear hI hlo b1
      go_wp2_with fail
      go_loopw [7] (fun iv wr => Hid (Rel1 n w1 iv wr)) (fun iv _ => n - (intOf iv).toNat)
      case atStart => exact ⟨0, rfl, by omega, Below.refl _ _⟩
      case round =>
        obtain ⟨i, rfl, hi, hb⟩ := hrel
        have HB := Lib.hid hb
        have HBW := Lib.hid (Below.next B1.out hb)
        clear hb
        by_cases hin : i < n
        · have hi2 : (i : Int) < n := by omega
          obtain ⟨ab, ao, rfl, hlt, c0, c1, c2, c3, c4, c5⟩ := (hA.out.below HBW.out) i hin
          have g1 : IntKind.i64.wrap ((i : Int) + 1) = i + 1 := IntWalk.i64_in _ (by omega)
          have rg := hL.out i hin
          have M1 := fun W => Lib.hid (mayi_any (L i) rg W)
          have M2 := fun W => Lib.hid (rmay13_any (L i) rg W)
          clear rg
          generalize L i = l at *
          obtain ⟨lc, lh, ld, lq, lsx, lz⟩ := l
          simp only at *
          have LC : Hid (∀ W, SV wr W → W.cell? ⟨ab, ao + i * 6, none⟩ = some (.int .i64 lc) ∧ W.cell? ⟨ab, ao + i * 6 + 1, none⟩ = some (.int .u64 lh) ∧ W.cell? ⟨ab, ao + i * 6 + 2, none⟩ = some (.int .i64 ld) ∧ W.cell? ⟨ab, ao + i * 6 + 3, none⟩ = some (.int .u64 lq) ∧ W.cell? ⟨ab, ao + i * 6 + 4, none⟩ = some (.int .i64 lsx) ∧ W.cell? ⟨ab, ao + i * 6 + 5, none⟩ = some (.int .u64 lz) ∧ ab < W.heap.size) := fun W s => by
            have e := fun j => Below.cell s (p := ⟨ab, j, none⟩) hlt
            exact ⟨(e _).trans c0, (e _).trans c1, (e _).trans c2, (e _).trans c3, (e _).trans c4, (e _).trans c5, Nat.lt_of_lt_of_le hlt s.size⟩
          have S0 : Hid (SV wr wr.drew) := (Below.refl _ _).drew
          clear c0 c1 c2 c3 c4 c5 hlt
          go_wp2_with fail
          refine wp_region_zone (SV wr) (fun j => true) (by kernel_rfl) ?_
          refine wpAnyZ_move (i := 0) (v := ?_) rfl (by kernel_rfl) (by kernel_rfl) (by kernel_rfl) (fun _ _ _ h => h) (Or.inl ⟨by rfl, ?_⟩) ?_
          (rotate_left 1; (focus (intro W; go_simp; try with_reducible rfl)))
          try simp only [Act.put, List.setIfInBounds_toArray, List.set_cons_zero, List.set_cons_succ, List.getElem_toArray, List.getElem_cons_succ, List.getElem_cons_zero]
          refine wpAnyZ_move (i := 1) (v := ?_) rfl (by kernel_rfl) (by kernel_rfl) (by kernel_rfl) (fun _ _ _ h => h) (Or.inl ⟨by rfl, ?_⟩) ?_
          (rotate_left 1; (focus (intro W; go_simp; try with_reducible rfl)))
          try simp only [Act.put, List.setIfInBounds_toArray, List.set_cons_zero, List.set_cons_succ, List.getElem_toArray, List.getElem_cons_succ, List.getElem_cons_zero]
          refine wpAnyZ_move (i := 2) (v := ?_) rfl (by kernel_rfl) (by kernel_rfl) (by kernel_rfl) (fun _ _ _ h => h) (Or.inl ⟨by rfl, ?_⟩) ?_
          (rotate_left 1; (focus (intro W; go_simp; try with_reducible rfl)))
          try simp only [Act.put, List.setIfInBounds_toArray, List.set_cons_zero, List.set_cons_succ, List.getElem_toArray, List.getElem_cons_succ, List.getElem_cons_zero]
          refine wpAnyZ_take (i := 3) (v := ?_) rfl (by kernel_rfl) (by kernel_rfl) (by kernel_rfl) (by kernel_rfl) (fun _ _ _ h => h) (Or.inl ⟨by rfl, ?_⟩) S0.out ?_
          (rotate_left 1; (focus (intro W hS; obtain ⟨q0, q1, q2, q3, q4, q5, ql⟩ := LC.out W hS; go_simp; try with_reducible rfl)))
          try simp only [Act.put, List.setIfInBounds_toArray, List.set_cons_zero, List.set_cons_succ, List.getElem_toArray, List.getElem_cons_succ, List.getElem_cons_zero]
          refine wpAnyZ_move (i := 5) (v := ?_) rfl (by kernel_rfl) (by kernel_rfl) (by kernel_rfl) (fun _ _ _ h => h) (Or.inl ⟨by rfl, ?_⟩) ?_
          (rotate_left 1; (focus (intro W; go_simp; try with_reducible rfl)))
          try simp only [Act.put, List.setIfInBounds_toArray, List.set_cons_zero, List.set_cons_succ, List.getElem_toArray, List.getElem_cons_succ, List.getElem_cons_zero]
          refine wpAnyZ_move (i := 6) (v := ?_) rfl (by kernel_rfl) (by kernel_rfl) (by kernel_rfl) (fun _ _ _ h => h) (Or.inl ⟨by rfl, ?_⟩) ?_
          (rotate_left 1; (focus (intro W; go_simp; try with_reducible rfl)))
          try simp only [Act.put, List.setIfInBounds_toArray, List.set_cons_zero, List.set_cons_succ, List.getElem_toArray, List.getElem_cons_succ, List.getElem_cons_zero]
          refine wpAnyZ_move (i := 7) (v := ?_) rfl (by kernel_rfl) (by kernel_rfl) (by kernel_rfl) (fun _ _ _ h => h) (Or.inl ⟨by rfl, ?_⟩) ?_
          (rotate_left 1; (focus (intro W; go_simp; try with_reducible rfl)))
          try simp only [Act.put, List.setIfInBounds_toArray, List.set_cons_zero, List.set_cons_succ, List.getElem_toArray, List.getElem_cons_succ, List.getElem_cons_zero]
          refine wpAnyZ_take (i := 8) (v := ?_) rfl (by kernel_rfl) (by kernel_rfl) (by kernel_rfl) (by kernel_rfl) (fun _ _ _ h => h) (Or.inl ⟨by rfl, ?_⟩) S0.out ?_
          (rotate_left 1; (focus (intro W hS; obtain ⟨q0, q1, q2, q3, q4, q5, ql⟩ := LC.out W hS; go_simp; try with_reducible rfl)))
          try simp only [Act.put, List.setIfInBounds_toArray, List.set_cons_zero, List.set_cons_succ, List.getElem_toArray, List.getElem_cons_succ, List.getElem_cons_zero]
          refine wpAnyZ_one (i := 4) (by kernel_rfl) rfl (fun K hK => ?_)
          go_simp
          go_wp2_with (go_at_call 17; (with_reducible refine Calls.mono (M1 _).out ?_); rintro e wa ⟨rfl, ba⟩; have SA : Hid (SV wr wa) := Lib.hid (Below.next S0.out ba); clear ba)
          refine hK.out _ _ (fun _ _ => SA.out) ?_
          clear hK K
          refine wpAnyZ_one (i := 9) (by kernel_rfl) rfl (fun K hK => ?_)
          go_simp
          go_wp2_with (go_at_call 10; (with_reducible refine Calls.mono (M2 _).out ?_); rintro e wb ⟨rfl, bb⟩; have SBb : Hid (SV wr wb) := Lib.hid (Below.next SA.out bb); clear bb)
          refine hK.out _ _ (fun _ _ => SBb.out) ?_
          clear hK K
          refine wpAnyZ_move (i := 10) (v := ?_) rfl (by kernel_rfl) (by kernel_rfl) (by kernel_rfl) (fun _ _ _ h => h) (Or.inl ⟨by rfl, ?_⟩) ?_
          (rotate_left 1; (focus (intro W; go_simp; try with_reducible rfl)))
          try simp only [Act.put, List.setIfInBounds_toArray, List.set_cons_zero, List.set_cons_succ, List.getElem_toArray, List.getElem_cons_succ, List.getElem_cons_zero]
          refine wpAnyZ_done (by kernel_rfl) ?_ _
          go_wp2_with fail
          go_roundw
          case rel => exact ⟨i + 1, by go_num, by omega, Below.next HB.out SBb.out⟩
          case measure => simp [intOf]; omega
        · obtain rfl : i = n := by omega
          have hi2 : ¬ (i : Int) < i := by omega
          go_wp2_with fail
          go_at_call 18
          (with_reducible refine Calls.mono (rall_any _ A i cap L (Lib.hid (hA.out.below HBW.out)) hL hn9) ?_)
          rintro e w2 ⟨r, rfl, hr, b2⟩
          have B2 := Lib.hid (Below.next HBW.out b2)
          have BI2 := Lib.hid (Below.next HB.out b2)
          clear b2
          obtain rfl := hr.2 HALL.out
          clear hr
          go_wp2_with fail
          go_at_call 19
          (with_reducible refine Calls.mono (rnew13_any _ A i cap L (Lib.hid (hA.out.below B2.out)) HLO hn1 hn16) ?_)
          rintro e w3 ⟨q, sv, av, rfl, hR, hro, b3⟩
          have ilt := (HI.out.below BI2.out)
          have hJ : J w.heap.size w3 p q i 0 := ⟨0, ds, sv, av, _, _, ilt.below b3, hR, fun y hy hr => by have := hro y hr; have := ilt.lt hy; omega, HLO1.out, fun y hy => Nat.le_trans B2.out.size (hro y hy), fun j n R hn hR => by
            have hj := (List.getElem?_eq_some_iff.1 hn).1
            rw [newLs_length] at hj
            rw [newLs_at L hj] at hn
            unfold noRs at hR
            rw [List.getElem?_replicate, if_pos hj] at hR
            injection hn with hn; injection hR with hR
            subst hn hR
            exact (Inv.new (HLO.out j hj)).mono (Int.le_refl 0) (by simp) (Nat.le_refl 0), newLs_length L i, hn1, hn16, Int.le_refl 0, (show (0 : Int) < 4611686018427387904 from by decide), Nat.le_trans B2.out.size b3.size⟩
          have HJ := Lib.hid hJ
          have B3 := Lib.hid (Below.next B2.out b3)
          clear hR hro b3 ilt hJ
          go_wp2_with fail
          go_loopw [9, 10] (fun tv iv wr => Hid (Rel2 w p q i m tv iv wr)) (fun _ iv _ => m - (intOf iv).toNat)
          case atStart => exact ⟨0, 0, rfl, rfl, Int.le_refl 0, (show (0 : Int) ≤ 18446744073709551615 from by decide), by omega, by omega, HJ.out, B3.out⟩
          case round =>
            obtain ⟨j, t, rfl, rfl, ht0, ht1, hj, hj120, hJr, hbr⟩ := hrel
            have HJR := Lib.hid hJr
            have HBR := Lib.hid hbr
            clear hJr hbr HJ
            by_cases hjm : j < m
            · have hjm2 : (j : Int) < m := by omega
              by_cases hj12 : j < 120
              · have hj122 : (j : Int) < 120 := by omega
                have dj1 : decide ((j : Int) < m) = true := decide_eq_true hjm2
                have dj2 : decide ((j : Int) < 120) = true := decide_eq_true hj122
                have gj1 : IntKind.i64.wrap ((j : Int) + 1) = j + 1 := IntWalk.i64_in _ (by omega)
                obtain ⟨sb, so, rfl, hslt, s0, s1, s2, wt0, wt1, v0, v1⟩ := hS.out j hjm
                have s0 := (HBR.out.cell (p := ⟨sb, so + j * 3, none⟩) hslt).trans s0
                have s1 := (HBR.out.cell (p := ⟨sb, so + j * 3 + 1, none⟩) hslt).trans s1
                have s2 := (HBR.out.cell (p := ⟨sb, so + j * 3 + 2, none⟩) hslt).trans s2
                have hslt2 := Nat.lt_of_lt_of_le hslt HBR.out.size
                generalize K j = kd at *
                generalize Wt j = wd at *
                generalize V j = vd at *
                obtain ⟨T, hTw⟩ : ∃ T, IntKind.u64.wrap (t + wd) = T := ⟨_, rfl⟩
                have hT0 : 0 ≤ T := by rw [← hTw]; exact wrap_u64_nonneg _
                have hT1 : T ≤ 18446744073709551615 := by rw [← hTw, IntKind.wrap_u64]; omega
                have BAL : ∀ a, Below wr.heap.size wr (wr.alloc (.cells #[.int .i64 a, .int .u64 wd, .int .i64 vd] 49)) := fun a => (Below.refl wr.heap.size wr).alloc (Nat.le_refl _) _
                have HDL : ∀ a, wr.heap.size < (wr.alloc (.cells #[.int .i64 a, .int .u64 wd, .int .i64 vd] 49)).heap.size := fun a => by simp
                have DB := Lib.hid (Blk.new wr 49 [.int .i64 kd, .int .u64 wd, .int .i64 vd])
                have HBA := Lib.hid (HBR.out.alloc HBR.out.size (.cells #[.int .i64 kd, .int .u64 wd, .int .i64 vd] 49))
                go_upto_block 4 with (fail)
                go_cut [12, 13, 14, 15, 16, 17, 18, 19] (fun _ _ _ _ _ _ _ _ wx => Hid (MidR w p q i (j + 1) wx))
                case first =>
                  by_cases k0 : kd = 0
                  · subst k0
                    as_aux_lemma =>
                      obtain ⟨x, cd, Mid, c1, c2⟩ := raise_both HJR.out (BAL 0) (HDL 0) (by omega) T vd hT0 hT1 ⟨v0, v1⟩
                      have C1 := Lib.hid c1
                      have C2 := Lib.hid c2
                      clear c1 c2
                      go_wp2_with fail
                      go_at_call 12
                      (with_reducible refine Calls.mono C1.out ?_)
                      rintro e w4 ⟨rfl, md, b4, hd4, hdl4⟩
                      have db4 : Blk w4 wr.heap.size 49 [.int .i64 0, .int .u64 wd, .int .i64 vd] := hd4.trans DB.out
                      have dk4 : w4.cell? ⟨wr.heap.size, 0, none⟩ = some (.int .i64 0) := db4.cell 0
                      have dv4 : w4.cell? ⟨wr.heap.size, 2, none⟩ = some (.int .i64 vd) := db4.cell 2
                      have MD := Lib.hid md
                      have B4 := Lib.hid b4
                      clear md b4 hd4 db4
                      go_wp2_with fail
                      go_at_call 20
                      (with_reducible refine Calls.mono (C2.out _ MD.out) ?_)
                      rintro e wx ⟨rfl, jx, b6, -⟩
                      have JX := Lib.hid jx
                      have BX := Lib.hid ((HBA.out.trans B4.out).trans b6)
                      clear jx b6 MD C1 C2 B4 hdl4 dk4 dv4
                      go_wp2_with fail
                      go_meet
                      exact ⟨JX.out, BX.out⟩
                  by_cases k1 : kd = 1
                  · subst k1
                    as_aux_lemma =>
                      obtain ⟨cd, Mid, c1, c2⟩ := go_both HJR.out (BAL 1) (HDL 1) (by omega) T hT0 hT1
                      have C1 := Lib.hid c1
                      have C2 := Lib.hid c2
                      clear c1 c2
                      go_wp2_with fail
                      go_at_call 13
                      (with_reducible refine Calls.mono C1.out ?_)
                      rintro e w4 ⟨rfl, md, b4, hd4, hdl4⟩
                      have db4 : Blk w4 wr.heap.size 49 [.int .i64 1, .int .u64 wd, .int .i64 vd] := hd4.trans DB.out
                      have dk4 : w4.cell? ⟨wr.heap.size, 0, none⟩ = some (.int .i64 1) := db4.cell 0
                      have dv4 : w4.cell? ⟨wr.heap.size, 2, none⟩ = some (.int .i64 vd) := db4.cell 2
                      have MD := Lib.hid md
                      have B4 := Lib.hid b4
                      clear md b4 hd4 db4
                      go_wp2_with fail
                      go_at_call 21
                      (with_reducible refine Calls.mono (C2.out _ MD.out) ?_)
                      rintro e wx ⟨rfl, jx, b6, -⟩
                      have JX := Lib.hid jx
                      have BX := Lib.hid ((HBA.out.trans B4.out).trans b6)
                      clear jx b6 MD C1 C2 B4 hdl4 dk4 dv4
                      go_wp2_with fail
                      go_meet
                      exact ⟨JX.out, BX.out⟩
                  by_cases k2 : kd = 2
                  · subst k2
                    as_aux_lemma =>
                      obtain ⟨x, cd, Mid, c1, c2⟩ := ack_both HJR.out (BAL 2) (HDL 2) (by omega) T vd hT0 hT1 ⟨v0, v1⟩
                      have C1 := Lib.hid c1
                      have C2 := Lib.hid c2
                      clear c1 c2
                      go_wp2_with fail
                      go_at_call 14
                      (with_reducible refine Calls.mono C1.out ?_)
                      rintro e w4 ⟨rfl, md, b4, hd4, hdl4⟩
                      have db4 : Blk w4 wr.heap.size 49 [.int .i64 2, .int .u64 wd, .int .i64 vd] := hd4.trans DB.out
                      have dk4 : w4.cell? ⟨wr.heap.size, 0, none⟩ = some (.int .i64 2) := db4.cell 0
                      have dv4 : w4.cell? ⟨wr.heap.size, 2, none⟩ = some (.int .i64 vd) := db4.cell 2
                      have MD := Lib.hid md
                      have B4 := Lib.hid b4
                      clear md b4 hd4 db4
                      go_wp2_with fail
                      go_at_call 22
                      (with_reducible refine Calls.mono (C2.out _ MD.out) ?_)
                      rintro e wx ⟨rfl, jx, b6, -⟩
                      have JX := Lib.hid jx
                      have BX := Lib.hid ((HBA.out.trans B4.out).trans b6)
                      clear jx b6 MD C1 C2 B4 hdl4 dk4 dv4
                      go_wp2_with fail
                      go_meet
                      exact ⟨JX.out, BX.out⟩
                  as_aux_lemma =>
                    have k0b : (kd == 0) = false := beq_eq_false_iff_ne.2 k0
                    have k1b : (kd == 1) = false := beq_eq_false_iff_ne.2 k1
                    have k2b : (kd == 2) = false := beq_eq_false_iff_ne.2 k2
                    obtain ⟨on, hon⟩ : ∃ on, (kd == 3) = on := ⟨_, rfl⟩
                    obtain ⟨cd, Mid, c1, c2⟩ := mask_both (w := (wr.alloc (.cells #[.int .i64 kd, .int .u64 wd, .int .i64 vd] 49)).drew) HJR.out (BAL kd).drew (HDL kd) (by omega) T vd hT0 hT1 ⟨v0, v1⟩ on
                    have C1 := Lib.hid c1
                    have C2 := Lib.hid c2
                    clear c1 c2
                    have SZ0 : Hid (SZ wr kd wd vd (wr.alloc (.cells #[.int .i64 kd, .int .u64 wd, .int .i64 vd] 49)).drew) := DB.out.drew
                    go_wp2_with fail
                    refine wp_region_zone (SZ wr kd wd vd) (fun j => true) (by kernel_rfl) ?_
                    refine wpAnyZ_move (i := 0) (v := ?_) rfl (by kernel_rfl) (by kernel_rfl) (by kernel_rfl) (fun _ _ _ h => h) (Or.inl ⟨by rfl, ?_⟩) ?_
                    (rotate_left 1; (focus (intro W; go_simp; try with_reducible rfl)))
                    try simp only [Act.put, List.setIfInBounds_toArray, List.set_cons_zero, List.set_cons_succ, List.getElem_toArray, List.getElem_cons_succ, List.getElem_cons_zero]
                    refine wpAnyZ_move (i := 1) (v := ?_) rfl (by kernel_rfl) (by kernel_rfl) (by kernel_rfl) (fun _ _ _ h => h) (Or.inl ⟨by rfl, ?_⟩) ?_
                    (rotate_left 1; (focus (intro W; go_simp; try with_reducible rfl)))
                    try simp only [Act.put, List.setIfInBounds_toArray, List.set_cons_zero, List.set_cons_succ, List.getElem_toArray, List.getElem_cons_succ, List.getElem_cons_zero]
                    refine wpAnyZ_move (i := 2) (v := ?_) rfl (by kernel_rfl) (by kernel_rfl) (by kernel_rfl) (fun _ _ _ h => h) (Or.inl ⟨by rfl, ?_⟩) ?_
                    (rotate_left 1; (focus (intro W; go_simp; try with_reducible rfl)))
                    try simp only [Act.put, List.setIfInBounds_toArray, List.set_cons_zero, List.set_cons_succ, List.getElem_toArray, List.getElem_cons_succ, List.getElem_cons_zero]
                    refine wpAnyZ_take (i := 3) (v := ?_) rfl (by kernel_rfl) (by kernel_rfl) (by kernel_rfl) (by kernel_rfl) (fun _ _ _ h => h) (Or.inl ⟨by rfl, ?_⟩) SZ0.out ?_
                    (rotate_left 1; (focus (intro W hS; have z2 : W.cell? ⟨wr.heap.size, 2, none⟩ = some (.int .i64 vd) := hS.cell 2; have zl := hS.lt; go_simp; try with_reducible rfl)))
                    try simp only [Act.put, List.setIfInBounds_toArray, List.set_cons_zero, List.set_cons_succ, List.getElem_toArray, List.getElem_cons_succ, List.getElem_cons_zero]
                    refine wpAnyZ_move (i := 4) (v := ?_) rfl (by kernel_rfl) (by kernel_rfl) (by kernel_rfl) (fun _ _ _ h => h) (Or.inl ⟨by rfl, ?_⟩) ?_
                    (rotate_left 1; (focus (intro W; go_simp; try with_reducible rfl)))
                    try simp only [Act.put, List.setIfInBounds_toArray, List.set_cons_zero, List.set_cons_succ, List.getElem_toArray, List.getElem_cons_succ, List.getElem_cons_zero]
                    refine wpAnyZ_take (i := 5) (v := ?_) rfl (by kernel_rfl) (by kernel_rfl) (by kernel_rfl) (by kernel_rfl) (fun _ _ _ h => h) (Or.inl ⟨by rfl, ?_⟩) SZ0.out ?_
                    (rotate_left 1; (focus (intro W hS; have z2 : W.cell? ⟨wr.heap.size, 0, none⟩ = some (.int .i64 kd) := hS.cell 0; have zl := hS.lt; go_simp; try with_reducible rfl)))
                    try simp only [Act.put, List.setIfInBounds_toArray, List.set_cons_zero, List.set_cons_succ, List.getElem_toArray, List.getElem_cons_succ, List.getElem_cons_zero]
                    refine wpAnyZ_move (i := 6) (v := ?_) rfl (by kernel_rfl) (by kernel_rfl) (by kernel_rfl) (fun _ _ _ h => h) (Or.inl ⟨by rfl, ?_⟩) ?_
                    (rotate_left 1; (focus (intro W; go_simp; try with_reducible rfl)))
                    try simp only [Act.put, List.setIfInBounds_toArray, List.set_cons_zero, List.set_cons_succ, List.getElem_toArray, List.getElem_cons_succ, List.getElem_cons_zero]
                    refine wpAnyZ_move (i := 8) (v := ?_) rfl (by kernel_rfl) (by kernel_rfl) (by kernel_rfl) (fun _ _ _ h => h) (Or.inl ⟨by rfl, ?_⟩) ?_
                    (rotate_left 1; (focus (intro W; go_simp; try with_reducible rfl)))
                    try simp only [Act.put, List.setIfInBounds_toArray, List.set_cons_zero, List.set_cons_succ, List.getElem_toArray, List.getElem_cons_succ, List.getElem_cons_zero]
                    refine wpAnyZ_move (i := 9) (v := ?_) rfl (by kernel_rfl) (by kernel_rfl) (by kernel_rfl) (fun _ _ _ h => h) (Or.inl ⟨by rfl, ?_⟩) ?_
                    (rotate_left 1; (focus (intro W; go_simp; try with_reducible rfl)))
                    try simp only [Act.put, List.setIfInBounds_toArray, List.set_cons_zero, List.set_cons_succ, List.getElem_toArray, List.getElem_cons_succ, List.getElem_cons_zero]
                    refine wpAnyZ_move (i := 10) (v := ?_) rfl (by kernel_rfl) (by kernel_rfl) (by kernel_rfl) (fun _ _ _ h => h) (Or.inl ⟨by rfl, ?_⟩) ?_
                    (rotate_left 1; (focus (intro W; go_simp; try with_reducible rfl)))
                    try simp only [Act.put, List.setIfInBounds_toArray, List.set_cons_zero, List.set_cons_succ, List.getElem_toArray, List.getElem_cons_succ, List.getElem_cons_zero]
                    refine wpAnyZ_take (i := 11) (v := ?_) rfl (by kernel_rfl) (by kernel_rfl) (by kernel_rfl) (by kernel_rfl) (fun _ _ _ h => h) (Or.inl ⟨by rfl, ?_⟩) SZ0.out ?_
                    (rotate_left 1; (focus (intro W hS; have z2 : W.cell? ⟨wr.heap.size, 2, none⟩ = some (.int .i64 vd) := hS.cell 2; have zl := hS.lt; go_simp; try with_reducible rfl)))
                    try simp only [Act.put, List.setIfInBounds_toArray, List.set_cons_zero, List.set_cons_succ, List.getElem_toArray, List.getElem_cons_succ, List.getElem_cons_zero]
                    refine wpAnyZ_move (i := 12) (v := ?_) rfl (by kernel_rfl) (by kernel_rfl) (by kernel_rfl) (fun _ _ _ h => h) (Or.inl ⟨by rfl, ?_⟩) ?_
                    (rotate_left 1; (focus (intro W; go_simp; try with_reducible rfl)))
                    try simp only [Act.put, List.setIfInBounds_toArray, List.set_cons_zero, List.set_cons_succ, List.getElem_toArray, List.getElem_cons_succ, List.getElem_cons_zero]
                    refine wpAnyZ_take (i := 13) (v := ?_) rfl (by kernel_rfl) (by kernel_rfl) (by kernel_rfl) (by kernel_rfl) (fun _ _ _ h => h) (Or.inl ⟨by rfl, ?_⟩) SZ0.out ?_
                    (rotate_left 1; (focus (intro W hS; have z2 : W.cell? ⟨wr.heap.size, 0, none⟩ = some (.int .i64 kd) := hS.cell 0; have zl := hS.lt; go_simp; try with_reducible rfl)))
                    try simp only [Act.put, List.setIfInBounds_toArray, List.set_cons_zero, List.set_cons_succ, List.getElem_toArray, List.getElem_cons_succ, List.getElem_cons_zero]
                    refine wpAnyZ_move (i := 14) (v := ?_) rfl (by kernel_rfl) (by kernel_rfl) (by kernel_rfl) (fun _ _ _ h => h) (Or.inl ⟨by rfl, ?_⟩) ?_
                    (rotate_left 1; (focus (intro W; go_simp; try with_reducible rfl)))
                    try simp only [Act.put, List.setIfInBounds_toArray, List.set_cons_zero, List.set_cons_succ, List.getElem_toArray, List.getElem_cons_succ, List.getElem_cons_zero]
                    refine wpAnyZ_one (i := 7) (by kernel_rfl) rfl (fun K hK => ?_)
                    go_simp
                    go_wp2_with (go_at_call 23; (with_reducible refine Calls.mono C1.out ?_); rintro e w4 ⟨rfl, md, b4, hd4, hdl4⟩; have MD := Lib.hid md; have B4 := Lib.hid b4; have HD4 := Lib.hid hd4; clear md b4 hd4)
                    refine hK.out _ _ (fun _ hS => HD4.out.trans hS) ?_
                    clear hK K
                    refine wpAnyZ_one (i := 15) (by kernel_rfl) rfl (fun K hK => ?_)
                    go_simp
                    go_wp2_with (go_at_call 24; (with_reducible refine Calls.mono (C2.out _ MD.out) ?_); rintro e wx ⟨rfl, jx, b6, hd6⟩; have JX := Lib.hid jx; have BX := Lib.hid (((HBA.out.drew).trans B4.out).trans b6); have HD6 := Lib.hid hd6; clear jx b6 hd6)
                    refine hK.out _ _ (fun _ hS => HD6.out.trans hS) ?_
                    clear hK K
                    refine wpAnyZ_move (i := 16) (v := ?_) rfl (by kernel_rfl) (by kernel_rfl) (by kernel_rfl) (fun _ _ _ h => h) (Or.inl ⟨by rfl, ?_⟩) ?_
                    (rotate_left 1; (focus (intro W; go_simp; try with_reducible rfl)))
                    try simp only [Act.put, List.setIfInBounds_toArray, List.set_cons_zero, List.set_cons_succ, List.getElem_toArray, List.getElem_cons_succ, List.getElem_cons_zero]
                    refine wpAnyZ_done (by kernel_rfl) ?_ _
                    go_wp2_with fail
                    go_meet
                    exact ⟨JX.out, BX.out⟩
                case rest =>
                  as_aux_lemma =>
                    obtain ⟨jx, bx⟩ := hcut.out
                    have JX := Lib.hid jx
                    have BX := Lib.hid bx
                    clear jx bx hcut DB HBA
                    obtain ⟨c, ds2, sv2, av2, ls2, Rs2, kj⟩ := JX.out
                    obtain ⟨px, py, pb, PB⟩ := pend_both kj (fun n hn => (kj.okH n hn).p0)
                    have PBH := Lib.hid PB
                    have KJ := Lib.hid kj
                    have hlen2 := Lib.hid kj.len
                    have hc0 := kj.c0
                    have hc1 := kj.c1
                    clear PB kj
                    go_wp2_with fail
                    go_at_call 25
                    (with_reducible refine Calls.mono (PBH.out _ (Below.refl _ _)).1 ?_)
                    rintro e wy ⟨rfl, by1⟩
                    have BY := Lib.hid by1
                    clear by1
                    go_wp2_with fail
                    go_at_call 26
                    (with_reducible refine Calls.mono (PBH.out _ BY.out).2 ?_)
                    rintro e wz ⟨rfl, bz⟩
                    have BZ := Lib.hid (Below.next BY.out bz)
                    clear bz PBH
                    go_wp2_with fail
                    go_loopw [26] (fun kv wr => Hid (Rel3 i wz kv wr)) (fun kv _ => i - (intOf kv).toNat)
                    case atStart => exact ⟨0, rfl, by omega, Below.refl _ _⟩
                    case round =>
                      obtain ⟨k, rfl, hk, hbk⟩ := hrel
                      have kk2 := (KJ.out.below BZ.out).below hbk
                      have HBK := Lib.hid hbk
                      have KK2 := Lib.hid kk2
                      clear hbk
                      by_cases hkn : k < i
                      · have hk2 : (k : Int) < i := by omega
                        have gk1 : IntKind.i64.wrap ((k : Int) + 1) = k + 1 := IntWalk.i64_in _ (by omega)
                        obtain ⟨nn, hnn⟩ : ∃ nn, ls2[k]? = some nn := ⟨_, List.getElem?_eq_getElem (by have := hlen2.out; omega)⟩
                        have ST := Lib.hid (state_any kk2.I k hnn)
                        have HNN := Lib.hid hnn
                        clear kk2 hnn
                        go_wp2_with fail
                        go_at_call 15
                        (with_reducible refine Calls.mono ST.out ?_)
                        rintro e w5 ⟨rfl, b5⟩
                        have k5 := KK2.out.below b5
                        obtain ⟨a5, R5, g5, off5, cp5, ha5, hR5, hl5, esv, hg5, hcl5, ngx5, nqx5⟩ := k5.R.find HNN.out
                        have hk5 : k < av2.length := (List.getElem?_eq_some_iff.1 ha5).1
                        have hk6 : (k : Int) < av2.length := by omega
                        have z05 : w5.cell? ⟨q, 0, none⟩ = some (.slice (some ⟨g5, off5, none⟩) av2.length cp5) := by rw [← esv]; exact k5.R.blk.cell 0
                        have hql5 := k5.R.blk.lt
                        have x85 : w5.cell? ⟨a5.x, 8, none⟩ = some (.int .i64 nn.held) := hl5.x.x.cell 8
                        have x95 : w5.cell? ⟨a5.x, 9, none⟩ = some (.int .i64 nn.pends) := hl5.x.x.cell 9
                        have x105 : w5.cell? ⟨a5.x, 10, none⟩ = some (.bool nn.masked) := hl5.x.x.cell 10
                        have hxl5 := hl5.x.x.lt
                        have B5 := Lib.hid (Below.next HBK.out b5)
                        clear b5 k5 ha5 hR5 hl5 esv ngx5 nqx5 ST KK2
                        generalize nn.masked = mk at *
                        go_wp2_with fail
                        try go_quiet (fail)
                        try go_wp2_with fail
                        go_roundw
                        case rel => exact ⟨k + 1, by go_num, by omega, by first | exact B5.out | exact Below.drewN' B5.out _⟩
                        case measure => simp [intOf]; omega
                      · obtain hki : k = i := by omega
                        subst hki
                        have hk2 : ¬ ((k : Nat) : Int) < k := by omega
                        have q1c : wr.cell? ⟨q, 1, none⟩ = some (.int .u64 c) := kk2.R.blk.cell 1
                        have hqlc := kk2.R.blk.lt
                        have hend := Below.next BX.out (Below.next BZ.out HBK.out)
                        have HEND := Lib.hid hend
                        have JEND : Hid (J w.heap.size wr p q k (j + 1)) := ⟨c, ds2, sv2, av2, ls2, Rs2, kk2⟩
                        clear kk2 hend
                        by_cases hT : 4611686018427387904 ≤ T
                        · have dT : decide (4611686018427387904 ≤ T) = true := decide_eq_true hT
                          go_wp2_with fail
                          go_roundw
                          case rel => exact ⟨j + 1, c, by go_num, rfl, hc0, by omega, by omega, by omega, JEND.out, HEND.out⟩
                          case measure => simp [intOf]; omega
                        · have dT : decide (4611686018427387904 ≤ T) = false := decide_eq_false hT
                          go_wp2_with fail
                          go_roundw
                          case rel => exact ⟨j + 1, T, by go_num, rfl, hT0, hT1, by omega, by omega, JEND.out, HEND.out⟩
                          case measure => simp [intOf]; omega
              · have hj120b : ¬ (j : Int) < 120 := by omega
                have dj1 : decide ((j : Int) < m) = true := decide_eq_true hjm2
                have dj2 : decide ((j : Int) < 120) = false := decide_eq_false hj120b
                go_wp2_with fail
                go_ret
                exact ⟨rfl, HBR.out⟩
            · have hjm2 : ¬ (j : Int) < m := by omega
              have dj1 : decide ((j : Int) < m) = false := decide_eq_false hjm2
              go_wp2_with fail
              go_ret
              exact ⟨rfl, HBR.out⟩
    · have HALL := Lib.hid hall
      clear hall
      go_enter Try.func5, Try.ntmps5
      go_wp2_with (go_at_call 9; (with_reducible refine Calls.mono (awake_any _) ?_); rintro e w0 ⟨rfl, b0⟩; have B0 := Lib.hid b0; clear b0)
      go_at_call 11
      (with_reducible refine Calls.mono (newi_no w0 A n cap L (Lib.hid (hA.out.below B0.out)) hL hn9 HALL) ?_)
      rintro e w1 ⟨rfl, b1⟩
      have B1 := Lib.hid (Below.next B0.out b1)
      clear b1
      go_wp2_with fail
      go_loopw [7] (fun iv wr => Hid (Rel1 n w1 iv wr)) (fun iv _ => n - (intOf iv).toNat)
      case atStart => exact ⟨0, rfl, by omega, Below.refl _ _⟩
      case round =>
        obtain ⟨i, rfl, hi, hb⟩ := hrel
        have HB := Lib.hid hb
        have HBW := Lib.hid (Below.next B1.out hb)
        clear hb
        by_cases hin : i < n
        · have hi2 : (i : Int) < n := by omega
          obtain ⟨ab, ao, rfl, hlt, c0, c1, c2, c3, c4, c5⟩ := (hA.out.below HBW.out) i hin
          have g1 : IntKind.i64.wrap ((i : Int) + 1) = i + 1 := IntWalk.i64_in _ (by omega)
          have rg := hL.out i hin
          have M1 := fun W => Lib.hid (mayi_any (L i) rg W)
          have M2 := fun W => Lib.hid (rmay13_any (L i) rg W)
          clear rg
          generalize L i = l at *
          obtain ⟨lc, lh, ld, lq, lsx, lz⟩ := l
          simp only at *
          have LC : Hid (∀ W, SV wr W → W.cell? ⟨ab, ao + i * 6, none⟩ = some (.int .i64 lc) ∧ W.cell? ⟨ab, ao + i * 6 + 1, none⟩ = some (.int .u64 lh) ∧ W.cell? ⟨ab, ao + i * 6 + 2, none⟩ = some (.int .i64 ld) ∧ W.cell? ⟨ab, ao + i * 6 + 3, none⟩ = some (.int .u64 lq) ∧ W.cell? ⟨ab, ao + i * 6 + 4, none⟩ = some (.int .i64 lsx) ∧ W.cell? ⟨ab, ao + i * 6 + 5, none⟩ = some (.int .u64 lz) ∧ ab < W.heap.size) := fun W s => by
            have e := fun j => Below.cell s (p := ⟨ab, j, none⟩) hlt
            exact ⟨(e _).trans c0, (e _).trans c1, (e _).trans c2, (e _).trans c3, (e _).trans c4, (e _).trans c5, Nat.lt_of_lt_of_le hlt s.size⟩
          have S0 : Hid (SV wr wr.drew) := (Below.refl _ _).drew
          clear c0 c1 c2 c3 c4 c5 hlt
          go_wp2_with fail
          refine wp_region_zone (SV wr) (fun j => true) (by kernel_rfl) ?_
          refine wpAnyZ_move (i := 0) (v := ?_) rfl (by kernel_rfl) (by kernel_rfl) (by kernel_rfl) (fun _ _ _ h => h) (Or.inl ⟨by rfl, ?_⟩) ?_
          (rotate_left 1; (focus (intro W; go_simp; try with_reducible rfl)))
          try simp only [Act.put, List.setIfInBounds_toArray, List.set_cons_zero, List.set_cons_succ, List.getElem_toArray, List.getElem_cons_succ, List.getElem_cons_zero]
          refine wpAnyZ_move (i := 1) (v := ?_) rfl (by kernel_rfl) (by kernel_rfl) (by kernel_rfl) (fun _ _ _ h => h) (Or.inl ⟨by rfl, ?_⟩) ?_
          (rotate_left 1; (focus (intro W; go_simp; try with_reducible rfl)))
          try simp only [Act.put, List.setIfInBounds_toArray, List.set_cons_zero, List.set_cons_succ, List.getElem_toArray, List.getElem_cons_succ, List.getElem_cons_zero]
          refine wpAnyZ_move (i := 2) (v := ?_) rfl (by kernel_rfl) (by kernel_rfl) (by kernel_rfl) (fun _ _ _ h => h) (Or.inl ⟨by rfl, ?_⟩) ?_
          (rotate_left 1; (focus (intro W; go_simp; try with_reducible rfl)))
          try simp only [Act.put, List.setIfInBounds_toArray, List.set_cons_zero, List.set_cons_succ, List.getElem_toArray, List.getElem_cons_succ, List.getElem_cons_zero]
          refine wpAnyZ_take (i := 3) (v := ?_) rfl (by kernel_rfl) (by kernel_rfl) (by kernel_rfl) (by kernel_rfl) (fun _ _ _ h => h) (Or.inl ⟨by rfl, ?_⟩) S0.out ?_
          (rotate_left 1; (focus (intro W hS; obtain ⟨q0, q1, q2, q3, q4, q5, ql⟩ := LC.out W hS; go_simp; try with_reducible rfl)))
          try simp only [Act.put, List.setIfInBounds_toArray, List.set_cons_zero, List.set_cons_succ, List.getElem_toArray, List.getElem_cons_succ, List.getElem_cons_zero]
          refine wpAnyZ_move (i := 5) (v := ?_) rfl (by kernel_rfl) (by kernel_rfl) (by kernel_rfl) (fun _ _ _ h => h) (Or.inl ⟨by rfl, ?_⟩) ?_
          (rotate_left 1; (focus (intro W; go_simp; try with_reducible rfl)))
          try simp only [Act.put, List.setIfInBounds_toArray, List.set_cons_zero, List.set_cons_succ, List.getElem_toArray, List.getElem_cons_succ, List.getElem_cons_zero]
          refine wpAnyZ_move (i := 6) (v := ?_) rfl (by kernel_rfl) (by kernel_rfl) (by kernel_rfl) (fun _ _ _ h => h) (Or.inl ⟨by rfl, ?_⟩) ?_
          (rotate_left 1; (focus (intro W; go_simp; try with_reducible rfl)))
          try simp only [Act.put, List.setIfInBounds_toArray, List.set_cons_zero, List.set_cons_succ, List.getElem_toArray, List.getElem_cons_succ, List.getElem_cons_zero]
          refine wpAnyZ_move (i := 7) (v := ?_) rfl (by kernel_rfl) (by kernel_rfl) (by kernel_rfl) (fun _ _ _ h => h) (Or.inl ⟨by rfl, ?_⟩) ?_
          (rotate_left 1; (focus (intro W; go_simp; try with_reducible rfl)))
          try simp only [Act.put, List.setIfInBounds_toArray, List.set_cons_zero, List.set_cons_succ, List.getElem_toArray, List.getElem_cons_succ, List.getElem_cons_zero]
          refine wpAnyZ_take (i := 8) (v := ?_) rfl (by kernel_rfl) (by kernel_rfl) (by kernel_rfl) (by kernel_rfl) (fun _ _ _ h => h) (Or.inl ⟨by rfl, ?_⟩) S0.out ?_
          (rotate_left 1; (focus (intro W hS; obtain ⟨q0, q1, q2, q3, q4, q5, ql⟩ := LC.out W hS; go_simp; try with_reducible rfl)))
          try simp only [Act.put, List.setIfInBounds_toArray, List.set_cons_zero, List.set_cons_succ, List.getElem_toArray, List.getElem_cons_succ, List.getElem_cons_zero]
          refine wpAnyZ_one (i := 4) (by kernel_rfl) rfl (fun K hK => ?_)
          go_simp
          go_wp2_with (go_at_call 17; (with_reducible refine Calls.mono (M1 _).out ?_); rintro e wa ⟨rfl, ba⟩; have SA : Hid (SV wr wa) := Lib.hid (Below.next S0.out ba); clear ba)
          refine hK.out _ _ (fun _ _ => SA.out) ?_
          clear hK K
          refine wpAnyZ_one (i := 9) (by kernel_rfl) rfl (fun K hK => ?_)
          go_simp
          go_wp2_with (go_at_call 10; (with_reducible refine Calls.mono (M2 _).out ?_); rintro e wb ⟨rfl, bb⟩; have SBb : Hid (SV wr wb) := Lib.hid (Below.next SA.out bb); clear bb)
          refine hK.out _ _ (fun _ _ => SBb.out) ?_
          clear hK K
          refine wpAnyZ_move (i := 10) (v := ?_) rfl (by kernel_rfl) (by kernel_rfl) (by kernel_rfl) (fun _ _ _ h => h) (Or.inl ⟨by rfl, ?_⟩) ?_
          (rotate_left 1; (focus (intro W; go_simp; try with_reducible rfl)))
          try simp only [Act.put, List.setIfInBounds_toArray, List.set_cons_zero, List.set_cons_succ, List.getElem_toArray, List.getElem_cons_succ, List.getElem_cons_zero]
          refine wpAnyZ_done (by kernel_rfl) ?_ _
          go_wp2_with fail
          go_roundw
          case rel => exact ⟨i + 1, by go_num, by omega, Below.next HB.out SBb.out⟩
          case measure => simp [intOf]; omega
        · obtain rfl : i = n := by omega
          have hi2 : ¬ (i : Int) < i := by omega
          go_wp2_with fail
          go_at_call 18
          (with_reducible refine Calls.mono (rall_any _ A i cap L (Lib.hid (hA.out.below HBW.out)) hL hn9) ?_)
          rintro e w2 ⟨r, rfl, hr, b2⟩
          have B2 := Lib.hid (Below.next HBW.out b2)
          have BI2 := Lib.hid (Below.next HB.out b2)
          clear b2
          obtain rfl : r = false := by
            cases r with
            | false => rfl
            | true => exact absurd (hr.1 rfl) HALL.out
          clear hr
          go_wp2_with fail
          go_ret
          exact ⟨rfl, B2.out⟩
  · have d40 : decide (40 < (n : Int)) = true := decide_eq_true (by omega)
    go_enter Try.func5, Try.ntmps5
    go_wp2_with (go_at_call 9; (with_reducible refine Calls.mono (awake_any _) ?_); rintro e w0 ⟨rfl, b0⟩; have B0 := Lib.hid b0; clear b0)
    go_ret
    exact ⟨rfl, B0.out⟩
theorem walk (w : World) (A0 : Option Addr) (n0 cap0 : Nat) (D0 : Nat → List Value) (w0 : Elems w [some .i64, some .u64, some .i64, some .u64, some .i64, some .u64] A0 n0 D0) (l0 : n0 * 48 ≤ 140737488351232) (A1 : Option Addr) (n1 cap1 : Nat) (D1 : Nat → List Value) (w1 : Elems w [some .i64, some .u64, some .i64] A1 n1 D1) (l1 : n1 * 24 ≤ 140737488351232) :
    Calls Try.prog 5 #[.slice A0 n0 cap0, .slice A1 n1 cap1] w fun e w' => e = .returned (.bool true) ∧ Below w.heap.size w w' := by
  obtain ⟨L, hL, hr⟩ := lns_of w0
  obtain ⟨K, Wt, V, hS⟩ := script_of w1
  exact walk2 w A0 n0 cap0 L hL hr (by omega) A1 n1 cap1 K Wt V hS (by omega)
end irqPlays
namespace irqPlays
theorem own : ownKnob Try.prog.godebug = none := by kernel_rfl
set_option maxRecDepth 100000 in
theorem lifted (os : Os) (started : os.Started) (H : Type) (enc : TypeId × Value → H) :
    ReturnsInHanded {} Try.checked os 5 .any (Rows.irqPlaysSpec.pre6 enc Try.prog Try.f5 Rows.irqPlaysRow.domain false) (Rows.irqPlaysSpec.post enc Try.prog Try.f5 false true false false) := by
  refine returnsInHanded_of_change_sized (C := Try.checked) own started (by kernel_rfl) Try.func5
    (ChangeSpec.witness6 (enc := enc) (C := Try.checked) false ⟨#[], #[.slice none 0 0, .slice none 0 0], []⟩ 8 (by kernel_rfl) (by kernel_rfl) (by kernel_rfl) (by kernel_rfl)) ?_
  intro W base args ds gs before hval0 hW hcnd hsz0 _
  have hsz : (DataW.weightsEach Try.prog (Try.f5.params.toList ++ Rows.irqPlaysSpec.plain.varTypes Try.prog) (ds ++ gs)).all (· ≤ reachBytes) = true := hsz0
  have hval : ∀ (j : Nat) t v, Try.f5.params[j]? = some t → args[j]? = some v → Value.okWide Try.prog W .any base t v := hval0
  have hW' := hW
  obtain ⟨p, q, hA0, hV, rfl, hfz, hnd⟩ := hW
  have hA : DataW.TrodAll enc Try.prog W 0 (fun _ => true) true Try.f5.params.toList args.toList ds p := hA0
  rw [Try.params5] at hA hval hsz
  obtain ⟨v0, vs0, d0, ds0, p0, q0, hargs, rfl, rfl, h0, r0⟩ := trodAll_cons hA
  obtain ⟨v1, vs1, d1, ds1, p1, q1, rfl, rfl, rfl, h1, r1⟩ := trodAll_cons r0
  obtain ⟨rfl, rfl, rfl⟩ := trodAll_nil r1
  obtain rfl : args = #[v0, v1] := by cases args; simp_all
  obtain ⟨rfl, rfl⟩ := trodVars_none hV
  obtain ⟨A0, n0, cap0, D0, rfl, w0, m0, z0⟩ := arg_slice [some .i64, some .u64, some .i64, some .u64, some .i64, some .u64] Try.underlying33 6 (by kernel_rfl) (by kernel_rfl) (hval 0 33 v0 rfl rfl) h0
  have l0 : n0 * Try.prog.bytesOf 24 ≤ reachBytes := by
    rcases z0 with ⟨_, e⟩ | ⟨es, sp, e, el⟩
    · subst e; simp
    · subst e; subst el; exact Nat.le_trans (Nat.mul_le_mul_right _ (Nat.le_add_right _ _)) (sized_slice hsz (j := 0) (t := 33) (e := 24) rfl rfl Try.underlying33)
  have b0 : Try.prog.bytesOf 24 = 48 := by kernel_rfl
  rw [b0] at l0
  simp only [reachBytes] at l0
  clear z0 b0
  obtain ⟨A1, n1, cap1, D1, rfl, w1, m1, z1⟩ := arg_slice [some .i64, some .u64, some .i64] Try.underlying44 6 (by kernel_rfl) (by kernel_rfl) (hval 1 44 v1 rfl rfl) h1
  have l1 : n1 * Try.prog.bytesOf 49 ≤ reachBytes := by
    rcases z1 with ⟨_, e⟩ | ⟨es, sp, e, el⟩
    · subst e; simp
    · subst e; subst el; exact Nat.le_trans (Nat.mul_le_mul_right _ (Nat.le_add_right _ _)) (sized_slice hsz (j := 1) (t := 44) (e := 49) rfl rfl Try.underlying44)
  have b1 : Try.prog.bytesOf 49 = 24 := by kernel_rfl
  rw [b1] at l1
  simp only [reachBytes] at l1
  clear z1 b1
  clear hA0 hval0 hsz0 hsz
  refine (walk W A0 n0 cap0 D0 w0 l0 A1 n1 cap1 D1 w1 l1).mono fun e W' ⟨he, bel⟩ => ?_
  subst he
  exact ⟨_, rfl, _, _, _, [], _, [], hW', trodAll_mk1 (shut_bool Try.underlying4 _), (trodAll_cons_mk (Below.trod laidOut (by kernel_rfl) (of_decide_eq_true (by kernel_rfl)) h0 bel (fun x hx => by simpa using hW'.lt x (by simp [hx]))) (trodAll_cons_mk (Below.trod laidOut (by kernel_rfl) (of_decide_eq_true (by kernel_rfl)) h1 bel (fun x hx => by simpa using hW'.lt x (by simp [hx]))) trodAll_mk0)), rfl, bel.frame _, fun h => by cases h⟩
theorem over : Rows.irqPlaysRow.holds Try.pinned (OpenSpec.ofChange Rows.irqPlaysSpec) :=
  OpenClaim.holds_of_wide 5 Try.f5 rfl rfl rfl rfl rfl rfl rfl ⟨rfl, rfl, rfl, rfl, rfl⟩ rfl rfl rfl rfl rfl (by kernel_rfl) Try.func5 (by kernel_rfl)
    (of_decide_eq_true (by kernel_rfl)) (by unfold Func.isWrapper; first | (rw [if_pos (by decide +kernel)]; kernel_rfl) | (rw [if_neg (by decide +kernel)]; exact ⟨rfl, rfl⟩))
    (fun os started H enc _ => lifted os started H enc)
end irqPlays
theorem irqPlays_holds : Rows.IrqPlaysSaid := irqPlays.over
#print axioms irqPlays_holds
end Go.Proofs.Ytbdhmjlbogjkoaa
