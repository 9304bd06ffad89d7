/- The reference of layer 7 (pool): New. -/
import Derived.Test.YtajcjepolfmhmaaRefPool
namespace Go.Proofs.Ytajcjepolfmhmaa
open Go.RowKit
set_option linter.unusedVariables false
set_option linter.unusedSimpArgs false
def lensOf (bs : List Bf) : List Nat := bs.map (fun b => b.bytes.length)
theorem infoU64r : (Try.prog.info? 38).map (fun i => (i.zero, i.size, i.bytes)) = some (some (.int .u64 0), 1, 8) := by kernel_rfl
theorem infoIntr : (Try.prog.info? 3).map (fun i => (i.zero, i.size, i.bytes)) = some (some (.int .i64 0), 1, 8) := by kernel_rfl
theorem infoSlr : (Try.prog.info? 23).map (fun i => (i.zero, i.size, i.bytes)) = some (some (.slice none 0 0), 1, 24) := by kernel_rfl
theorem LensOK.push {B : List Value} {ls : List Nat} (h : LensOK B ls) (A : Option Addr) (Z c : Nat) : LensOK (B ++ [.slice A Z c]) (ls ++ [Z]) := by
  refine ⟨by simp [h.1], fun i y m hy hm => ?_⟩
  rcases Nat.lt_or_ge i B.length with hi | hi
  · rw [List.getElem?_append_left hi] at hy
    rw [List.getElem?_append_left (by rw [← h.1]; exact hi)] at hm
    exact h.2 i y m hy hm
  · rw [List.getElem?_append_right hi] at hy
    rw [List.getElem?_append_right (by rw [← h.1]; exact hi), ← h.1] at hm
    have hl := (List.getElem?_eq_some_iff.1 hy).1
    simp at hl
    obtain rfl : i = B.length := by omega
    simp at hy hm
    subst hy hm
    exact ⟨A, c, rfl⟩
theorem lensOf_step {S C : Nat → Int} {i j Z : Nat} (hZ : S i = Z) : lensOf (bufsAt S C i (j + 1)) = lensOf (bufsAt S C i j) ++ [Z] := by
  rw [bufsAt_step]
  simp [lensOf, hZ]
def RelR1 (w : World) (n : Nat) (S C : Nat → Int) (p : Nat) (iv : Value) (wr : World) : Prop :=
  ∃ i : Nat, iv = .int .i64 i ∧ i ≤ n ∧ RefP wr w.heap.size p (lensOf (bufsOf S C i)) ∧ Below w.heap.size w wr
def RelR2 (w : World) (S C : Nat → Int) (p i : Nat) (jv : Value) (wr : World) : Prop :=
  ∃ j : Nat, jv = .int .i64 j ∧ (j : Int) ≤ C i ∧ RefP wr w.heap.size p (lensOf (bufsAt S C i j)) ∧ Below w.heap.size w wr
def RNew (w : World) (n : Nat) (S C : Nat → Int) (e : Ending) (w' : World) : Prop := ∃ p, e = .returned (.pointer (some ⟨p, 0, none⟩)) ∧ RefP w' w.heap.size p (lensOf (bufsOf S C n)) ∧ Below w.heap.size w w'
set_option maxRecDepth 100000 in
set_option maxHeartbeats 4000000 in
theorem rnew07_any (w : World) (A : Option Addr) (n cap : Nat) (S C : Nat → Int) (hA : Hid (Cls w A n S C)) (hn : n ≤ 140737488351232) (hm : Hid (mayC n S C)) :
    Calls Try.prog 21 #[.slice A n cap] w (RNew w n S C) := by
  obtain ⟨iu, hiu, hu0, hu1, hu2⟩ := info_parts infoU64r
  obtain ⟨ii, hii, hi0, hi1, hi2⟩ := info_parts infoIntr
  obtain ⟨is, his, hs0, hs1, hs2⟩ := info_parts infoSlr
  obtain ⟨m1, m2, m3⟩ := hm.out
  have M3 := Lib.hid m3
  clear m3
  go_enter Try.func21, Try.ntmps21
  go_wp2_with fail
  go_loopw [4] (fun iv wr => Hid (RelR1 w n S C w.heap.size iv wr)) (fun iv _ => n - (intOf iv).toNat)
  case atStart =>
    refine ⟨0, rfl, by omega, ⟨.slice none 0 0, .slice none 0 0, .slice none 0 0, .slice none 0 0, [], [], [], [], ⟨Blk.new w _ _, Slc.nil _ _ _, Slc.nil _ _ _, Slc.nil _ _ _, Slc.nil _ _ _, fun x e => by simp [Value.ownBlock] at e, Nat.le_refl _, fun x e => by simp [Value.ownBlock] at e⟩, rfl, rfl, rfl, ⟨rfl, fun i y m h => by simp at h⟩, fun y h => by simp at h, fun y h => by simp at h⟩, (Below.refl _ _).alloc (Nat.le_refl _) _⟩
  case round =>
    obtain ⟨i, rfl, hi, hk, hbel⟩ := hrel
    have HK := Lib.hid hk
    have HB := Lib.hid hbel
    clear hk hbel
    by_cases hin : i < n
    · have hin2 : (i : Int) < n := by omega
      obtain ⟨ok1, ok2, ok3, ok4⟩ := M3.out i hin
      have hl0 := lastC_nonneg S C M3.out i (by omega)
      obtain ⟨Z, hZ⟩ : ∃ Z : Nat, S i = Z := ⟨(S i).toNat, by omega⟩
      obtain ⟨Cn, hCn⟩ : ∃ Cn : Nat, C i = Cn := ⟨(C i).toNat, by omega⟩
      have hlenB := bufsOf_len S C i fun j hj => ⟨(M3.out j (by omega)).2.2.1, (M3.out j (by omega)).2.2.2⟩
      have HST : Hid (RelR2 w S C w.heap.size i (.int .i64 0) wr) := ⟨0, rfl, by omega, by rw [bufsAt_zero]; exact HK.out, HB.out⟩
      have hZ2 : Z ≤ 65536 := by omega
      have HZ := Lib.hid hZ
      have HCN := Lib.hid hCn
      clear HK HB hZ
      go_wp2_with fail
      go_loopw [5] (fun jv wx => Hid (RelR2 w S C w.heap.size i jv wx)) (fun jv _ => Cn - (intOf jv).toNat)
      case atStart => exact HST.out
      case round =>
        clear HST
        obtain ⟨j, rfl, hj, hk, hbel⟩ := hrel
        have HB := Lib.hid hbel
        obtain ⟨ab, ao, rfl, hlt, hc0, hc1⟩ := hA.out i hin
        have hcell0 := (hbel.cell (p := ⟨ab, ao + i * 2, none⟩) hlt).trans hc0
        have hcell1 := (hbel.cell (p := ⟨ab, ao + i * 2 + 1, none⟩) hlt).trans hc1
        have hlr := Nat.lt_of_lt_of_le hlt hbel.size
        rw [HZ.out] at hcell0
        rw [hCn] at hcell1 hj
        clear hc0 hc1
        by_cases hjc : j < Cn
        · have hjc2 : (j : Int) < Cn := by omega
          obtain ⟨g, o, f, b, G, O, F, B, k, lg, lo, lf, lb, ug, uo⟩ := hk
          have hlenj : (lensOf (bufsAt S C i j)).length = (bufsOf S C i).length + j := by simp [lensOf, bufsAt]
          have hbs := hbel.size
          have UG := Lib.hid ug
          have UO := Lib.hid uo
          have LB := Lib.hid lb
          have LG := Lib.hid lg
          have LO := Lib.hid lo
          have LF := Lib.hid lf
          have bG : G.length ≤ 900 := by omega
          have bO : O.length ≤ 900 := by omega
          have bF : F.length ≤ 900 := by omega
          have bB : B.length ≤ 900 := by have := lb.1; omega
          obtain ⟨Ag, cg, eg, -⟩ := k.rg.shape
          obtain ⟨Ao, co, eo, -⟩ := k.ro.shape
          obtain ⟨Af, cf, ef, -⟩ := k.rf.shape
          obtain ⟨Ab, cb, eb, -⟩ := k.rb.shape
          subst eg eo ef eb
          have c0 : wr.cell? ⟨w.heap.size, 0, none⟩ = some (.slice Ag G.length cg) := k.blk.cell 0
          have cl := k.blk.lt
          have K := Lib.hid k
          have hmk : ∀ W, (Instr.makeSlice 23 (.int .i64 Z) (.int .i64 Z)).run Try.prog W = .ok (.slice (some ⟨W.heap.size, 0, none⟩) Z Z) (W.alloc (.cells (madeCells #[.int .u8 0] Z) 5)) := fun W =>
            run_make_row' 23 5 (.int .u8 0) 1 Try.underlying23 infoByte rfl .i64 .i64 Z (by omega) (by omega) W
          clear k lb lg lo lf ug uo hbel
          go_wp2_with (at_builtin; refine wpList_append_slc _ rfl (.tmp 27) (.tmp 28) _ rfl 38 iu _ 1 8 Try.underlying83 hiu hu0 hu1 hu2 rfl (by omega) (.slice Ag G.length cg) G.length G rfl (Slc.alloc K.out.rg _) (some ⟨wr.heap.size, 0, none⟩) 1 1 [.int .u64 1] rfl (Src.one wr 38 (.int .u64 1)) (by simp [Value.oneCell']) (by omega) (by simp only [maxLen]; omega) ?_)
          intro v1 w1 hs1' ho1 hat1
          obtain ⟨A1, c1', e1, -⟩ := hs1'.shape
          subst e1
          obtain ⟨k1, kb1, bl1, bb1⟩ := (K.out.alloc (.cells #[.int .u64 1] 38)).push0 (by simp; omega) hs1' ho1 (hat1.imp id (fun h => h.trans (by simp)))
          have f1 := kb1.free 0
          have q0 : w1.cell? ⟨w.heap.size, 0, none⟩ = some (.slice Ag G.length cg) := kb1.cell 0
          have q1 : w1.cell? ⟨w.heap.size, 1, none⟩ = some (.slice Ao O.length co) := kb1.cell 1
          have ql1 := kb1.lt
          have BB1 := Lib.hid (Below.trans ((Below.refl w.heap.size wr).alloc (by omega) (.cells #[.int .u64 1] 38)) bb1)
          have K1 := Lib.hid k1
          clear k1 kb1 bl1 bb1 hs1' ho1 hat1
          go_wp2_with (at_builtin; refine wpList_append_slc _ rfl (.tmp 36) (.tmp 37) _ rfl 3 ii _ 1 8 Try.underlying84 hii hi0 hi1 hi2 rfl (by omega) (.slice Ao O.length co) O.length O rfl (Slc.alloc K1.out.ro _) (some ⟨w1.heap.size, 0, none⟩) 1 1 [.int .i64 0] rfl ?_ (by simp [Value.oneCell']) (by omega) (by simp only [maxLen]; omega) ?_)
          · have := Src.one (w1.setCell ⟨w.heap.size, 0, none⟩ (.slice A1 (G.length + 1) c1')) 3 (.int .i64 0)
            simpa using this
          intro v2 w2 hs2' ho2 hat2
          obtain ⟨A2, c2', e2, -⟩ := hs2'.shape
          subst e2
          obtain ⟨k2, kb2, bl2, bb2⟩ := (K1.out.alloc (.cells #[.int .i64 0] 3)).push1 (by have := BB1.out.size; simp at this ⊢; omega) hs2' ho2 (hat2.imp id (fun h => h.trans (by simp)))
          have f2 := kb2.free 1
          have q2a : w2.cell? ⟨w.heap.size, 1, none⟩ = some (.slice Ao O.length co) := kb2.cell 1
          have q2 : w2.cell? ⟨w.heap.size, 2, none⟩ = some (.slice Af F.length cf) := kb2.cell 2
          have ql2 := kb2.lt
          have BB2 := Lib.hid (BB1.out.trans (Below.trans ((Below.refl w.heap.size _).alloc (by have := BB1.out.size; simp at this ⊢; omega) (.cells #[.int .i64 0] 3)) bb2))
          have K2 := Lib.hid k2
          clear k2 kb2 bl2 bb2 hs2' ho2 hat2
          go_wp2_with (at_builtin; refine wpList_append_slc _ rfl (.tmp 45) (.tmp 46) _ rfl 3 ii _ 1 8 Try.underlying84 hii hi0 hi1 hi2 rfl (by omega) (.slice Af F.length cf) F.length F rfl (Slc.alloc K2.out.rf _) (some ⟨w2.heap.size, 0, none⟩) 1 1 [.int .i64 0] rfl ?_ (by simp [Value.oneCell']) (by omega) (by simp only [maxLen]; omega) ?_)
          · have := Src.one (w2.setCell ⟨w.heap.size, 1, none⟩ (.slice A2 (O.length + 1) c2')) 3 (.int .i64 0)
            simpa using this
          intro v3 w3 hs3' ho3 hat3
          obtain ⟨A3, c3', e3, -⟩ := hs3'.shape
          subst e3
          obtain ⟨k3, kb3, bl3, bb3⟩ := (K2.out.alloc (.cells #[.int .i64 0] 3)).push2 (by have := BB2.out.size; simp at this ⊢; omega) hs3' ho3 (hat3.imp id (fun h => h.trans (by simp)))
          have f3 := kb3.free 2
          have q3a : w3.cell? ⟨w.heap.size, 2, none⟩ = some (.slice Af F.length cf) := kb3.cell 2
          have q3 : w3.cell? ⟨w.heap.size, 3, none⟩ = some (.slice Ab B.length cb) := kb3.cell 3
          have ql3 := kb3.lt
          have BB3 := Lib.hid (BB2.out.trans (Below.trans ((Below.refl w.heap.size _).alloc (by have := BB2.out.size; simp at this ⊢; omega) (.cells #[.int .i64 0] 3)) bb3))
          have K3 := Lib.hid k3
          clear k3 kb3 bl3 bb3 hs3' ho3 hat3
          go_wp2_with fail
          generalize w3.setCell ⟨w.heap.size, 2, none⟩ (.slice A3 (F.length + 1) c3') = w4 at *
          have cl4 := (BB3.out.cell (p := ⟨ab, ao + i * 2, none⟩) hlt).trans hcell0
          have lt4 := Nat.lt_of_lt_of_le hlr BB3.out.size
          have p0 : w4.cell? ⟨w.heap.size, 3, none⟩ = some (.slice Ab B.length cb) := K3.out.blk.cell 3
          have p1 : w4.frozen? ⟨w.heap.size, 3, none⟩ = false := K3.out.blk.free 3
          have plt := K3.out.blk.lt
          have p2 : (w4.alloc (.cells (madeCells #[.int .u8 0] Z) 5)).cell? ⟨w.heap.size, 3, none⟩ = some (.slice Ab B.length cb) := (K3.out.blk.alloc _).cell 3
          have p3 : ((w4.alloc (.cells (madeCells #[.int .u8 0] Z) 5)).alloc (.cells #[.slice (some ⟨w4.heap.size, 0, none⟩) Z Z] 23)).cell? ⟨w.heap.size, 3, none⟩ = some (.slice Ab B.length cb) := ((K3.out.blk.alloc _).alloc _).cell 3
          have src : Src ((w4.alloc (.cells (madeCells #[.int .u8 0] Z) 5)).alloc (.cells #[.slice (some ⟨w4.heap.size, 0, none⟩) Z Z] 23)) 1 (some ⟨w4.heap.size + 1, 0, none⟩) 1 [.slice (some ⟨w4.heap.size, 0, none⟩) Z Z] := by
            have := Src.one (w4.alloc (.cells (madeCells #[.int .u8 0] Z) 5)) 23 (.slice (some ⟨w4.heap.size, 0, none⟩) Z Z)
            simpa using this
          have SRC := Lib.hid src
          have hbz := BB3.out.size
          have K4 := Lib.hid (((K3.out.alloc (.cells (madeCells #[.int .u8 0] Z) 5)).alloc (.cells #[.slice (some ⟨w4.heap.size, 0, none⟩) Z Z] 23)).drew)
          have HBW := Lib.hid (show Below w.heap.size w4 ((w4.alloc (.cells (madeCells #[.int .u8 0] Z) 5)).alloc (.cells #[.slice (some ⟨w4.heap.size, 0, none⟩) Z Z] 23)).drew from (((Below.refl w.heap.size w4).alloc (by omega) _).alloc (by simp; omega) _).drew)
          clear src f3 q3a q3 ql3 f2 q2a q2 ql2 f1 q0 q1 ql1 c0 cl K K1 K2 BB1 BB2 K3
          go_region_law ((refine step_append_slc _ rfl (.tmp 54) (.tmp 61) _ rfl 23 is _ 1 24 Try.underlying85 his hs0 hs1 hs2 rfl (by omega) (.slice Ab B.length cb) B.length B rfl K4.out.rb (some ⟨w4.heap.size + 1, 0, none⟩) 1 1 [.slice (some ⟨w4.heap.size, 0, none⟩) Z Z] rfl (Src.drew SRC.out) (by simp [Value.oneCell']) (by omega) (by simp only [maxLen]; omega) ?_); intro v5 w5 hs5 ho5 hat5; obtain ⟨A5, c5', e5, -⟩ := hs5.shape; subst e5; obtain ⟨k5, kb5, bl5, bb5⟩ := K4.out.push3 (by simp [World.drew]; omega) hs5 ho5 hat5; have f5 := kb5.free 3; have q5 : w5.cell? ⟨w.heap.size, 3, none⟩ = some (.slice Ab B.length cb) := kb5.cell 3; have ql5 := kb5.lt; have K5 := Lib.hid k5; have BB5 := Lib.hid (HB.out.trans (BB3.out.trans (HBW.out.trans bb5))); clear hs5 ho5 hat5 k5 kb5 bl5 bb5)
          all_goals
            go_wp2_with fail
            go_roundw
            case rel =>
              refine ⟨j + 1, by go_num, by omega, ⟨_, _, _, _, _, _, _, _, K5.out, ?_, ?_, ?_, ?_, ?_, ?_⟩, BB5.out⟩
              · have := LG.out; rw [bufsAt_step]; simp [lensOf] at this ⊢; omega
              · have := LO.out; rw [bufsAt_step]; simp [lensOf] at this ⊢; omega
              · have := LF.out; rw [bufsAt_step]; simp [lensOf] at this ⊢; omega
              · rw [lensOf_step HZ.out]; exact LB.out.push _ _ _
              · intro y hy
                simp at hy
                rcases hy with hy | hy
                · exact UG.out y hy
                · exact ⟨_, hy⟩
              · intro y hy
                simp at hy
                rcases hy with hy | hy
                · exact UO.out y hy
                · exact ⟨_, hy⟩
            case measure => simp [intOf]; omega
        · have hjc2 : ¬ (j : Int) < Cn := by omega
          have HK := Lib.hid hk
          clear hk hbel
          go_wp2_with fail
          go_roundw
          case rel =>
            refine ⟨i + 1, by go_num, by omega, ?_, HB.out⟩
            have := HK.out
            rw [show j = (C i).toNat by omega, bufsAt_full] at this
            exact this
          case measure => simp [intOf]; omega
    · have hin2 : ¬ (i : Int) < n := by omega
      go_wp2_with fail
      go_ret
      obtain rfl : i = n := by omega
      exact ⟨w.heap.size, rfl, HK.out, HB.out⟩
end Go.Proofs.Ytajcjepolfmhmaa
