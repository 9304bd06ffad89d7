/- Layer 7 (pool): the contracts of Count, Free, Get. -/
import Derived.Test.YtajcjepolfmhmaaPoolOps
import Derived.Test.YtajcjepolfmhmaaCells
import Derived.Laws.ResultCell
import Derived.Lib.SliceRun
namespace Go.Proofs.Ytajcjepolfmhmaa
open Go.RowKit
set_option linter.unusedVariables false
set_option linter.unusedSimpArgs false
/-- A struct result that lies in a block that is known, and a number beside it. -/
theorem ret_cell {P : Program} {fn : Func} {p u : Tmp} {ty t : TypeId} (h : fn.results = #[.cell p ty, .tmp u]) {tmps : Array Value} {w : World} {g : Nat} {cs : List Value} (d : TypeDesc)
    (hp : tmps.getD p undef = .pointer (some ⟨g, 0, none⟩)) (hg : Blk w g t cs) (hu : P.underlying ty = some d) (hd : (match d with | .struct _ | .array _ _ => true | _ => false) = true) (hi : (P.info? ty).map (·.size) = some cs.length) :
    (results fn tmps).run P w = .ok (.tuple #[.agg ⟨cs⟩, tmps.getD u undef]) w := by
  rw [results_cell_tmp h]
  have hp' : tmps[p]?.getD undef = .pointer (some ⟨g, 0, none⟩) := by simpa using hp
  have hl := run_loadVar_row w g t ty ⟨cs⟩ (0, 0) d hg hu hd hi
  simp [asAddr, hp', hl, Result.andThen]
section
variable {w w' : World} {P : Pl} {bs : List Bf}
theorem IsP.lt (k : IsP w P bs) {i : Nat} (h : P.all i) : i < w.heap.size := by
  rcases h with h | h | h | h
  · rw [h]; exact k.blk.lt
  · exact k.row.lt h
  · obtain ⟨j, hj, e⟩ := List.getElem_of_mem h
    have hx : P.xs[j]? = some i := by rw [← e]; exact List.getElem?_eq_getElem hj
    obtain ⟨b, x, y, hb, hx', hy, -, -, kx, ky⟩ := k.at_ (i := j) (by rw [← k.lx]; exact hj)
    rw [hx] at hx'
    injection hx' with e2
    subst e2
    exact kx.lt
  · obtain ⟨j, hj, e⟩ := List.getElem_of_mem h
    have hx : P.ys[j]? = some i := by rw [← e]; exact List.getElem?_eq_getElem hj
    obtain ⟨b, x, y, hb, hx', hy, -, -, kx, ky⟩ := k.at_ (i := j) (by rw [← k.ly]; exact hj)
    rw [hx] at hy
    injection hy with e2
    subst e2
    exact ky.lt
theorem first_some {bs : List Bf} {size : Int} {i : Nat} {b : Bf} (hb : bs[i]? = some b) (h : b.own = 0 ∧ size ≤ (b.bytes.length : Int)) (hno : ∀ j b, j < i → bs[j]? = some b → ¬ (b.own = 0 ∧ size ≤ (b.bytes.length : Int))) : firstP size bs = some i := by
  obtain ⟨hl, he⟩ := List.getElem?_eq_some_iff.1 hb
  unfold firstP
  rw [List.findIdx?_eq_some_iff_getElem]
  refine ⟨hl, by rw [he]; simpa using h, fun j hj => ?_⟩
  have := hno j (bs[j]'(by omega)) hj (List.getElem?_eq_getElem _)
  simpa using this
theorem first_none {bs : List Bf} {size : Int} (hno : ∀ j b, j < bs.length → bs[j]? = some b → ¬ (b.own = 0 ∧ size ≤ (b.bytes.length : Int))) : firstP size bs = none := by
  unfold firstP
  rw [List.findIdx?_eq_none_iff]
  intro b hb
  obtain ⟨j, hj, e⟩ := List.getElem_of_mem hb
  have := hno j b hj (by rw [← e]; exact List.getElem?_eq_getElem hj)
  simpa using this
theorem free_take (bs : List Bf) (i : Nat) (b : Bf) (h : bs[i]? = some b) : freeP (bs.take (i + 1)) = freeP (bs.take i) + (if b.own = 0 then 1 else 0) := by
  unfold freeP
  rw [List.take_add_one, h, List.filter_append]
  simp only [Option.toList_some, List.length_append]
  by_cases z : b.own = 0
  · rw [List.filter_cons_of_pos (by simpa using z), if_pos z]; simp
  · rw [List.filter_cons_of_neg (by simpa using z), if_neg z]; simp
theorem free_le (bs : List Bf) (i : Nat) : 0 ≤ freeP (bs.take i) ∧ freeP (bs.take i) ≤ i := by
  unfold freeP
  have h1 := List.length_filter_le (fun b : Bf => b.own == 0) (bs.take i)
  have h2 := List.length_take_le i bs
  omega
set_option maxHeartbeats 2000000 in
theorem getp_any (k : IsP w P bs) (ok : ∀ b ∈ bs, b.bytes.length ≤ 65536) (hne : 0 < bs.length) (size : Int) :
    Calls Try.prog 18 #[.pointer (some ⟨P.p, 0, none⟩), .int .i64 size] w fun e w' => e = .returned (.tuple #[.agg #[.int .i64 (getP size bs).1.1, .int .u64 (getP size bs).1.2.1], .int .i64 (getP size bs).1.2.2]) ∧ IsP w' P (getP size bs).2 ∧ Only P.own w w' := by
  have hp : w.cell? ⟨P.p, 0, none⟩ = some P.v := k.blk.cell 0
  have hlen := k.row.len
  obtain ⟨A, c, hv, hc⟩ := k.row.shape
  rw [hv] at hp
  unfold maxLen at hlen
  have hr := k.row
  rw [hv] at hr
  have K := Lib.hid k
  have HR := Lib.hid hr
  have hk : ∀ n, IsP ((((w.alloc (.cells #[.int .i64 0, .int .u64 0] 40)).drewN n).setCell ⟨w.heap.size, 0, none⟩ (.int .i64 0)).setCell ⟨w.heap.size, 1, none⟩ (.int .u64 0)) P bs := fun n =>
    k.below (((Below.drewN' ((Below.refl _ _).alloc (Nat.le_refl _) _) n).setCell (p := ⟨w.heap.size, 0, none⟩) (Nat.le_refl _) _).setCell (p := ⟨w.heap.size, 1, none⟩) (Nat.le_refl _) _)
  have ho : ∀ n, Only P.own w ((((w.alloc (.cells #[.int .i64 0, .int .u64 0] 40)).drewN n).setCell ⟨w.heap.size, 0, none⟩ (.int .i64 0)).setCell ⟨w.heap.size, 1, none⟩ (.int .u64 0)) := fun n =>
    Only.of_below (((Below.drewN' ((Below.refl _ _).alloc (Nat.le_refl _) _) n).setCell (p := ⟨w.heap.size, 0, none⟩) (Nat.le_refl _) _).setCell (p := ⟨w.heap.size, 1, none⟩) (Nat.le_refl _) _)
  have HK := Lib.hid hk
  have HO := Lib.hid ho
  clear hk ho
  obtain ⟨m, hm⟩ : ∃ m, bs.length = m + 1 := ⟨bs.length - 1, by omega⟩
  by_cases z1 : size < 1
  · have d1 : decide (size < 1) = true := decide_eq_true z1
    have e : getP size bs = ((0, 0, 1), bs) := by unfold getP; rw [if_pos (.inl z1)]
    rw [e]
    clear k hv hr e
    go_enter Try.func18, Try.ntmps18
    go_wp2_with fail
    go_quiet (fail)
    go_wp2_with fail
    (try simp only [Exit.inBlock, Exit.then])
    refine bodyPost_ret (ret_cell rfl _ rfl (((Blk.new w 40 [.int .i64 0, .int .u64 0]).drewN _ |>.put 0 _).put 1 _) Try.underlying40 rfl (by kernel_rfl)) rfl ?_
    exact ⟨rfl, HK.out _, HO.out _⟩
  · have d1 : decide (size < 1) = false := decide_eq_false z1
    obtain ⟨bl, xl, yl, hbl, hxl, hyl, -, -, kxl, kyl⟩ := k.at_ (show m < bs.length by omega)
    obtain ⟨gk, off, c', hv', -, -, hgl, hxx, -⟩ := HR.out.at_ (by omega)
    simp only [Value.slice.injEq] at hv'
    obtain ⟨rfl, -, rfl⟩ := hv'
    have r0 : w.cell? ⟨gk, off + m, none⟩ = some (.pointer (some ⟨xl, 0, none⟩)) := hxx m _ (by simp [hxl, ptr])
    have xl3 : w.cell? ⟨xl, 3, none⟩ = some (.slice (some ⟨yl, 0, none⟩) bl.bytes.length bl.bytes.length) := kxl.cell 3
    have xll := kxl.lt
    have hpl := k.blk.lt
    have elast : ((bs.getLast?.map fun b => (b.bytes.length : Int)).getD 0) = bl.bytes.length := by
      rw [List.getLast?_eq_getElem?, hm, Nat.add_sub_cancel, hbl]; rfl
    rw [hm] at hp
    have lb := ok bl (List.mem_of_getElem? hbl)
    by_cases z2 : (bl.bytes.length : Int) < size
    · have d2 : decide ((bl.bytes.length : Int) < size) = true := decide_eq_true z2
      have e : getP size bs = ((0, 0, 1), bs) := by unfold getP; rw [if_pos (.inr (by rw [elast]; exact z2))]
      rw [e]
      generalize bl.bytes.length = L at *
      clear k hv hr e kxl kyl hbl hxl hyl elast hxx
      go_enter Try.func18, Try.ntmps18
      go_wp2_with fail
      go_quiet (fail)
      go_wp2_with fail
      (try simp only [Exit.inBlock, Exit.then])
      refine bodyPost_ret (ret_cell rfl _ rfl (((Blk.new w 40 [.int .i64 0, .int .u64 0]).drewN _ |>.put 0 _).put 1 _) Try.underlying40 rfl (by kernel_rfl)) rfl ?_
      exact ⟨rfl, HK.out _, HO.out _⟩
    · have d2 : decide ((bl.bytes.length : Int) < size) = false := decide_eq_false z2
      have e : getP size bs = match firstP size bs with
        | none => ((0, 0, 5), bs)
        | some i => match bs[i]? with
          | none => ((0, 0, 5), bs)
          | some b => ((i, b.gen, 0), bs.set i { b with own := 1, refs := 1, bytes := List.replicate b.bytes.length 0 }) := by
        unfold getP; rw [if_neg (by rw [elast]; omega)]; rfl
      have E := Lib.hid e
      have HXX := Lib.hid hxx
      generalize bl.bytes.length = L at *
      clear k hv hr e kxl kyl hbl hxl hyl elast hxx
      go_enter Try.func18, Try.ntmps18
      go_wp2_with fail
      go_quiet (fail)
      go_wp2_with fail
      go_loop [6, 36] (fun _ iv => ∃ i : Nat, iv = .int .i64 i ∧ i ≤ bs.length ∧ Hid (∀ j b, j < i → bs[j]? = some b → ¬ (b.own = 0 ∧ size ≤ b.bytes.length))) (fun _ iv => (bs.length - intOf iv).toNat)
      case atStart => exact ⟨0, rfl, by omega, fun j b hj _ => absurd hj (by omega)⟩
      case round =>
        obtain ⟨i, rfl, hi, hno⟩ := hrel
        by_cases hil : i < bs.length
        · obtain ⟨b, x, y, hb, hx, hy, mx, my, kx, ky⟩ := K.out.at_ hil
          have r1 : w.cell? ⟨gk, off + i, none⟩ = some (.pointer (some ⟨x, 0, none⟩)) := HXX.out i _ (by simp [hx, ptr])
          have x0 : w.cell? ⟨x, 0, none⟩ = some (.int .u64 b.gen) := kx.cell 0
          have x1 : w.cell? ⟨x, 1, none⟩ = some (.int .i64 b.own) := kx.cell 1
          have x2 : w.cell? ⟨x, 2, none⟩ = some (.int .i64 b.refs) := kx.cell 2
          have x3 : w.cell? ⟨x, 3, none⟩ = some (.slice (some ⟨y, 0, none⟩) b.bytes.length b.bytes.length) := kx.cell 3
          have y1 : w.frozen? ⟨x, 1, none⟩ = false := kx.free 1
          have y2 : w.frozen? ⟨x, 2, none⟩ = false := kx.free 2
          have xlt := kx.lt
          have ylt := ky.lt
          have lb2 := ok b (List.mem_of_getElem? hb)
          have hi2 : (i : Int) < m + 1 := by omega
          by_cases z3 : b.own = 0
          · have d3 : (b.own == 0) = true := beq_iff_eq.2 z3
            by_cases z4 : size ≤ (b.bytes.length : Int)
            · have d4 : decide (size ≤ (b.bytes.length : Int)) = true := decide_eq_true z4
              have hyx : y ≠ x := ky.ne kx (by decide)
              obtain ⟨L2, hL2⟩ : ∃ L2, b.bytes.length = L2 := ⟨_, rfl⟩
              have hL0 : 0 < L2 := by omega
              have fs := first_some hb ⟨z3, z4⟩ hno.out
              have eg := E.out
              rw [fs] at eg
              simp only [hb] at eg
              have EG := Lib.hid eg
              have kyn : ∀ n, Blk ((((w.alloc (.cells #[.int .i64 0, .int .u64 0] 40)).drewN n).setCell ⟨x, 1, none⟩ (.int .i64 1)).setCell ⟨x, 2, none⟩ (.int .i64 1)) y 5 (byteCells b.bytes) := fun n => (((ky.alloc _).drewN n).far hyx _).far hyx _
              have kxn : ∀ n, Blk ((((w.alloc (.cells #[.int .i64 0, .int .u64 0] 40)).drewN n).setCell ⟨x, 1, none⟩ (.int .i64 1)).setCell ⟨x, 2, none⟩ (.int .i64 1)) x 75 (bufCells { b with own := 1, refs := 1, bytes := List.replicate b.bytes.length 0 } y) := fun n => by
                have := (((kx.alloc (.cells #[.int .i64 0, .int .u64 0] 40)).drewN n).put 1 (.int .i64 1)).put 2 (.int .i64 1)
                simpa [bufCells] using this
              have hcl : ∀ n ty, (Builtin.clear_ #[23] ty #[.slice (some ⟨y, 0, none⟩) L2 L2]).run Try.prog ((((w.alloc (.cells #[.int .i64 0, .int .u64 0] 40)).drewN n).setCell ⟨x, 1, none⟩ (.int .i64 1)).setCell ⟨x, 2, none⟩ (.int .i64 1)) =
                  .ok (.tuple #[]) (((((w.alloc (.cells #[.int .i64 0, .int .u64 0] 40)).drewN n).setCell ⟨x, 1, none⟩ (.int .i64 1)).setCell ⟨x, 2, none⟩ (.int .i64 1)).setCells y 0 (List.replicate L2 (.int .u8 0))) := fun n ty =>
                Lib.run_clear_slice _ _ 5 ty (.int .u8 0) Try.underlying23 (fun _ => by kernel_rfl) rfl rfl y 0 L2 L2 hL0
                  (fun j hj => by rw [Nat.zero_add, (kyn n).cell j]; unfold byteCells; rw [List.getElem?_map, List.getElem?_eq_getElem (by omega)]; rfl) (fun j hj => (kyn n).free _)
              have hzx : ∀ n, Blk (((((w.alloc (.cells #[.int .i64 0, .int .u64 0] 40)).drewN n).setCell ⟨x, 1, none⟩ (.int .i64 1)).setCell ⟨x, 2, none⟩ (.int .i64 1)).setCells y 0 (List.replicate L2 (.int .u8 0))) x 75 (bufCells { b with own := 1, refs := 1, bytes := List.replicate b.bytes.length 0 } y) := fun n => (kxn n).only (setCells_only y _ _ _) (fun e => hyx e.symm)
              have hzy : ∀ n, Blk (((((w.alloc (.cells #[.int .i64 0, .int .u64 0] 40)).drewN n).setCell ⟨x, 1, none⟩ (.int .i64 1)).setCell ⟨x, 2, none⟩ (.int .i64 1)).setCells y 0 (List.replicate L2 (.int .u8 0))) y 5 (byteCells (List.replicate b.bytes.length 0)) := fun n => by
                have := (kyn n).many (List.replicate L2 (.int .u8 0)) 0
                rw [putMany_all _ _ _ (by simp [byteCells, hL2])] at this
                simpa [byteCells, hL2] using this
              have hzh : ∀ n, Blk (((((w.alloc (.cells #[.int .i64 0, .int .u64 0] 40)).drewN n).setCell ⟨x, 1, none⟩ (.int .i64 1)).setCell ⟨x, 2, none⟩ (.int .i64 1)).setCells y 0 (List.replicate L2 (.int .u8 0))) w.heap.size 40 [.int .i64 0, .int .u64 0] := fun n =>
                ((((Blk.new w 40 [.int .i64 0, .int .u64 0]).drewN n).far (p := ⟨x, 1, none⟩) (by simp only; omega) _).far (p := ⟨x, 2, none⟩) (by simp only; omega) _).only (setCells_only y _ _ _) (show ¬ w.heap.size = y by omega)
              have f0 := fun n => (hzx n).cell 0
              have f1 := fun n => (hzh n).cell 0
              have f2 := fun n => (hzh n).cell 1
              have f3 := fun n => (hzh n).free 0
              have f4 := fun n => (hzh n).free 1
              simp only [bufCells, List.getElem?_cons_zero, List.getElem?_cons_succ] at f0 f1 f2
              have KF : ∀ n, Hid (IsP (((((w.alloc (.cells #[.int .i64 0, .int .u64 0] 40)).drewN n).setCell ⟨x, 1, none⟩ (.int .i64 1)).setCell ⟨x, 2, none⟩ (.int .i64 1)).setCells y 0 (List.replicate L2 (.int .u8 0))) P (bs.set i { b with own := 1, refs := 1, bytes := List.replicate b.bytes.length 0 })) := fun n =>
                ((K.out.alloc (.cells #[.int .i64 0, .int .u64 0] 40)).drewN n).turn hil hx hy
                  ((Only.setCell (Only.setCell (Only.refl (fun g => g = x ∨ g = y) _) (p := ⟨x, 1, none⟩) (fun _ => .inl rfl) _) (p := ⟨x, 2, none⟩) (fun _ => .inl rfl) _).trans (setCells_only y _ _ _) (fun _ _ h => .inr h)) (hzx n) (hzy n)
              have OF : ∀ n, Hid (Only P.own w (((((w.alloc (.cells #[.int .i64 0, .int .u64 0] 40)).drewN n).setCell ⟨x, 1, none⟩ (.int .i64 1)).setCell ⟨x, 2, none⟩ (.int .i64 1)).setCells y 0 (List.replicate L2 (.int .u8 0)))) := fun n =>
                (Only.setCell (Only.setCell (((Only.refl P.own w).alloc _).drewN n) (p := ⟨x, 1, none⟩) (fun _ => .inl mx) _) (p := ⟨x, 2, none⟩) (fun _ => .inl mx) _).trans (setCells_only y _ _ _) (fun i _ h => .inr (h ▸ my))
              have HZH := Lib.hid hzh
              rw [hL2] at x3 d4
              clear kx ky kyn kxn hzx hzy hzh hno hb hx hy
              go_wp2_with fail
              (try simp only [Exit.inBlock, Exit.then])
              refine bodyPost_ret (ret_cell rfl _ rfl (((HZH.out _).put 0 _).put 1 _) Try.underlying40 rfl (by kernel_rfl)) rfl ?_
              have kf := (KF nq).out
              have off_ := (OF nq).out
              have eb : ({ b with own := 1, refs := 1, bytes := List.replicate L2 0 } : Bf) = { b with own := 1, refs := 1, bytes := List.replicate b.bytes.length 0 } := by rw [hL2]
              have hlt : w.heap.size < (((((w.alloc (.cells #[.int .i64 0, .int .u64 0] 40)).drewN nq).setCell ⟨x, 1, none⟩ (.int .i64 1)).setCell ⟨x, 2, none⟩ (.int .i64 1)).setCells y 0 (List.replicate L2 (.int .u8 0))).heap.size := (HZH.out nq).lt
              refine ⟨rfl, ?_, ?_⟩
              · show IsP _ P (bs.set i ({ b with own := 1, refs := 1, bytes := List.replicate L2 0 } : Bf))
                rw [eb]
                exact kf.only (Only.setCell (Only.setCell (Only.refl (· = w.heap.size) _) (p := ⟨w.heap.size, 0, none⟩) (fun _ => rfl) _) (p := ⟨w.heap.size, 1, none⟩) (fun _ => rfl) _)
                  (fun j e h => by have := K.out.lt h; omega)
              · exact Only.setCell (Only.setCell off_ (p := ⟨w.heap.size, 0, none⟩) (fun h => absurd h (Nat.lt_irrefl _)) _) (p := ⟨w.heap.size, 1, none⟩) (fun h => absurd h (Nat.lt_irrefl _)) _
            · have d4 : decide (size ≤ (b.bytes.length : Int)) = false := decide_eq_false z4
              have hno' : Hid (∀ j b, j < i + 1 → bs[j]? = some b → ¬ (b.own = 0 ∧ size ≤ (b.bytes.length : Int))) := fun j c hj hc => by
                rcases Nat.lt_or_ge j i with h | h
                · exact hno.out j c h hc
                · obtain rfl : j = i := by omega
                  rw [hb] at hc
                  injection hc with hc
                  subst hc
                  exact fun e => z4 e.2
              generalize b.bytes.length = L2 at *
              generalize b.own = o2 at *
              clear kx ky hno hb hx hy
              go_wp2_with fail
              go_round
              case rel => exact ⟨i + 1, by go_num, by omega, hno'⟩
              case measure => simp [intOf]; omega
          · have d3 : (b.own == 0) = false := beq_eq_false_iff_ne.2 z3
            have hno' : Hid (∀ j b, j < i + 1 → bs[j]? = some b → ¬ (b.own = 0 ∧ size ≤ (b.bytes.length : Int))) := fun j c hj hc => by
              rcases Nat.lt_or_ge j i with h | h
              · exact hno.out j c h hc
              · obtain rfl : j = i := by omega
                rw [hb] at hc
                injection hc with hc
                subst hc
                exact fun e => z3 e.1
            generalize b.bytes.length = L2 at *
            generalize b.own = o2 at *
            clear kx ky hno hb hx hy
            go_wp2_with fail
            go_round
            case rel => exact ⟨i + 1, by go_num, by omega, hno'⟩
            case measure => simp [intOf]; omega
        · have hi2 : ¬ (i : Int) < m + 1 := by omega
          have fn := first_none (bs := bs) (size := size) (fun j b hj hb => hno.out j b (by omega) hb)
          have eg := E.out
          rw [fn] at eg
          simp only at eg
          have EG := Lib.hid eg
          clear hno eg fn
          go_wp2_with fail
          (try simp only [Exit.inBlock, Exit.then])
          refine bodyPost_ret (ret_cell rfl _ rfl (((Blk.new w 40 [.int .i64 0, .int .u64 0]).drewN _ |>.put 0 _).put 1 _) Try.underlying40 rfl (by kernel_rfl)) rfl ?_
          rw [EG.out]
          exact ⟨rfl, HK.out _, HO.out _⟩
end
end Go.Proofs.Ytajcjepolfmhmaa
