/- Layer 6 (bus): who wants the slot. -/
import Derived.Test.YtbfhohcimomphaaBusB
import Derived.Laws.ResultCell
namespace Go.Proofs.Ytbfhohcimomphaa
open Go.RowKit
set_option linter.unusedVariables false
set_option linter.unusedSimpArgs false
def intCells (l : List Int) : List Value := l.map (Value.int .i64)
theorem Src.int {w : World} {A : Option Addr} {n : Nat} {l : List Int} (h : Src w 1 A n (intCells l)) {i : Nat} (hi : i < n) : ∃ b off x, A = some ⟨b, off, none⟩ ∧ l[i]? = some x ∧ w.cell? ⟨b, off + i, none⟩ = some (.int .i64 x) := by
  obtain ⟨hl, h0 | ⟨ad, rfl, hc⟩⟩ := h
  · omega
  · simp [intCells] at hl
    obtain ⟨x, hx⟩ : ∃ x, l[i]? = some x := ⟨_, List.getElem?_eq_getElem (by omega)⟩
    obtain ⟨b, off, spot⟩ := ad
    have h1 := hc i (.int .i64 x) (by simp [intCells, hx])
    obtain ⟨x0, hx0⟩ : ∃ x, l[0]? = some x := ⟨_, List.getElem?_eq_getElem (by omega)⟩
    have h0 := hc 0 (.int .i64 x0) (by simp [intCells, hx0])
    have hs : spot = none := by simpa [Addr.add] using World.cell?_spot h0
    subst hs
    rw [Addr.add_lit] at h1
    exact ⟨b, off, x, rfl, hx, h1⟩
theorem Src.below {w w' : World} {size m : Nat} {A : Option Addr} {news : List Value} (h : Src w size A m news) (o : Below w.heap.size w w') : Src w' size A m news := h.keep fun p hp _ => o.cell hp
/-- A struct, or a row, as a result that lies in a block that is known, and a number beside it. -/
theorem ret_cell {P : Program} {fn : Func} {p u : Tmp} {ty t : TypeId} (h : fn.results = #[.cell p ty, .tmp u]) {tmps : Array Value} {w : World} {g : Nat} {cs : List Value} (d : TypeDesc)
    (hp : tmps.getD p undef = .pointer (some ⟨g, 0, none⟩)) (hg : Blk w g t cs) (hu : P.underlying ty = some d) (hd : (match d with | .struct _ | .array _ _ => true | _ => false) = true) (hi : (P.info? ty).map (·.size) = some cs.length) :
    (results fn tmps).run P w = .ok (.tuple #[.agg ⟨cs⟩, tmps.getD u undef]) w := by
  rw [results_cell_tmp h]
  have hp' : tmps[p]?.getD undef = .pointer (some ⟨g, 0, none⟩) := by simpa using hp
  have hl := run_loadVar_row w g t ty ⟨cs⟩ (0, 0) d hg hu hd hi
  simp [asAddr, hp', hl, Result.andThen]
/-- The marks of the first i wants. -/
def mk (l : List Int) (i : Nat) (k : Nat) : Bool := decide ((k : Int) ∈ l.take i)
def okWants (l : List Int) (n : Nat) : Bool := l.all fun x => decide (0 ≤ x ∧ x < n)
theorem mk_zero (l : List Int) : mk l 0 = fun _ => false := by funext k; simp [mk]
theorem mk_set {l : List Int} {i : Nat} {x : Nat} (h : l[i]? = some (x : Int)) (hx : x < 16) : (wantCells (mk l i)).set x (.bool true) = wantCells (mk l (i + 1)) := by
  apply List.ext_getElem?
  intro k
  have hl : (wantCells (mk l i)).length = 16 := by simp [wantCells]
  have hi := (List.getElem?_eq_some_iff.1 h).1
  have ht : l.take (i + 1) = l.take i ++ [(x : Int)] := by
    rw [List.take_succ_eq_append_getElem hi]
    obtain ⟨h1, h2⟩ := List.getElem?_eq_some_iff.1 h
    rw [h2]
  by_cases hk : k < 16
  · by_cases e : x = k
    · subst e
      rw [List.getElem?_set_self (by omega)]
      unfold wantCells
      rw [List.getElem?_map, List.getElem?_range hk]
      simp [mk, ht]
    · rw [List.getElem?_set_ne e]
      unfold wantCells
      rw [List.getElem?_map, List.getElem?_map, List.getElem?_range hk]
      have hne : ¬ ((k : Int) = (x : Int)) := by omega
      simp [mk, ht, hne]
  · rw [List.getElem?_eq_none (by simp [wantCells]; omega), List.getElem?_eq_none (by simp [wantCells]; omega)]
def RelMk (w : World) (l : List Int) (N : Nat) (iv : Value) (wr : World) : Prop :=
  ∃ i : Nat, iv = .int .i64 i ∧ i ≤ l.length ∧ (∀ j x, j < i → l[j]? = some x → 0 ≤ x ∧ x < N) ∧ Blk wr w.heap.size 70 (wantCells fun _ => false) ∧ Blk wr (w.heap.size + 1) 70 (wantCells (mk l i)) ∧ Below w.heap.size w wr
def MarksPost (w : World) (l : List Int) (N : Nat) (e : Ending) (w' : World) : Prop :=
  ∃ want : Nat → Bool, e = .returned (.tuple #[.agg #[.bool (want 0), .bool (want 1), .bool (want 2), .bool (want 3), .bool (want 4), .bool (want 5), .bool (want 6), .bool (want 7), .bool (want 8), .bool (want 9), .bool (want 10), .bool (want 11), .bool (want 12), .bool (want 13), .bool (want 14), .bool (want 15)], .bool (okWants l N)]) ∧ (okWants l N = true → ∀ k : Nat, k < 16 → want k = decide ((k : Int) ∈ l)) ∧ Below w.heap.size w w'
set_option maxRecDepth 100000 in
set_option maxHeartbeats 2000000 in
theorem marks_any {w : World} {A : Bl} {B : Bu} (k : IsB w A B) (hn : B.L.length ≤ 16) (l : List Int) (Aw : Option Addr) (c : Nat) (hs : Src w 1 Aw l.length (intCells l)) (hl : l.length ≤ 140737488351232) :
    Calls Try.prog 23 #[.pointer (some ⟨A.p, 0, none⟩), .slice Aw l.length c] w (MarksPost w l B.L.length) := by
  obtain ⟨c0, -⟩ := k.cells
  obtain ⟨A0, cp0, ev, -⟩ := k.list.shape
  rw [ev] at c0
  have hpl := k.blk.lt
  have HS := Lib.hid hs
  clear k hs ev
  go_enter Try.func23, Try.ntmps23
  go_wp2_with fail
  go_loopw [11] (fun iv wr => Hid (RelMk w l B.L.length iv wr)) (fun iv _ => l.length - (intOf iv).toNat)
  case atStart =>
    have h1 := Blk.new (w.alloc (.cells ⟨wantCells fun _ => false⟩ 70)) 70 (wantCells fun _ => false)
    have e : (w.alloc (.cells ⟨wantCells fun _ => false⟩ 70)).heap.size = w.heap.size + 1 := by simp
    rw [e] at h1
    exact ⟨0, rfl, by omega, fun j x h => by omega, (Blk.new w 70 (wantCells fun _ => false)).alloc _, by rw [mk_zero]; exact h1, ((Below.refl _ _).alloc (Nat.le_refl _) _).alloc (by simp) _⟩
  case round =>
    obtain ⟨i, rfl, hi, hall, hr, ho, hbel⟩ := hrel
    have c0' := (hbel.cell (p := ⟨A.p, 0, none⟩) hpl).trans c0
    have HR := Lib.hid hr
    have HO := Lib.hid ho
    have BEL := Lib.hid hbel
    have HALL := Lib.hid hall
    by_cases hil : i < l.length
    · have hi2 : (i : Int) < l.length := by omega
      obtain ⟨ab, ao, x, rfl, hx, hc⟩ := HS.out.int hil
      have hcell := (hbel.cell (p := ⟨ab, ao + i, none⟩) (World.block_lt_of_cell? w _ hc)).trans hc
      have HX := Lib.hid hx
      clear hc hx hbel hr ho hall
      by_cases h1 : x < 0
      · have d1 : decide (x < 0) = true := decide_eq_true h1
        have NOK : Hid (okWants l B.L.length = false) := by
          show okWants l B.L.length = false
          unfold okWants
          rw [List.all_eq_false]
          exact ⟨x, List.mem_of_getElem? HX.out, by simp; omega⟩
        have o0 := want_at HO.out (show 0 < 16 by omega)
        have r0 := want_at HR.out (show 0 < 16 by omega)
        have z0 : wr.frozen? ⟨w.heap.size, 0, none⟩ = false := HR.out.free 0
        have o1 := want_at HO.out (show 1 < 16 by omega)
        have r1 := want_at HR.out (show 1 < 16 by omega)
        have z1 : wr.frozen? ⟨w.heap.size, 1, none⟩ = false := HR.out.free 1
        have o2 := want_at HO.out (show 2 < 16 by omega)
        have r2 := want_at HR.out (show 2 < 16 by omega)
        have z2 : wr.frozen? ⟨w.heap.size, 2, none⟩ = false := HR.out.free 2
        have o3 := want_at HO.out (show 3 < 16 by omega)
        have r3 := want_at HR.out (show 3 < 16 by omega)
        have z3 : wr.frozen? ⟨w.heap.size, 3, none⟩ = false := HR.out.free 3
        have o4 := want_at HO.out (show 4 < 16 by omega)
        have r4 := want_at HR.out (show 4 < 16 by omega)
        have z4 : wr.frozen? ⟨w.heap.size, 4, none⟩ = false := HR.out.free 4
        have o5 := want_at HO.out (show 5 < 16 by omega)
        have r5 := want_at HR.out (show 5 < 16 by omega)
        have z5 : wr.frozen? ⟨w.heap.size, 5, none⟩ = false := HR.out.free 5
        have o6 := want_at HO.out (show 6 < 16 by omega)
        have r6 := want_at HR.out (show 6 < 16 by omega)
        have z6 : wr.frozen? ⟨w.heap.size, 6, none⟩ = false := HR.out.free 6
        have o7 := want_at HO.out (show 7 < 16 by omega)
        have r7 := want_at HR.out (show 7 < 16 by omega)
        have z7 : wr.frozen? ⟨w.heap.size, 7, none⟩ = false := HR.out.free 7
        have o8 := want_at HO.out (show 8 < 16 by omega)
        have r8 := want_at HR.out (show 8 < 16 by omega)
        have z8 : wr.frozen? ⟨w.heap.size, 8, none⟩ = false := HR.out.free 8
        have o9 := want_at HO.out (show 9 < 16 by omega)
        have r9 := want_at HR.out (show 9 < 16 by omega)
        have z9 : wr.frozen? ⟨w.heap.size, 9, none⟩ = false := HR.out.free 9
        have o10 := want_at HO.out (show 10 < 16 by omega)
        have r10 := want_at HR.out (show 10 < 16 by omega)
        have z10 : wr.frozen? ⟨w.heap.size, 10, none⟩ = false := HR.out.free 10
        have o11 := want_at HO.out (show 11 < 16 by omega)
        have r11 := want_at HR.out (show 11 < 16 by omega)
        have z11 : wr.frozen? ⟨w.heap.size, 11, none⟩ = false := HR.out.free 11
        have o12 := want_at HO.out (show 12 < 16 by omega)
        have r12 := want_at HR.out (show 12 < 16 by omega)
        have z12 : wr.frozen? ⟨w.heap.size, 12, none⟩ = false := HR.out.free 12
        have o13 := want_at HO.out (show 13 < 16 by omega)
        have r13 := want_at HR.out (show 13 < 16 by omega)
        have z13 : wr.frozen? ⟨w.heap.size, 13, none⟩ = false := HR.out.free 13
        have o14 := want_at HO.out (show 14 < 16 by omega)
        have r14 := want_at HR.out (show 14 < 16 by omega)
        have z14 : wr.frozen? ⟨w.heap.size, 14, none⟩ = false := HR.out.free 14
        have o15 := want_at HO.out (show 15 < 16 by omega)
        have r15 := want_at HR.out (show 15 < 16 by omega)
        have z15 : wr.frozen? ⟨w.heap.size, 15, none⟩ = false := HR.out.free 15
        go_wp2_with fail
        refine bodyPost_ret (ret_cell rfl _ rfl (Blk.put (Blk.put (Blk.put (Blk.put (Blk.put (Blk.put (Blk.put (Blk.put (Blk.put (Blk.put (Blk.put (Blk.put (Blk.put (Blk.put (Blk.put (Blk.put HR.out 0 (.bool (mk l i 0))) 1 (.bool (mk l i 1))) 2 (.bool (mk l i 2))) 3 (.bool (mk l i 3))) 4 (.bool (mk l i 4))) 5 (.bool (mk l i 5))) 6 (.bool (mk l i 6))) 7 (.bool (mk l i 7))) 8 (.bool (mk l i 8))) 9 (.bool (mk l i 9))) 10 (.bool (mk l i 10))) 11 (.bool (mk l i 11))) 12 (.bool (mk l i 12))) 13 (.bool (mk l i 13))) 14 (.bool (mk l i 14))) 15 (.bool (mk l i 15))) Try.underlying70 rfl (by kernel_rfl)) rfl ?_
        exact ⟨mk l i, by rw [NOK.out]; rfl, (fun h => by rw [NOK.out] at h; cases h), (Below.setCell (Below.setCell (Below.setCell (Below.setCell (Below.setCell (Below.setCell (Below.setCell (Below.setCell (Below.setCell (Below.setCell (Below.setCell (Below.setCell (Below.setCell (Below.setCell (Below.setCell (Below.setCell BEL.out (p := ⟨w.heap.size, 0, none⟩) (Nat.le_refl _) (.bool (mk l i 0))) (p := ⟨w.heap.size, 1, none⟩) (Nat.le_refl _) (.bool (mk l i 1))) (p := ⟨w.heap.size, 2, none⟩) (Nat.le_refl _) (.bool (mk l i 2))) (p := ⟨w.heap.size, 3, none⟩) (Nat.le_refl _) (.bool (mk l i 3))) (p := ⟨w.heap.size, 4, none⟩) (Nat.le_refl _) (.bool (mk l i 4))) (p := ⟨w.heap.size, 5, none⟩) (Nat.le_refl _) (.bool (mk l i 5))) (p := ⟨w.heap.size, 6, none⟩) (Nat.le_refl _) (.bool (mk l i 6))) (p := ⟨w.heap.size, 7, none⟩) (Nat.le_refl _) (.bool (mk l i 7))) (p := ⟨w.heap.size, 8, none⟩) (Nat.le_refl _) (.bool (mk l i 8))) (p := ⟨w.heap.size, 9, none⟩) (Nat.le_refl _) (.bool (mk l i 9))) (p := ⟨w.heap.size, 10, none⟩) (Nat.le_refl _) (.bool (mk l i 10))) (p := ⟨w.heap.size, 11, none⟩) (Nat.le_refl _) (.bool (mk l i 11))) (p := ⟨w.heap.size, 12, none⟩) (Nat.le_refl _) (.bool (mk l i 12))) (p := ⟨w.heap.size, 13, none⟩) (Nat.le_refl _) (.bool (mk l i 13))) (p := ⟨w.heap.size, 14, none⟩) (Nat.le_refl _) (.bool (mk l i 14))) (p := ⟨w.heap.size, 15, none⟩) (Nat.le_refl _) (.bool (mk l i 15)))⟩
      · have d1 : decide (x < 0) = false := decide_eq_false h1
        by_cases h2 : (B.L.length : Int) ≤ x
        · have d2 : decide ((B.L.length : Int) ≤ x) = true := decide_eq_true h2
          have NOK : Hid (okWants l B.L.length = false) := by
            show okWants l B.L.length = false
            unfold okWants
            rw [List.all_eq_false]
            exact ⟨x, List.mem_of_getElem? HX.out, by simp; omega⟩
          have o0 := want_at HO.out (show 0 < 16 by omega)
          have r0 := want_at HR.out (show 0 < 16 by omega)
          have z0 : wr.frozen? ⟨w.heap.size, 0, none⟩ = false := HR.out.free 0
          have o1 := want_at HO.out (show 1 < 16 by omega)
          have r1 := want_at HR.out (show 1 < 16 by omega)
          have z1 : wr.frozen? ⟨w.heap.size, 1, none⟩ = false := HR.out.free 1
          have o2 := want_at HO.out (show 2 < 16 by omega)
          have r2 := want_at HR.out (show 2 < 16 by omega)
          have z2 : wr.frozen? ⟨w.heap.size, 2, none⟩ = false := HR.out.free 2
          have o3 := want_at HO.out (show 3 < 16 by omega)
          have r3 := want_at HR.out (show 3 < 16 by omega)
          have z3 : wr.frozen? ⟨w.heap.size, 3, none⟩ = false := HR.out.free 3
          have o4 := want_at HO.out (show 4 < 16 by omega)
          have r4 := want_at HR.out (show 4 < 16 by omega)
          have z4 : wr.frozen? ⟨w.heap.size, 4, none⟩ = false := HR.out.free 4
          have o5 := want_at HO.out (show 5 < 16 by omega)
          have r5 := want_at HR.out (show 5 < 16 by omega)
          have z5 : wr.frozen? ⟨w.heap.size, 5, none⟩ = false := HR.out.free 5
          have o6 := want_at HO.out (show 6 < 16 by omega)
          have r6 := want_at HR.out (show 6 < 16 by omega)
          have z6 : wr.frozen? ⟨w.heap.size, 6, none⟩ = false := HR.out.free 6
          have o7 := want_at HO.out (show 7 < 16 by omega)
          have r7 := want_at HR.out (show 7 < 16 by omega)
          have z7 : wr.frozen? ⟨w.heap.size, 7, none⟩ = false := HR.out.free 7
          have o8 := want_at HO.out (show 8 < 16 by omega)
          have r8 := want_at HR.out (show 8 < 16 by omega)
          have z8 : wr.frozen? ⟨w.heap.size, 8, none⟩ = false := HR.out.free 8
          have o9 := want_at HO.out (show 9 < 16 by omega)
          have r9 := want_at HR.out (show 9 < 16 by omega)
          have z9 : wr.frozen? ⟨w.heap.size, 9, none⟩ = false := HR.out.free 9
          have o10 := want_at HO.out (show 10 < 16 by omega)
          have r10 := want_at HR.out (show 10 < 16 by omega)
          have z10 : wr.frozen? ⟨w.heap.size, 10, none⟩ = false := HR.out.free 10
          have o11 := want_at HO.out (show 11 < 16 by omega)
          have r11 := want_at HR.out (show 11 < 16 by omega)
          have z11 : wr.frozen? ⟨w.heap.size, 11, none⟩ = false := HR.out.free 11
          have o12 := want_at HO.out (show 12 < 16 by omega)
          have r12 := want_at HR.out (show 12 < 16 by omega)
          have z12 : wr.frozen? ⟨w.heap.size, 12, none⟩ = false := HR.out.free 12
          have o13 := want_at HO.out (show 13 < 16 by omega)
          have r13 := want_at HR.out (show 13 < 16 by omega)
          have z13 : wr.frozen? ⟨w.heap.size, 13, none⟩ = false := HR.out.free 13
          have o14 := want_at HO.out (show 14 < 16 by omega)
          have r14 := want_at HR.out (show 14 < 16 by omega)
          have z14 : wr.frozen? ⟨w.heap.size, 14, none⟩ = false := HR.out.free 14
          have o15 := want_at HO.out (show 15 < 16 by omega)
          have r15 := want_at HR.out (show 15 < 16 by omega)
          have z15 : wr.frozen? ⟨w.heap.size, 15, none⟩ = false := HR.out.free 15
          go_wp2_with fail
          refine bodyPost_ret (ret_cell rfl _ rfl (Blk.put (Blk.put (Blk.put (Blk.put (Blk.put (Blk.put (Blk.put (Blk.put (Blk.put (Blk.put (Blk.put (Blk.put (Blk.put (Blk.put (Blk.put (Blk.put HR.out 0 (.bool (mk l i 0))) 1 (.bool (mk l i 1))) 2 (.bool (mk l i 2))) 3 (.bool (mk l i 3))) 4 (.bool (mk l i 4))) 5 (.bool (mk l i 5))) 6 (.bool (mk l i 6))) 7 (.bool (mk l i 7))) 8 (.bool (mk l i 8))) 9 (.bool (mk l i 9))) 10 (.bool (mk l i 10))) 11 (.bool (mk l i 11))) 12 (.bool (mk l i 12))) 13 (.bool (mk l i 13))) 14 (.bool (mk l i 14))) 15 (.bool (mk l i 15))) Try.underlying70 rfl (by kernel_rfl)) rfl ?_
          exact ⟨mk l i, by rw [NOK.out]; rfl, (fun h => by rw [NOK.out] at h; cases h), (Below.setCell (Below.setCell (Below.setCell (Below.setCell (Below.setCell (Below.setCell (Below.setCell (Below.setCell (Below.setCell (Below.setCell (Below.setCell (Below.setCell (Below.setCell (Below.setCell (Below.setCell (Below.setCell BEL.out (p := ⟨w.heap.size, 0, none⟩) (Nat.le_refl _) (.bool (mk l i 0))) (p := ⟨w.heap.size, 1, none⟩) (Nat.le_refl _) (.bool (mk l i 1))) (p := ⟨w.heap.size, 2, none⟩) (Nat.le_refl _) (.bool (mk l i 2))) (p := ⟨w.heap.size, 3, none⟩) (Nat.le_refl _) (.bool (mk l i 3))) (p := ⟨w.heap.size, 4, none⟩) (Nat.le_refl _) (.bool (mk l i 4))) (p := ⟨w.heap.size, 5, none⟩) (Nat.le_refl _) (.bool (mk l i 5))) (p := ⟨w.heap.size, 6, none⟩) (Nat.le_refl _) (.bool (mk l i 6))) (p := ⟨w.heap.size, 7, none⟩) (Nat.le_refl _) (.bool (mk l i 7))) (p := ⟨w.heap.size, 8, none⟩) (Nat.le_refl _) (.bool (mk l i 8))) (p := ⟨w.heap.size, 9, none⟩) (Nat.le_refl _) (.bool (mk l i 9))) (p := ⟨w.heap.size, 10, none⟩) (Nat.le_refl _) (.bool (mk l i 10))) (p := ⟨w.heap.size, 11, none⟩) (Nat.le_refl _) (.bool (mk l i 11))) (p := ⟨w.heap.size, 12, none⟩) (Nat.le_refl _) (.bool (mk l i 12))) (p := ⟨w.heap.size, 13, none⟩) (Nat.le_refl _) (.bool (mk l i 13))) (p := ⟨w.heap.size, 14, none⟩) (Nat.le_refl _) (.bool (mk l i 14))) (p := ⟨w.heap.size, 15, none⟩) (Nat.le_refl _) (.bool (mk l i 15)))⟩
        · have d2 : decide ((B.L.length : Int) ≤ x) = false := decide_eq_false h2
          obtain ⟨X, rfl⟩ : ∃ X : Nat, x = (X : Int) := ⟨x.toNat, by omega⟩
          have hX : X < 16 := by omega
          have hX2 : (X : Int) < 16 := by omega
          have oX := want_at HO.out hX
          have zX : wr.frozen? ⟨w.heap.size + 1, X, none⟩ = false := HO.out.free X
          have S := Lib.hid (mk_set HX.out hX)
          go_wp2_with fail
          go_roundw
          case rel => exact ⟨i + 1, by go_num, by omega, fun j y hj hy => by
            rcases Nat.lt_or_ge j i with h | h
            · exact HALL.out j y h hy
            · have e : j = i := by omega
              subst e
              rw [HX.out] at hy
              injection hy with hy
              subst hy
              omega, HR.out.far (p := ⟨w.heap.size + 1, X, none⟩) (by simp) _, by rw [← S.out]; exact HO.out.put X _, BEL.out.setCell (p := ⟨w.heap.size + 1, X, none⟩) (by simp) _⟩
          case measure => simp [intOf]; omega
    · have hi2 : ¬ (i : Int) < l.length := by omega
      obtain rfl : i = l.length := by omega
      have YOK : Hid (okWants l B.L.length = true) := by
        show okWants l B.L.length = true
        unfold okWants
        rw [List.all_eq_true]
        intro y hy
        obtain ⟨j, hj⟩ := List.mem_iff_getElem?.1 hy
        have := hall j y (List.getElem?_eq_some_iff.1 hj).1 hj
        simp; omega
      clear hbel hr ho hall
      have o0 := want_at HO.out (show 0 < 16 by omega)
      have r0 := want_at HR.out (show 0 < 16 by omega)
      have z0 : wr.frozen? ⟨w.heap.size, 0, none⟩ = false := HR.out.free 0
      have o1 := want_at HO.out (show 1 < 16 by omega)
      have r1 := want_at HR.out (show 1 < 16 by omega)
      have z1 : wr.frozen? ⟨w.heap.size, 1, none⟩ = false := HR.out.free 1
      have o2 := want_at HO.out (show 2 < 16 by omega)
      have r2 := want_at HR.out (show 2 < 16 by omega)
      have z2 : wr.frozen? ⟨w.heap.size, 2, none⟩ = false := HR.out.free 2
      have o3 := want_at HO.out (show 3 < 16 by omega)
      have r3 := want_at HR.out (show 3 < 16 by omega)
      have z3 : wr.frozen? ⟨w.heap.size, 3, none⟩ = false := HR.out.free 3
      have o4 := want_at HO.out (show 4 < 16 by omega)
      have r4 := want_at HR.out (show 4 < 16 by omega)
      have z4 : wr.frozen? ⟨w.heap.size, 4, none⟩ = false := HR.out.free 4
      have o5 := want_at HO.out (show 5 < 16 by omega)
      have r5 := want_at HR.out (show 5 < 16 by omega)
      have z5 : wr.frozen? ⟨w.heap.size, 5, none⟩ = false := HR.out.free 5
      have o6 := want_at HO.out (show 6 < 16 by omega)
      have r6 := want_at HR.out (show 6 < 16 by omega)
      have z6 : wr.frozen? ⟨w.heap.size, 6, none⟩ = false := HR.out.free 6
      have o7 := want_at HO.out (show 7 < 16 by omega)
      have r7 := want_at HR.out (show 7 < 16 by omega)
      have z7 : wr.frozen? ⟨w.heap.size, 7, none⟩ = false := HR.out.free 7
      have o8 := want_at HO.out (show 8 < 16 by omega)
      have r8 := want_at HR.out (show 8 < 16 by omega)
      have z8 : wr.frozen? ⟨w.heap.size, 8, none⟩ = false := HR.out.free 8
      have o9 := want_at HO.out (show 9 < 16 by omega)
      have r9 := want_at HR.out (show 9 < 16 by omega)
      have z9 : wr.frozen? ⟨w.heap.size, 9, none⟩ = false := HR.out.free 9
      have o10 := want_at HO.out (show 10 < 16 by omega)
      have r10 := want_at HR.out (show 10 < 16 by omega)
      have z10 : wr.frozen? ⟨w.heap.size, 10, none⟩ = false := HR.out.free 10
      have o11 := want_at HO.out (show 11 < 16 by omega)
      have r11 := want_at HR.out (show 11 < 16 by omega)
      have z11 : wr.frozen? ⟨w.heap.size, 11, none⟩ = false := HR.out.free 11
      have o12 := want_at HO.out (show 12 < 16 by omega)
      have r12 := want_at HR.out (show 12 < 16 by omega)
      have z12 : wr.frozen? ⟨w.heap.size, 12, none⟩ = false := HR.out.free 12
      have o13 := want_at HO.out (show 13 < 16 by omega)
      have r13 := want_at HR.out (show 13 < 16 by omega)
      have z13 : wr.frozen? ⟨w.heap.size, 13, none⟩ = false := HR.out.free 13
      have o14 := want_at HO.out (show 14 < 16 by omega)
      have r14 := want_at HR.out (show 14 < 16 by omega)
      have z14 : wr.frozen? ⟨w.heap.size, 14, none⟩ = false := HR.out.free 14
      have o15 := want_at HO.out (show 15 < 16 by omega)
      have r15 := want_at HR.out (show 15 < 16 by omega)
      have z15 : wr.frozen? ⟨w.heap.size, 15, none⟩ = false := HR.out.free 15
      go_wp2_with fail
      refine bodyPost_ret (ret_cell rfl _ rfl (Blk.put (Blk.put (Blk.put (Blk.put (Blk.put (Blk.put (Blk.put (Blk.put (Blk.put (Blk.put (Blk.put (Blk.put (Blk.put (Blk.put (Blk.put (Blk.put HR.out 0 (.bool (mk l l.length 0))) 1 (.bool (mk l l.length 1))) 2 (.bool (mk l l.length 2))) 3 (.bool (mk l l.length 3))) 4 (.bool (mk l l.length 4))) 5 (.bool (mk l l.length 5))) 6 (.bool (mk l l.length 6))) 7 (.bool (mk l l.length 7))) 8 (.bool (mk l l.length 8))) 9 (.bool (mk l l.length 9))) 10 (.bool (mk l l.length 10))) 11 (.bool (mk l l.length 11))) 12 (.bool (mk l l.length 12))) 13 (.bool (mk l l.length 13))) 14 (.bool (mk l l.length 14))) 15 (.bool (mk l l.length 15))) Try.underlying70 rfl (by kernel_rfl)) rfl ?_
      exact ⟨mk l l.length, by rw [YOK.out]; rfl, fun _ k _ => by simp [mk], (Below.setCell (Below.setCell (Below.setCell (Below.setCell (Below.setCell (Below.setCell (Below.setCell (Below.setCell (Below.setCell (Below.setCell (Below.setCell (Below.setCell (Below.setCell (Below.setCell (Below.setCell (Below.setCell BEL.out (p := ⟨w.heap.size, 0, none⟩) (Nat.le_refl _) (.bool (mk l l.length 0))) (p := ⟨w.heap.size, 1, none⟩) (Nat.le_refl _) (.bool (mk l l.length 1))) (p := ⟨w.heap.size, 2, none⟩) (Nat.le_refl _) (.bool (mk l l.length 2))) (p := ⟨w.heap.size, 3, none⟩) (Nat.le_refl _) (.bool (mk l l.length 3))) (p := ⟨w.heap.size, 4, none⟩) (Nat.le_refl _) (.bool (mk l l.length 4))) (p := ⟨w.heap.size, 5, none⟩) (Nat.le_refl _) (.bool (mk l l.length 5))) (p := ⟨w.heap.size, 6, none⟩) (Nat.le_refl _) (.bool (mk l l.length 6))) (p := ⟨w.heap.size, 7, none⟩) (Nat.le_refl _) (.bool (mk l l.length 7))) (p := ⟨w.heap.size, 8, none⟩) (Nat.le_refl _) (.bool (mk l l.length 8))) (p := ⟨w.heap.size, 9, none⟩) (Nat.le_refl _) (.bool (mk l l.length 9))) (p := ⟨w.heap.size, 10, none⟩) (Nat.le_refl _) (.bool (mk l l.length 10))) (p := ⟨w.heap.size, 11, none⟩) (Nat.le_refl _) (.bool (mk l l.length 11))) (p := ⟨w.heap.size, 12, none⟩) (Nat.le_refl _) (.bool (mk l l.length 12))) (p := ⟨w.heap.size, 13, none⟩) (Nat.le_refl _) (.bool (mk l l.length 13))) (p := ⟨w.heap.size, 14, none⟩) (Nat.le_refl _) (.bool (mk l l.length 14))) (p := ⟨w.heap.size, 15, none⟩) (Nat.le_refl _) (.bool (mk l l.length 15)))⟩
end Go.Proofs.Ytbfhohcimomphaa
