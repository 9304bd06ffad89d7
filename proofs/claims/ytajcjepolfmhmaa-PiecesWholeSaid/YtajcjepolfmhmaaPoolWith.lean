/- Layer 7 (pool): 'with', for each of the closures that it is given. -/
import Derived.Test.YtajcjepolfmhmaaPool
import Derived.Deep.QuietTactic
import Derived.BigQuiet
import Derived.StillTailTactics
import Derived.Deep.RegionLaw
import Derived.BigRegion
import Derived.Deep.RegionWith
namespace Go.Proofs.Ytajcjepolfmhmaa
open Go.RowKit
set_option linter.unusedVariables false
set_option linter.unusedSimpArgs false
theorem boxh (w : World) (s g : Int) (W : World) (h : Below (w.alloc (.cells #[.int .i64 s, .int .u64 g] 40)).heap.size (w.alloc (.cells #[.int .i64 s, .int .u64 g] 40)) W) :
    W.cell? ⟨w.heap.size, 0, none⟩ = some (.int .i64 s) ∧ W.cell? ⟨w.heap.size, 1, none⟩ = some (.int .u64 g) := by
  have k := (Blk.new w 40 [.int .i64 s, .int .u64 g]).below h (by simp)
  exact ⟨k.cell 0, k.cell 1⟩
section
variable {w w' : World} {P : Pl} {bs : List Bf}
set_option maxHeartbeats 2000000 in
theorem with_none (k : IsP w P bs) (s g : Int) (h : look bs s g = none) (fn : Fn) (first cap : Array Value) :
    Calls Try.prog 34 #[.pointer (some ⟨P.p, 0, none⟩), .agg #[.int .i64 s, .int .u64 g], .func fn first cap] w fun e w' => e = .returned (.int .i64 3) ∧ Below w.heap.size w w' := by
  have hp : w.cell? ⟨P.p, 0, none⟩ = some P.v := k.blk.cell 0
  have hpl := k.blk.lt
  have hlen := k.row.len
  obtain ⟨A, c, hv, hc⟩ := k.row.shape
  rw [hv] at hp
  unfold maxLen at hlen
  have fin : ∀ n, Below w.heap.size w ((w.alloc (.cells #[.int .i64 s, .int .u64 g] 40)).drewN n) := fun n => Below.drewN' ((Below.refl _ _).alloc (Nat.le_refl _) _) n
  have FIN := Lib.hid fin
  rcases look_none h with h1 | h1 | ⟨i, b, rfl, hi, hb, h1⟩
  · have d1 : decide (s < 0) = true := decide_eq_true h1
    clear k h hv fin
    go_enter Try.func34, Try.ntmps34
    go_wp2_with fail
    go_quiet (fail)
    go_wp2_with fail
    go_ret
    exact ⟨rfl, FIN.out _⟩
  · have d1 : decide (s < 0) = false := decide_eq_false (by omega)
    have d2 : decide ((bs.length : Int) ≤ s) = true := decide_eq_true h1
    clear k h hv fin
    go_enter Try.func34, Try.ntmps34
    go_wp2_with fail
    go_quiet (fail)
    go_wp2_with fail
    go_ret
    exact ⟨rfl, FIN.out _⟩
  · obtain ⟨b0, x, y, hb0, hx, hy, -, -, kx, ky⟩ := k.at_ hi
    rw [hb] at hb0
    injection hb0 with hb0
    subst hb0
    have hr := k.row
    rw [hv] at hr
    obtain ⟨gk, off, c', hv', -, -, hgl, hxx, -⟩ := hr.at_ (by omega)
    simp only [Value.slice.injEq] at hv'
    obtain ⟨rfl, -, rfl⟩ := hv'
    have r1 : w.cell? ⟨gk, off + i, none⟩ = some (.pointer (some ⟨x, 0, none⟩)) := hxx i _ (by simp [hx, ptr])
    have x0 : w.cell? ⟨x, 0, none⟩ = some (.int .u64 b.gen) := kx.cell 0
    have x1 : w.cell? ⟨x, 1, none⟩ = some (.int .i64 b.own) := kx.cell 1
    have xl := kx.lt
    have d1 : decide ((i : Int) < 0) = false := decide_eq_false (by omega)
    have d2 : decide ((bs.length : Int) ≤ i) = false := decide_eq_false (by omega)
    have d2' : decide (bs.length ≤ i) = false := decide_eq_false (by omega)
    have hi2 : (i : Int) < bs.length := by omega
    clear k h hv fin kx ky hr hxx hb hx hy
    by_cases h2 : b.own = 0
    · have d3 : (b.own == 0) = true := beq_iff_eq.2 h2
      clear h1
      go_enter Try.func34, Try.ntmps34
      go_wp2_with fail
      go_quiet (fail)
      go_wp2_with fail
      go_ret
      exact ⟨rfl, FIN.out _⟩
    · have d3 : (b.own == 0) = false := beq_eq_false_iff_ne.2 h2
      have h3 : b.gen ≠ g := h1.elim (fun e => absurd e h2) id
      have d4 : (b.gen == g) = false := beq_eq_false_iff_ne.2 h3
      have d5 : (b.gen != g) = true := bne_iff_ne.2 h3
      clear h1
      go_enter Try.func34, Try.ntmps34
      go_wp2_with fail
      go_quiet (fail)
      go_wp2_with fail
      go_ret
      exact ⟨rfl, FIN.out _⟩
set_option maxHeartbeats 2000000 in
theorem with_Give (k : IsP w P bs) {s g : Int} {i : Nat} {b : Bf} (h : look bs s g = some (i, b)) {x : Nat} (hx : P.xs[i]? = some x) (cap : Array Value) {Q : Ending → World → Prop}
    (H : ∀ W, IsP W P bs → Below w.heap.size w W → Calls Try.prog 45 (#[.pointer (some ⟨x, 0, none⟩)] ++ cap) W fun e w' => ∃ c, e = .returned (.int .i64 c) ∧ Q e w') :
    Calls Try.prog 34 #[.pointer (some ⟨P.p, 0, none⟩), .agg #[.int .i64 s, .int .u64 g], .func (.func 45) #[] cap] w Q := by
  have hp : w.cell? ⟨P.p, 0, none⟩ = some P.v := k.blk.cell 0
  have hpl := k.blk.lt
  have hlen := k.row.len
  obtain ⟨A, c, hv, hc⟩ := k.row.shape
  rw [hv] at hp
  unfold maxLen at hlen
  obtain ⟨rfl, hi, hb, ho, rfl⟩ := look_some h
  obtain ⟨b0, x', y, hb0, hx', hy, -, -, kx, ky⟩ := k.at_ hi
  rw [hb] at hb0
  injection hb0 with hb0
  subst hb0
  rw [hx] at hx'
  injection hx' with hx'
  subst hx'
  have hr := k.row
  rw [hv] at hr
  obtain ⟨gk, off, c', hv', -, -, hgl, hxx, -⟩ := hr.at_ (by omega)
  simp only [Value.slice.injEq] at hv'
  obtain ⟨rfl, -, rfl⟩ := hv'
  have r1 : w.cell? ⟨gk, off + i, none⟩ = some (.pointer (some ⟨x, 0, none⟩)) := hxx i _ (by simp [hx, ptr])
  have x0 : w.cell? ⟨x, 0, none⟩ = some (.int .u64 b.gen) := kx.cell 0
  have x1 : w.cell? ⟨x, 1, none⟩ = some (.int .i64 b.own) := kx.cell 1
  have xl := kx.lt
  have d1 : decide ((i : Int) < 0) = false := decide_eq_false (by omega)
  have d2 : decide ((bs.length : Int) ≤ i) = false := decide_eq_false (by omega)
  have d2' : decide (bs.length ≤ i) = false := decide_eq_false (by omega)
  have hi2 : (i : Int) < bs.length := by omega
  have d3 : (b.own == 0) = false := beq_eq_false_iff_ne.2 ho
  have W1 := fun n => Lib.hid (IsP.drewN (k.alloc (.cells #[.int .i64 i, .int .u64 b.gen] 40)) n)
  have W2 := fun n => Lib.hid (Below.drewN' ((Below.refl w.heap.size w).alloc (Nat.le_refl _) (.cells #[.int .i64 i, .int .u64 b.gen] 40)) n)
  have HH := fun n => Lib.hid (H _ (W1 n).out (W2 n).out)
  clear k h hv kx ky hr hxx hb hx hy H W1 W2
  go_enter Try.func34, Try.ntmps34
  go_wp2_with fail
  go_quiet (fail)
  go_wp2_with fail
  go_region_with (go_at_call 45; (with_reducible refine Calls.mono (HH _).out ?_); rintro e w' ⟨c, rfl, hq⟩)
  all_goals
    first
      | exact hq
      | (go_ret
         exact hq)
      | (go_wp2_with fail
         first
           | exact hq
           | (go_ret
              exact hq))
set_option maxHeartbeats 2000000 in
theorem with_Owner (k : IsP w P bs) {s g : Int} {i : Nat} {b : Bf} (h : look bs s g = some (i, b)) {x : Nat} (hx : P.xs[i]? = some x) (cap : Array Value) {Q : Ending → World → Prop}
    (H : ∀ W, IsP W P bs → Below w.heap.size w W → Calls Try.prog 35 (#[.pointer (some ⟨x, 0, none⟩)] ++ cap) W fun e w' => ∃ c, e = .returned (.int .i64 c) ∧ Q e w') :
    Calls Try.prog 34 #[.pointer (some ⟨P.p, 0, none⟩), .agg #[.int .i64 s, .int .u64 g], .func (.func 35) #[] cap] w Q := by
  have hp : w.cell? ⟨P.p, 0, none⟩ = some P.v := k.blk.cell 0
  have hpl := k.blk.lt
  have hlen := k.row.len
  obtain ⟨A, c, hv, hc⟩ := k.row.shape
  rw [hv] at hp
  unfold maxLen at hlen
  obtain ⟨rfl, hi, hb, ho, rfl⟩ := look_some h
  obtain ⟨b0, x', y, hb0, hx', hy, -, -, kx, ky⟩ := k.at_ hi
  rw [hb] at hb0
  injection hb0 with hb0
  subst hb0
  rw [hx] at hx'
  injection hx' with hx'
  subst hx'
  have hr := k.row
  rw [hv] at hr
  obtain ⟨gk, off, c', hv', -, -, hgl, hxx, -⟩ := hr.at_ (by omega)
  simp only [Value.slice.injEq] at hv'
  obtain ⟨rfl, -, rfl⟩ := hv'
  have r1 : w.cell? ⟨gk, off + i, none⟩ = some (.pointer (some ⟨x, 0, none⟩)) := hxx i _ (by simp [hx, ptr])
  have x0 : w.cell? ⟨x, 0, none⟩ = some (.int .u64 b.gen) := kx.cell 0
  have x1 : w.cell? ⟨x, 1, none⟩ = some (.int .i64 b.own) := kx.cell 1
  have xl := kx.lt
  have d1 : decide ((i : Int) < 0) = false := decide_eq_false (by omega)
  have d2 : decide ((bs.length : Int) ≤ i) = false := decide_eq_false (by omega)
  have d2' : decide (bs.length ≤ i) = false := decide_eq_false (by omega)
  have hi2 : (i : Int) < bs.length := by omega
  have d3 : (b.own == 0) = false := beq_eq_false_iff_ne.2 ho
  have W1 := fun n => Lib.hid (IsP.drewN (k.alloc (.cells #[.int .i64 i, .int .u64 b.gen] 40)) n)
  have W2 := fun n => Lib.hid (Below.drewN' ((Below.refl w.heap.size w).alloc (Nat.le_refl _) (.cells #[.int .i64 i, .int .u64 b.gen] 40)) n)
  have HH := fun n => Lib.hid (H _ (W1 n).out (W2 n).out)
  clear k h hv kx ky hr hxx hb hx hy H W1 W2
  go_enter Try.func34, Try.ntmps34
  go_wp2_with fail
  go_quiet (fail)
  go_wp2_with fail
  go_region_with (go_at_call 35; (with_reducible refine Calls.mono (HH _).out ?_); rintro e w' ⟨c, rfl, hq⟩)
  all_goals
    first
      | exact hq
      | (go_ret
         exact hq)
      | (go_wp2_with fail
         first
           | exact hq
           | (go_ret
              exact hq))
set_option maxHeartbeats 2000000 in
theorem with_Size (k : IsP w P bs) {s g : Int} {i : Nat} {b : Bf} (h : look bs s g = some (i, b)) {x : Nat} (hx : P.xs[i]? = some x) (cap : Array Value) {Q : Ending → World → Prop}
    (H : ∀ W, IsP W P bs → Below w.heap.size w W → Calls Try.prog 46 (#[.pointer (some ⟨x, 0, none⟩)] ++ cap) W fun e w' => ∃ c, e = .returned (.int .i64 c) ∧ Q e w') :
    Calls Try.prog 34 #[.pointer (some ⟨P.p, 0, none⟩), .agg #[.int .i64 s, .int .u64 g], .func (.func 46) #[] cap] w Q := by
  have hp : w.cell? ⟨P.p, 0, none⟩ = some P.v := k.blk.cell 0
  have hpl := k.blk.lt
  have hlen := k.row.len
  obtain ⟨A, c, hv, hc⟩ := k.row.shape
  rw [hv] at hp
  unfold maxLen at hlen
  obtain ⟨rfl, hi, hb, ho, rfl⟩ := look_some h
  obtain ⟨b0, x', y, hb0, hx', hy, -, -, kx, ky⟩ := k.at_ hi
  rw [hb] at hb0
  injection hb0 with hb0
  subst hb0
  rw [hx] at hx'
  injection hx' with hx'
  subst hx'
  have hr := k.row
  rw [hv] at hr
  obtain ⟨gk, off, c', hv', -, -, hgl, hxx, -⟩ := hr.at_ (by omega)
  simp only [Value.slice.injEq] at hv'
  obtain ⟨rfl, -, rfl⟩ := hv'
  have r1 : w.cell? ⟨gk, off + i, none⟩ = some (.pointer (some ⟨x, 0, none⟩)) := hxx i _ (by simp [hx, ptr])
  have x0 : w.cell? ⟨x, 0, none⟩ = some (.int .u64 b.gen) := kx.cell 0
  have x1 : w.cell? ⟨x, 1, none⟩ = some (.int .i64 b.own) := kx.cell 1
  have xl := kx.lt
  have d1 : decide ((i : Int) < 0) = false := decide_eq_false (by omega)
  have d2 : decide ((bs.length : Int) ≤ i) = false := decide_eq_false (by omega)
  have d2' : decide (bs.length ≤ i) = false := decide_eq_false (by omega)
  have hi2 : (i : Int) < bs.length := by omega
  have d3 : (b.own == 0) = false := beq_eq_false_iff_ne.2 ho
  have W1 := fun n => Lib.hid (IsP.drewN (k.alloc (.cells #[.int .i64 i, .int .u64 b.gen] 40)) n)
  have W2 := fun n => Lib.hid (Below.drewN' ((Below.refl w.heap.size w).alloc (Nat.le_refl _) (.cells #[.int .i64 i, .int .u64 b.gen] 40)) n)
  have HH := fun n => Lib.hid (H _ (W1 n).out (W2 n).out)
  clear k h hv kx ky hr hxx hb hx hy H W1 W2
  go_enter Try.func34, Try.ntmps34
  go_wp2_with fail
  go_quiet (fail)
  go_wp2_with fail
  go_region_with (go_at_call 46; (with_reducible refine Calls.mono (HH _).out ?_); rintro e w' ⟨c, rfl, hq⟩)
  all_goals
    first
      | exact hq
      | (go_ret
         exact hq)
      | (go_wp2_with fail
         first
           | exact hq
           | (go_ret
              exact hq))
set_option maxHeartbeats 2000000 in
theorem with_Write (k : IsP w P bs) {s g : Int} {i : Nat} {b : Bf} (h : look bs s g = some (i, b)) {x : Nat} (hx : P.xs[i]? = some x) (cap : Array Value) {Q : Ending → World → Prop}
    (H : ∀ W, IsP W P bs → Below w.heap.size w W → Calls Try.prog 42 (#[.pointer (some ⟨x, 0, none⟩)] ++ cap) W fun e w' => ∃ c, e = .returned (.int .i64 c) ∧ Q e w') :
    Calls Try.prog 34 #[.pointer (some ⟨P.p, 0, none⟩), .agg #[.int .i64 s, .int .u64 g], .func (.func 42) #[] cap] w Q := by
  have hp : w.cell? ⟨P.p, 0, none⟩ = some P.v := k.blk.cell 0
  have hpl := k.blk.lt
  have hlen := k.row.len
  obtain ⟨A, c, hv, hc⟩ := k.row.shape
  rw [hv] at hp
  unfold maxLen at hlen
  obtain ⟨rfl, hi, hb, ho, rfl⟩ := look_some h
  obtain ⟨b0, x', y, hb0, hx', hy, -, -, kx, ky⟩ := k.at_ hi
  rw [hb] at hb0
  injection hb0 with hb0
  subst hb0
  rw [hx] at hx'
  injection hx' with hx'
  subst hx'
  have hr := k.row
  rw [hv] at hr
  obtain ⟨gk, off, c', hv', -, -, hgl, hxx, -⟩ := hr.at_ (by omega)
  simp only [Value.slice.injEq] at hv'
  obtain ⟨rfl, -, rfl⟩ := hv'
  have r1 : w.cell? ⟨gk, off + i, none⟩ = some (.pointer (some ⟨x, 0, none⟩)) := hxx i _ (by simp [hx, ptr])
  have x0 : w.cell? ⟨x, 0, none⟩ = some (.int .u64 b.gen) := kx.cell 0
  have x1 : w.cell? ⟨x, 1, none⟩ = some (.int .i64 b.own) := kx.cell 1
  have xl := kx.lt
  have d1 : decide ((i : Int) < 0) = false := decide_eq_false (by omega)
  have d2 : decide ((bs.length : Int) ≤ i) = false := decide_eq_false (by omega)
  have d2' : decide (bs.length ≤ i) = false := decide_eq_false (by omega)
  have hi2 : (i : Int) < bs.length := by omega
  have d3 : (b.own == 0) = false := beq_eq_false_iff_ne.2 ho
  have W1 := fun n => Lib.hid (IsP.drewN (k.alloc (.cells #[.int .i64 i, .int .u64 b.gen] 40)) n)
  have W2 := fun n => Lib.hid (Below.drewN' ((Below.refl w.heap.size w).alloc (Nat.le_refl _) (.cells #[.int .i64 i, .int .u64 b.gen] 40)) n)
  have HH := fun n => Lib.hid (H _ (W1 n).out (W2 n).out)
  clear k h hv kx ky hr hxx hb hx hy H W1 W2
  go_enter Try.func34, Try.ntmps34
  go_wp2_with fail
  go_quiet (fail)
  go_wp2_with fail
  go_region_with (go_at_call 42; (with_reducible refine Calls.mono (HH _).out ?_); rintro e w' ⟨c, rfl, hq⟩)
  all_goals
    first
      | exact hq
      | (go_ret
         exact hq)
      | (go_wp2_with fail
         first
           | exact hq
           | (go_ret
              exact hq))
set_option maxHeartbeats 2000000 in
theorem with_Read (k : IsP w P bs) {s g : Int} {i : Nat} {b : Bf} (h : look bs s g = some (i, b)) {x : Nat} (hx : P.xs[i]? = some x) (cap : Array Value) {Q : Ending → World → Prop}
    (H : ∀ W, IsP W P bs → Below w.heap.size w W → Calls Try.prog 36 (#[.pointer (some ⟨x, 0, none⟩)] ++ cap) W fun e w' => ∃ c, e = .returned (.int .i64 c) ∧ Q e w') :
    Calls Try.prog 34 #[.pointer (some ⟨P.p, 0, none⟩), .agg #[.int .i64 s, .int .u64 g], .func (.func 36) #[] cap] w Q := by
  have hp : w.cell? ⟨P.p, 0, none⟩ = some P.v := k.blk.cell 0
  have hpl := k.blk.lt
  have hlen := k.row.len
  obtain ⟨A, c, hv, hc⟩ := k.row.shape
  rw [hv] at hp
  unfold maxLen at hlen
  obtain ⟨rfl, hi, hb, ho, rfl⟩ := look_some h
  obtain ⟨b0, x', y, hb0, hx', hy, -, -, kx, ky⟩ := k.at_ hi
  rw [hb] at hb0
  injection hb0 with hb0
  subst hb0
  rw [hx] at hx'
  injection hx' with hx'
  subst hx'
  have hr := k.row
  rw [hv] at hr
  obtain ⟨gk, off, c', hv', -, -, hgl, hxx, -⟩ := hr.at_ (by omega)
  simp only [Value.slice.injEq] at hv'
  obtain ⟨rfl, -, rfl⟩ := hv'
  have r1 : w.cell? ⟨gk, off + i, none⟩ = some (.pointer (some ⟨x, 0, none⟩)) := hxx i _ (by simp [hx, ptr])
  have x0 : w.cell? ⟨x, 0, none⟩ = some (.int .u64 b.gen) := kx.cell 0
  have x1 : w.cell? ⟨x, 1, none⟩ = some (.int .i64 b.own) := kx.cell 1
  have xl := kx.lt
  have d1 : decide ((i : Int) < 0) = false := decide_eq_false (by omega)
  have d2 : decide ((bs.length : Int) ≤ i) = false := decide_eq_false (by omega)
  have d2' : decide (bs.length ≤ i) = false := decide_eq_false (by omega)
  have hi2 : (i : Int) < bs.length := by omega
  have d3 : (b.own == 0) = false := beq_eq_false_iff_ne.2 ho
  have W1 := fun n => Lib.hid (IsP.drewN (k.alloc (.cells #[.int .i64 i, .int .u64 b.gen] 40)) n)
  have W2 := fun n => Lib.hid (Below.drewN' ((Below.refl w.heap.size w).alloc (Nat.le_refl _) (.cells #[.int .i64 i, .int .u64 b.gen] 40)) n)
  have HH := fun n => Lib.hid (H _ (W1 n).out (W2 n).out)
  clear k h hv kx ky hr hxx hb hx hy H W1 W2
  go_enter Try.func34, Try.ntmps34
  go_wp2_with fail
  go_quiet (fail)
  go_wp2_with fail
  go_region_with (go_at_call 36; (with_reducible refine Calls.mono (HH _).out ?_); rintro e w' ⟨c, rfl, hq⟩)
  all_goals
    first
      | exact hq
      | (go_ret
         exact hq)
      | (go_wp2_with fail
         first
           | exact hq
           | (go_ret
              exact hq))
end
end Go.Proofs.Ytajcjepolfmhmaa
