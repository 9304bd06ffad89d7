/- Layer 23 (lock): Prio, Held, Know, Take, Back, Gone. -/
import Derived.Test.YthmcgbjkbcogkaaLockC
namespace Go.Proofs.Ythmcgbjkbcogkaa
open Go.RowKit
open Go.Maps (Keyed)
set_option linter.unusedVariables false
set_option linter.unusedSimpArgs false
/-- A member's urgency. -/
def prioL (cs : List Int) (p : Int) (l : List Int) : Int := l.foldl (fun p l => min p (cs.getD l.toNat 0)) p
theorem prioL_take (cs : List Int) (p : Int) (l : List Int) (i : Nat) (x : Int) (h : l[i]? = some x) : prioL cs p (l.take (i + 1)) = min (prioL cs p (l.take i)) (cs.getD x.toNat 0) := by
  unfold prioL
  rw [List.take_add_one, h, Option.toList_some, List.foldl_append]
  rfl
def prioM (cs : List Int) : Option Mm → Int × Int
  | none => (0, 6)
  | some m => (prioL cs m.prio m.held, 0)
section
variable {w : World} {K : Kp} {cs : List Int} {ms : Int → Option Mm}
theorem IsK.lvShape (k : IsK w K cs ms) : ∃ g off c, K.lv = .slice (some ⟨g, off, none⟩) cs.length c ∧ g < w.heap.size ∧ (∀ j x, cs[j]? = some x → w.cell? ⟨g, off + j, none⟩ = some (.int .i64 x)) := by
  obtain ⟨g, off, c, e, -, -, hl, hc, -⟩ := k.row.at_ k.cn
  exact ⟨g, off, c, e, hl, fun j x hx => hc j _ (ints_at hx)⟩
theorem IsK.key (k : IsK w K cs ms) {i : Int} (h : 0 ≤ i ∧ i ≤ 63) : okKey i := by unfold okKey; omega
set_option maxHeartbeats 2000000 in
theorem prio_any (k : IsK w K cs ms) (i : Int) (hi : 0 ≤ i ∧ i ≤ 63) :
    Calls Try.prog 13 #[.pointer (some ⟨K.k, 0, none⟩), .int .i64 i] w fun e w' => e = .returned (.tuple #[.int .i64 (prioM cs (ms i)).1, .int .i64 (prioM cs (ms i)).2]) ∧ w = w' := by
  have c0 : w.cell? ⟨K.k, 0, none⟩ = some K.lv := k.blk.cell 0
  have c1 : w.cell? ⟨K.k, 1, none⟩ = some (.map (some K.mb)) := k.blk.cell 1
  have hkl := k.blk.lt
  have MP := Lib.hid k.map
  have OKI := Lib.hid (k.key hi)
  have K0 := Lib.hid k
  have nn := k.nn
  have cl := k.cl
  obtain ⟨gl, offl, cL, elv, hll, hlc⟩ := k.lvShape
  rw [elv] at c0
  have HLC := Lib.hid hlc
  cases e : ms i with
  | none =>
    have hf := k.un e
    have LK := Lib.hid hf
    clear k e hf hlc elv
    go_enter Try.func13, Try.ntmps13
    go_wp2_with (first
      | (at_lookup; refine wpList_look_ref _ rfl _ _ rfl K.mb K.N K.f rfl MP.out i rfl OKI.out ?_; rw [LK.out]; simp only [ptrO, Option.isSome_none]))
    go_ret2
    exact ⟨rfl, rfl⟩
  | some m =>
    obtain ⟨x, hf, kb, sb⟩ := k.kn e
    have LK := Lib.hid hf
    have hln := k.len i m e
    have INR := Lib.hid (k.inr i m · e)
    obtain ⟨A, ca, ev, -⟩ := sb.shape
    have x0 : w.cell? ⟨x, 0, none⟩ = some (.int .i64 m.prio) := kb.cell 0
    have x1 : w.cell? ⟨x, 1, none⟩ = some (K.hv i) := kb.cell 1
    rw [ev] at x1 sb
    have hxl := kb.lt
    have SB := Lib.hid sb
    obtain ⟨hl, hhl⟩ : ∃ hl, m.held.length = hl := ⟨_, rfl⟩
    have HHL := Lib.hid hhl
    rw [hhl] at x1 hln
    clear k e hf hlc elv kb sb ev hhl
    unfold prioM
    simp only
    go_enter Try.func13, Try.ntmps13
    go_wp2_with (first
      | (at_lookup; refine wpList_look_ref _ rfl _ _ rfl K.mb K.N K.f rfl MP.out i rfl OKI.out ?_; rw [LK.out]; simp only [ptrO, Option.isSome_some]; unfold ptr))
    go_loop [8, 31] (fun pv iv => ∃ j : Nat, iv = .int .i64 j ∧ j ≤ hl ∧ pv = .int .i64 (prioL cs m.prio (m.held.take j))) (fun _ iv => (hl - intOf iv).toNat)
    case atStart => exact ⟨0, rfl, by omega, rfl⟩
    case round =>
      obtain ⟨j, rfl, hj, rfl⟩ := hrel
      by_cases hjn : j < hl
      · have hj2 : (j : Int) < hl := by omega
        obtain ⟨g, off, c', hv, -, -, hlt, hcell, -⟩ := SB.out.at_ (by have := HHL.out; omega)
        simp only [Value.slice.injEq] at hv
        obtain ⟨hv1, -, -⟩ := hv
        subst hv1
        obtain ⟨l, hl9⟩ : ∃ l, m.held[j]? = some l := ⟨_, List.getElem?_eq_getElem (by have := HHL.out; omega)⟩
        have y0 := hcell j _ (ints_at hl9)
        obtain ⟨r1, r2⟩ := INR.out l (List.mem_of_getElem? hl9)
        obtain ⟨n, rfl⟩ : ∃ n : Nat, l = n := ⟨l.toNat, by omega⟩
        have hn : n < cs.length := by omega
        have hn2 : (n : Int) < cs.length := by omega
        have z0 := HLC.out n cs[n] (List.getElem?_eq_getElem hn)
        have PT := Lib.hid (prioL_take cs m.prio m.held j n hl9)
        have EG : Hid (cs.getD (n : Int).toNat 0 = cs[n]) := by show List.getD _ _ _ = _; simp [List.getD, hn]
        generalize cs[n] = c9 at z0 EG
        generalize prioL cs m.prio (m.held.take j) = p0 at *
        clear hcell hl9 r1 r2 hn
        go_wp2_with fail
        go_round
        case rel => exact ⟨j + 1, by go_num, by omega, by rw [PT.out, EG.out]; congr 1; split <;> omega⟩
        case measure => simp [intOf]; omega
      · obtain rfl : j = hl := by omega
        have hj2 : ¬ (j : Int) < j := by omega
        have e : prioL cs m.prio (m.held.take j) = prioL cs m.prio m.held := by rw [List.take_of_length_le (by have := HHL.out; omega)]
        have E1 := Lib.hid e
        clear e
        generalize prioL cs m.prio (m.held.take j) = p0 at *
        go_wp2_with fail
        go_ret2
        exact ⟨ret2 E1.out rfl, rfl⟩
def heldM : Option Mm → List Int
  | none => []
  | some m => m.held
set_option maxHeartbeats 2000000 in
theorem held_any (k : IsK w K cs ms) (i : Int) (hi : 0 ≤ i ∧ i ≤ 63) :
    Calls Try.prog 10 #[.pointer (some ⟨K.k, 0, none⟩), .int .i64 i] w fun e w' => ∃ A c, e = .returned (.slice A (heldM (ms i)).length c) ∧ Slc w' 3 1 (.slice A (heldM (ms i)).length c) (heldM (ms i)).length (ints (heldM (ms i))) ∧ Below w.heap.size w w' ∧ ∀ g, (Value.slice A (heldM (ms i)).length c).ownBlock = some g → w.heap.size ≤ g := by
  have c1 : w.cell? ⟨K.k, 1, none⟩ = some (.map (some K.mb)) := k.blk.cell 1
  have hkl := k.blk.lt
  have MP := Lib.hid k.map
  have OKI := Lib.hid (k.key hi)
  have nn := k.nn
  cases e : ms i with
  | none =>
    have hf := k.un e
    have LK := Lib.hid hf
    clear k e hf
    go_enter Try.func10, Try.ntmps10
    go_wp2_with (first
      | (at_lookup; refine wpList_look_ref _ rfl _ _ rfl K.mb K.N K.f rfl MP.out i rfl OKI.out ?_; rw [LK.out]; simp only [ptrO, Option.isSome_none]))
    go_ret
    exact ⟨none, 0, rfl, Slc.nil _ _ _, Below.refl _ _, fun g hg => by simp [Value.ownBlock] at hg⟩
  | some m =>
    obtain ⟨x, hf, kb, sb⟩ := k.kn e
    have LK := Lib.hid hf
    have hln := k.len i m e
    obtain ⟨A, ca, ev, -⟩ := sb.shape
    have x1 : w.cell? ⟨x, 1, none⟩ = some (K.hv i) := kb.cell 1
    have hxl := kb.lt
    have CL := Lib.hid (cloneI_any w (K.hv i) m.held m.held.length sb (by omega))
    rw [ev] at x1 CL
    clear k e hf kb sb ev
    unfold heldM
    simp only
    go_enter Try.func10, Try.ntmps10
    go_wp2_with (first
      | (at_lookup; refine wpList_look_ref _ rfl _ _ rfl K.mb K.N K.f rfl MP.out i rfl OKI.out ?_; rw [LK.out]; simp only [ptrO, Option.isSome_some]; unfold ptr)
      | (go_at_call 22; (with_reducible refine Calls.mono CL.out ?_); rintro e w' ⟨A2, c2, rfl, s2, b2, o2⟩; have S2 := Lib.hid s2; have B2 := Lib.hid b2; have O2 := Lib.hid o2; clear s2 b2 o2))
    go_ret
    exact ⟨A2, c2, rfl, S2.out, B2.out, O2.out⟩
def KnowPost (w : World) (K : Kp) (cs : List Int) (ms : Int → Option Mm) (i p : Int) (e : Ending) (w' : World) : Prop :=
  ∃ K' ms', Step w w' K K' cs ms' ∧ ((heldM (ms i) = [] ∧ e = .returned (.int .i64 0) ∧ ms' = upd ms i ⟨p, []⟩) ∨ (heldM (ms i) ≠ [] ∧ e = .returned (.int .i64 10) ∧ ms' = ms))
set_option maxHeartbeats 2000000 in
theorem know_any (k : IsK w K cs ms) (i p : Int) (hi : 0 ≤ i ∧ i ≤ 63) (hp : 0 ≤ p ∧ p ≤ 100) (hN : K.N + 1 ≤ 1000) :
    Calls Try.prog 11 #[.pointer (some ⟨K.k, 0, none⟩), .int .i64 i, .int .i64 p] w (KnowPost w K cs ms i p) := by
  have c1 : w.cell? ⟨K.k, 1, none⟩ = some (.map (some K.mb)) := k.blk.cell 1
  have hkl := k.blk.lt
  have MP := Lib.hid k.map
  have OKI := Lib.hid (k.key hi)
  have nn := k.nn
  have K0 := Lib.hid k
  have HI := Lib.hid hi
  obtain ⟨hi1, hi2⟩ := hi
  have d1 : decide (i < 0) = false := decide_eq_false (by omega)
  have d2 : decide (63 < i) = false := decide_eq_false (by omega)
  have hm : mayP p = true := decide_eq_true hp
  have PR := fun W => Lib.hid (hm ▸ mayPrio_any p W)
  cases e : ms i with
  | none =>
    have hf := k.un e
    have LK := Lib.hid hf
    have E0 := Lib.hid e
    clear k e hf hm hp
    go_enter Try.func11, Try.ntmps11
    go_wp2_with (first
      | (go_at_call 23; (with_reducible refine Calls.mono (PR _).out ?_); rintro e w' ⟨rfl, rfl⟩)
      | (at_lookup; refine wpList_look_ref _ rfl _ _ rfl K.mb K.N K.f rfl MP.out i rfl OKI.out ?_; rw [LK.out]; simp only [ptrO, Option.isSome_none])
      | (at_mapUpdate; refine wpList_put_ref _ rfl _ _ _ rfl K.mb K.N K.f rfl (MP.out.keep (Below.heap_alloc _ _ _ MP.out.lt)) (by omega) i rfl OKI.out w.heap.size rfl ?_; intro w1 m1 o1; have M1 := Lib.hid m1; have O1 := Lib.hid o1; clear m1 o1))
    go_ret
    have kx := (Blk.new w 58 [.int .i64 p, .slice none 0 0]).only O1.out (by have := MP.out.lt; omega)
    have ka := K0.out.alloc (.cells #[.int .i64 p, .slice none 0 0] 58)
    have ob : Below w.heap.size w (w.alloc (.cells #[.int .i64 p, .slice none 0 0] 58)) := (Below.refl _ _).alloc (Nat.le_refl _) _
    have ow : Only (fun g => g = K.mb) w w1 := (Only.of_below ob).trans O1.out (fun _ _ h => h)
    exact ⟨_, _, K0.out.know HI.out (Nat.le_refl _) ow M1.out kx hN, .inl ⟨by rw [E0.out]; rfl, rfl, rfl⟩⟩
  | some m =>
    obtain ⟨x, hf, kb, sb⟩ := k.kn e
    have LK := Lib.hid hf
    have E0 := Lib.hid e
    have hln := k.len i m e
    obtain ⟨A, ca, ev, -⟩ := sb.shape
    have x1 : w.cell? ⟨x, 1, none⟩ = some (K.hv i) := kb.cell 1
    have hxl := kb.lt
    rw [ev] at x1
    obtain ⟨hl, hhl⟩ : ∃ hl, m.held.length = hl := ⟨_, rfl⟩
    have HHL := Lib.hid hhl
    rw [hhl] at x1
    clear k e hf hm hp kb sb ev hhl
    by_cases h0 : hl = 0
    · subst h0
      go_enter Try.func11, Try.ntmps11
      go_wp2_with (first
        | (go_at_call 23; (with_reducible refine Calls.mono (PR _).out ?_); rintro e w' ⟨rfl, rfl⟩)
        | (at_lookup; refine wpList_look_ref _ rfl _ _ rfl K.mb K.N K.f rfl MP.out i rfl OKI.out ?_; rw [LK.out]; simp only [ptrO, Option.isSome_some]; unfold ptr)
        | (at_mapUpdate; refine wpList_put_ref _ rfl _ _ _ rfl K.mb K.N K.f rfl (MP.out.keep (Below.heap_alloc _ _ _ MP.out.lt)) (by omega) i rfl OKI.out w.heap.size rfl ?_; intro w1 m1 o1; have M1 := Lib.hid m1; have O1 := Lib.hid o1; clear m1 o1))
      go_ret
      have kx := (Blk.new w 58 [.int .i64 p, .slice none 0 0]).only O1.out (by have := MP.out.lt; omega)
      have ob : Below w.heap.size w (w.alloc (.cells #[.int .i64 p, .slice none 0 0] 58)) := (Below.refl _ _).alloc (Nat.le_refl _) _
      have ow : Only (fun g => g = K.mb) w w1 := (Only.of_below ob).trans O1.out (fun _ _ h => h)
      exact ⟨_, _, K0.out.know HI.out (Nat.le_refl _) ow M1.out kx hN, .inl ⟨by rw [E0.out]; exact List.eq_nil_of_length_eq_zero HHL.out, rfl, rfl⟩⟩
    · have d3 : decide (0 < hl) = true := decide_eq_true (by omega)
      have d4 : decide (0 < (hl : Int)) = true := decide_eq_true (by omega)
      go_enter Try.func11, Try.ntmps11
      go_wp2_with (first
        | (go_at_call 23; (with_reducible refine Calls.mono (PR _).out ?_); rintro e w' ⟨rfl, rfl⟩)
        | (at_lookup; refine wpList_look_ref _ rfl _ _ rfl K.mb K.N K.f rfl MP.out i rfl OKI.out ?_; rw [LK.out]; simp only [ptrO, Option.isSome_some]; unfold ptr))
      go_ret
      exact ⟨K, ms, Step.same K0.out (Below.refl _ _), .inr ⟨by rw [E0.out]; intro h; have h2 : m.held.length = 0 := (by rw [show m.held = [] from h]; rfl); have := HHL.out; omega, rfl, rfl⟩⟩
/-- 'with': a lock that is none. -/
theorem with_arg (k : IsK w K cs ms) (i l : Int) (h : l < 0 ∨ (cs.length : Int) ≤ l) (fn : Fn) (first cap : Array Value) :
    Calls Try.prog 24 #[.pointer (some ⟨K.k, 0, none⟩), .int .i64 i, .int .i64 l, .func fn first cap] w fun e w' => e = .returned (.int .i64 1) ∧ w = w' := by
  have c0 : w.cell? ⟨K.k, 0, none⟩ = some K.lv := k.blk.cell 0
  have hkl := k.blk.lt
  obtain ⟨gl, offl, cL, elv, hll, hlc⟩ := k.lvShape
  rw [elv] at c0
  rcases h with h | h
  · have d1 : decide (l < 0) = true := decide_eq_true h
    clear k hlc elv
    go_enter Try.func24, Try.ntmps24
    go_wp2_with fail
    go_ret
    exact ⟨rfl, rfl⟩
  · have d1 : decide (l < 0) = false := decide_eq_false (by omega)
    have d2 : decide ((cs.length : Int) ≤ l) = true := decide_eq_true h
    clear k hlc elv
    go_enter Try.func24, Try.ntmps24
    go_wp2_with fail
    go_ret
    exact ⟨rfl, rfl⟩
/-- 'with': a member that isn't known. -/
theorem with_nf (k : IsK w K cs ms) (i l : Int) (hi : 0 ≤ i ∧ i ≤ 63) (h : 0 ≤ l ∧ l < cs.length) (hm : ms i = none) (fn : Fn) (first cap : Array Value) :
    Calls Try.prog 24 #[.pointer (some ⟨K.k, 0, none⟩), .int .i64 i, .int .i64 l, .func fn first cap] w fun e w' => e = .returned (.int .i64 6) ∧ w = w' := by
  have c0 : w.cell? ⟨K.k, 0, none⟩ = some K.lv := k.blk.cell 0
  have c1 : w.cell? ⟨K.k, 1, none⟩ = some (.map (some K.mb)) := k.blk.cell 1
  have hkl := k.blk.lt
  obtain ⟨gl, offl, cL, elv, hll, hlc⟩ := k.lvShape
  rw [elv] at c0
  have MP := Lib.hid k.map
  have OKI := Lib.hid (k.key hi)
  have LK := Lib.hid (k.un hm)
  have d1 : decide (l < 0) = false := decide_eq_false (by omega)
  have d2 : decide ((cs.length : Int) ≤ l) = false := decide_eq_false (by omega)
  clear k hlc elv hm
  go_enter Try.func24, Try.ntmps24
  go_wp2_with (first
    | (at_lookup; refine wpList_look_ref _ rfl _ _ rfl K.mb K.N K.f rfl MP.out i rfl OKI.out ?_; rw [LK.out]; simp only [ptrO, Option.isSome_none]))
  go_ret
  exact ⟨rfl, rfl⟩
theorem with_Take (k : IsK w K cs ms) (i l : Int) (hi : 0 ≤ i ∧ i ≤ 63) (h : 0 ≤ l ∧ l < cs.length) {x : Nat} (hx : K.f i = some x) (cap : Array Value) {Q : Ending → World → Prop}
    (H : Calls Try.prog 25 (#[.pointer (some ⟨x, 0, none⟩)] ++ cap) w fun e w' => ∃ c, e = .returned (.int .i64 c) ∧ Q e w') :
    Calls Try.prog 24 #[.pointer (some ⟨K.k, 0, none⟩), .int .i64 i, .int .i64 l, .func (.func 25) #[] cap] w Q := by
  have c0 : w.cell? ⟨K.k, 0, none⟩ = some K.lv := k.blk.cell 0
  have c1 : w.cell? ⟨K.k, 1, none⟩ = some (.map (some K.mb)) := k.blk.cell 1
  have hkl := k.blk.lt
  obtain ⟨gl, offl, cL, elv, hll, hlc⟩ := k.lvShape
  rw [elv] at c0
  have MP := Lib.hid k.map
  have OKI := Lib.hid (k.key hi)
  have LK := Lib.hid hx
  have d1 : decide (l < 0) = false := decide_eq_false (by omega)
  have d2 : decide ((cs.length : Int) ≤ l) = false := decide_eq_false (by omega)
  have HH := Lib.hid H
  clear k hlc elv hx H
  go_enter Try.func24, Try.ntmps24
  go_wp2_with (first
    | (at_lookup; refine wpList_look_ref _ rfl _ _ rfl K.mb K.N K.f rfl MP.out i rfl OKI.out ?_; rw [LK.out]; simp only [ptrO, Option.isSome_some]; unfold ptr)
    | (go_at_call 25; (with_reducible refine Calls.mono HH.out ?_); rintro e w' ⟨c, rfl, hq⟩))
  exact hq
theorem with_Back (k : IsK w K cs ms) (i l : Int) (hi : 0 ≤ i ∧ i ≤ 63) (h : 0 ≤ l ∧ l < cs.length) {x : Nat} (hx : K.f i = some x) (cap : Array Value) {Q : Ending → World → Prop}
    (H : Calls Try.prog 26 (#[.pointer (some ⟨x, 0, none⟩)] ++ cap) w fun e w' => ∃ c, e = .returned (.int .i64 c) ∧ Q e w') :
    Calls Try.prog 24 #[.pointer (some ⟨K.k, 0, none⟩), .int .i64 i, .int .i64 l, .func (.func 26) #[] cap] w Q := by
  have c0 : w.cell? ⟨K.k, 0, none⟩ = some K.lv := k.blk.cell 0
  have c1 : w.cell? ⟨K.k, 1, none⟩ = some (.map (some K.mb)) := k.blk.cell 1
  have hkl := k.blk.lt
  obtain ⟨gl, offl, cL, elv, hll, hlc⟩ := k.lvShape
  rw [elv] at c0
  have MP := Lib.hid k.map
  have OKI := Lib.hid (k.key hi)
  have LK := Lib.hid hx
  have d1 : decide (l < 0) = false := decide_eq_false (by omega)
  have d2 : decide ((cs.length : Int) ≤ l) = false := decide_eq_false (by omega)
  have HH := Lib.hid H
  clear k hlc elv hx H
  go_enter Try.func24, Try.ntmps24
  go_wp2_with (first
    | (at_lookup; refine wpList_look_ref _ rfl _ _ rfl K.mb K.N K.f rfl MP.out i rfl OKI.out ?_; rw [LK.out]; simp only [ptrO, Option.isSome_some]; unfold ptr)
    | (go_at_call 26; (with_reducible refine Calls.mono HH.out ?_); rintro e w' ⟨c, rfl, hq⟩))
  exact hq
end
end Go.Proofs.Ythmcgbjkbcogkaa
