/- Layer 6 (bus) in memory: a bus is a block, its masters' row, its meters' row, the meters; whether one may have a slot. -/
import Derived.Test.YtbfhohcimomphaaShareB
import Derived.Test.YtbfhohcimomphaaSlc
import Derived.Deep.QuietTactic
import Derived.BigQuiet
import Derived.BigRegion
import Derived.Deep.RegionWith
namespace Go.Proofs.Ytbfhohcimomphaa
open Go.RowKit
set_option linter.unusedVariables false
set_option linter.unusedSimpArgs false
/-- A master: how urgent, its burst, its share's budget and period. -/
structure Mp where
  q : Int
  u : Int
  b : Int
  p : Int
structure Mp.ok (m : Mp) : Prop where
  q0 : 0 ≤ m.q
  q1 : m.q ≤ 100
  u0 : 0 ≤ m.u
  u1 : m.u ≤ 1000
  may : mayM m.b m.p = true
def mpCells (m : Mp) : List Value := [.int .i64 m.q, .int .i64 m.u, .int .u64 m.b, .int .u64 m.p]
def flatM (L : List Mp) : List Value := L.flatMap mpCells
/-- A bus: masters, meters, stalls, whether it has begun, the last slot, the phase, who had it, how many in a row. -/
structure Bu where
  L : List Mp
  M : List Ms
  S : List Int
  beg : Bool
  last : Int
  ph : Int
  who : Int
  row : Int
structure Bl where
  p : Nat
  v : Value
  u : Value
  xs : List Nat
def mptr (x : Nat) : Value := .pointer (some ⟨x, 0, none⟩)
def buHead (A : Bl) (S : List Int) : List Value := [A.v, A.u] ++ S.map (Value.int .i64)
def buTail (B : Bu) : List Value := [.bool B.beg, .int .u64 B.last, .int .u64 B.ph, .int .i64 B.who, .int .i64 B.row]
structure IsB (w : World) (A : Bl) (B : Bu) : Prop where
  blk : Blk w A.p 65 (buHead A B.S ++ buTail B)
  ls : B.S.length = 16
  list : Slc w 41 4 A.v B.L.length (flatM B.L)
  row : Slc w 67 1 A.u B.L.length (A.xs.map mptr)
  lm : B.M.length = B.L.length
  lx : A.xs.length = B.L.length
  met : ∀ (i x : Nat) (s : Ms), A.xs[i]? = some x → B.M[i]? = some s → IsM w x s
  nx : A.xs.Nodup
/-- The blocks that a bus's functions turn; all that it has. -/
def Bl.own (A : Bl) (i : Nat) : Prop := i = A.p ∨ i ∈ A.xs
def Bl.all (A : Bl) (i : Nat) : Prop := A.own i ∨ A.v.ownBlock = some i ∨ A.u.ownBlock = some i
theorem flatM_length (L : List Mp) : (flatM L).length = L.length * 4 := by
  induction L with
  | nil => rfl
  | cons a r ih =>
    have e : flatM (a :: r) = mpCells a ++ flatM r := by simp [flatM]
    rw [e, List.length_append, ih]
    simp [mpCells]; omega
theorem flatM_at (L : List Mp) {i j : Nat} {m : Mp} (h : L[i]? = some m) (hj : j < 4) : (flatM L)[i * 4 + j]? = (mpCells m)[j]? := by
  induction L generalizing i with
  | nil => simp at h
  | cons a r ih =>
    have e : flatM (a :: r) = mpCells a ++ flatM r := by simp [flatM]
    rw [e]
    rcases i with _ | i
    · simp at h; subst h
      rw [List.getElem?_append_left (by simp [mpCells]; omega), Nat.zero_mul, Nat.zero_add]
    · rw [List.getElem?_append_right (by simp [mpCells]; omega)]
      have : (i + 1) * 4 + j - (mpCells a).length = i * 4 + j := by simp [mpCells]; omega
      rw [this]
      exact ih (by simpa using h)
theorem buHead_length (A : Bl) {S : List Int} (h : S.length = 16) : (buHead A S).length = 18 := by simp [buHead, h]
theorem bu_tail (A : Bl) {S : List Int} (h : S.length = 16) (t : List Value) (j : Nat) : (buHead A S ++ t)[18 + j]? = t[j]? := by
  rw [List.getElem?_append_right (by rw [buHead_length A h]; omega), buHead_length A h]; congr 1; omega
theorem bu_tail_set (A : Bl) {S : List Int} (h : S.length = 16) (t : List Value) (j : Nat) (x : Value) : (buHead A S ++ t).set (18 + j) x = buHead A S ++ t.set j x := by
  rw [List.set_append_right _ _ (by rw [buHead_length A h]; omega), buHead_length A h]; congr 2; omega
theorem bu_stall (A : Bl) {S : List Int} (h : S.length = 16) (t : List Value) {k : Nat} {x : Int} (hk : S[k]? = some x) : (buHead A S ++ t)[2 + k]? = some (.int .i64 x) := by
  have hl := (List.getElem?_eq_some_iff.1 hk).1
  rw [List.getElem?_append_left (by rw [buHead_length A h]; omega)]
  unfold buHead
  rw [List.getElem?_append_right (by simp), show 2 + k - [A.v, A.u].length = k by simp, List.getElem?_map, hk]; rfl
theorem bu_stall_set (A : Bl) {S : List Int} (h : S.length = 16) (t : List Value) {k : Nat} (hk : k < 16) (x : Int) : (buHead A S ++ t).set (2 + k) (.int .i64 x) = buHead A (S.set k x) ++ t := by
  rw [List.set_append_left _ _ (by rw [buHead_length A h]; omega)]
  unfold buHead
  rw [List.set_append_right _ _ (by simp), show 2 + k - [A.v, A.u].length = k by simp, List.map_set]
theorem nd_ne {l : List Nat} (h : l.Nodup) {i j : Nat} {a b : Nat} (hi : l[i]? = some a) (hj : l[j]? = some b) (hne : i ≠ j) : a ≠ b := by
  intro e
  subst e
  obtain ⟨h1, e1⟩ := List.getElem?_eq_some_iff.1 hi
  obtain ⟨h2, e2⟩ := List.getElem?_eq_some_iff.1 hj
  have hp := List.pairwise_iff_getElem.1 h
  rcases Nat.lt_or_gt_of_ne hne with hlt | hgt
  · exact hp i j h1 h2 hlt (e1.trans e2.symm)
  · exact hp j i h2 h1 hgt (e2.trans e1.symm)
section
variable {w w' : World} {A : Bl} {B : Bu} {F : Nat → Prop}
theorem IsB.at_ (h : IsB w A B) {i : Nat} (hi : i < B.L.length) : ∃ x s m, A.xs[i]? = some x ∧ B.M[i]? = some s ∧ B.L[i]? = some m ∧ x ∈ A.xs ∧ IsM w x s := by
  have h1 : A.xs[i]? = some (A.xs[i]'(by rw [h.lx]; exact hi)) := List.getElem?_eq_getElem _
  have h2 : B.M[i]? = some (B.M[i]'(by rw [h.lm]; exact hi)) := List.getElem?_eq_getElem _
  have h3 : B.L[i]? = some B.L[i] := List.getElem?_eq_getElem hi
  exact ⟨_, _, _, h1, h2, h3, List.mem_of_getElem? h1, h.met i _ _ h1 h2⟩
theorem IsB.only (h : IsB w A B) (o : Only F w w') (hF : ∀ i, F i → ¬ A.all i) : IsB w' A B :=
  ⟨h.blk.only o fun f => hF _ f (.inl (.inl rfl)), h.ls, h.list.only o fun g hg f => hF _ f (.inr (.inl hg)), h.row.only o fun g hg f => hF _ f (.inr (.inr hg)), h.lm, h.lx, fun i x s hx hs => Blk.only (h.met i x s hx hs) o fun f => hF _ f (.inl (.inr (List.mem_of_getElem? hx))), h.nx⟩
theorem IsB.below (h : IsB w A B) (o : Below w.heap.size w w') : IsB w' A B :=
  ⟨h.blk.below o h.blk.lt, h.ls, h.list.below o fun g hg => h.list.lt hg, h.row.below o fun g hg => h.row.lt hg, h.lm, h.lx, fun i x s hx hs => Blk.below (h.met i x s hx hs) o (Blk.lt (h.met i x s hx hs)), h.nx⟩
theorem IsB.drewN (h : IsB w A B) (m : Nat) : IsB (w.drewN m) A B := ⟨h.blk, h.ls, h.list, h.row, h.lm, h.lx, h.met, h.nx⟩
theorem IsB.drew (h : IsB w A B) : IsB w.drew A B := ⟨h.blk, h.ls, h.list, h.row, h.lm, h.lx, h.met, h.nx⟩
theorem IsB.alloc (h : IsB w A B) (o : Obj) : IsB (w.alloc o) A B := h.below ((Below.refl _ _).alloc (Nat.le_refl _) _)
theorem IsB.lt (h : IsB w A B) {i : Nat} (hi : A.all i) : i < w.heap.size := by
  rcases hi with (rfl | hi) | hi | hi
  · exact h.blk.lt
  · obtain ⟨j, hj⟩ := List.mem_iff_getElem?.1 hi
    have hl := (List.getElem?_eq_some_iff.1 hj).1
    exact Blk.lt (h.met j i _ hj (List.getElem?_eq_getElem (by rw [h.lm, ← h.lx]; exact hl)))
  · exact h.list.lt hi
  · exact h.row.lt hi
/-- A meter turned: the others are as they were. -/
theorem IsB.turn (h : IsB w A B) {i x : Nat} {s' : Ms} (hx : A.xs[i]? = some x) (o : Only (· = x) w w') (k : IsM w' x s') : IsB w' A { B with M := B.M.set i s' } := by
  have hi := (List.getElem?_eq_some_iff.1 hx).1
  have hm : i < B.M.length := by rw [h.lm, ← h.lx]; exact hi
  have k0 := h.met i x _ hx (List.getElem?_eq_getElem hm)
  refine ⟨h.blk.only o (fun e => h.blk.ne k0 (by decide) e), h.ls, h.list.only o (fun g hg e => (h.list.ne k0 (by decide)) (e ▸ hg)), h.row.only o (fun g hg e => (h.row.ne k0 (by decide)) (e ▸ hg)), by simp [h.lm], h.lx, fun j y s hy hs => ?_, h.nx⟩
  by_cases e : i = j
  · subst e
    rw [hx] at hy
    injection hy with hy
    rw [List.getElem?_set_self hm] at hs
    injection hs with hs
    subst hy hs
    exact k
  · rw [List.getElem?_set_ne e] at hs
    exact Blk.only (h.met j y s hy hs) o (nd_ne h.nx hy hx (fun e' => e e'.symm))
/-- The bus's own block turned. -/
theorem IsB.store (h : IsB w A B) {B' : Bu} {k : Nat} {x : Value} (hc : (buHead A B.S ++ buTail B).set k x = buHead A B'.S ++ buTail B') (hS : B'.S.length = 16) (hL : B'.L = B.L) (hM : B'.M = B.M) : IsB (w.setCell ⟨A.p, k, none⟩ x) A B' := by
  refine ⟨hc ▸ h.blk.put k x, hS, ?_, ?_, by rw [hL, hM]; exact h.lm, by rw [hL]; exact h.lx, fun i y s hy hs => ?_, h.nx⟩
  · rw [hL]; exact h.list.far (h.list.ne h.blk (by decide)) _
  · rw [hL]; exact h.row.far (h.row.ne h.blk (by decide)) _
  · rw [hM] at hs
    exact Blk.far (h.met i y s hy hs) (Blk.ne (h.met i y s hy hs) h.blk (by decide)) _
theorem IsB.setBeg (h : IsB w A B) (x : Bool) : IsB (w.setCell ⟨A.p, 18, none⟩ (.bool x)) A { B with beg := x } := h.store (bu_tail_set A h.ls _ 0 _) h.ls rfl rfl
theorem IsB.setLast (h : IsB w A B) (x : Int) : IsB (w.setCell ⟨A.p, 19, none⟩ (.int .u64 x)) A { B with last := x } := h.store (bu_tail_set A h.ls _ 1 _) h.ls rfl rfl
theorem IsB.setWho (h : IsB w A B) (x : Int) : IsB (w.setCell ⟨A.p, 21, none⟩ (.int .i64 x)) A { B with who := x } := h.store (bu_tail_set A h.ls _ 3 _) h.ls rfl rfl
theorem IsB.setRow (h : IsB w A B) (x : Int) : IsB (w.setCell ⟨A.p, 22, none⟩ (.int .i64 x)) A { B with row := x } := h.store (bu_tail_set A h.ls _ 4 _) h.ls rfl rfl
theorem IsB.setStall (h : IsB w A B) {k : Nat} (hk : k < 16) (x : Int) : IsB (w.setCell ⟨A.p, 2 + k, none⟩ (.int .i64 x)) A { B with S := B.S.set k x } := h.store (bu_stall_set A h.ls _ hk x) (by simpa using h.ls) rfl rfl
theorem IsB.cells (h : IsB w A B) : w.cell? ⟨A.p, 0, none⟩ = some A.v ∧ w.cell? ⟨A.p, 1, none⟩ = some A.u ∧ w.cell? ⟨A.p, 18, none⟩ = some (.bool B.beg) ∧ w.cell? ⟨A.p, 19, none⟩ = some (.int .u64 B.last) ∧ w.cell? ⟨A.p, 20, none⟩ = some (.int .u64 B.ph) ∧ w.cell? ⟨A.p, 21, none⟩ = some (.int .i64 B.who) ∧ w.cell? ⟨A.p, 22, none⟩ = some (.int .i64 B.row) :=
  ⟨h.blk.cell 0, h.blk.cell 1, (h.blk.cell 18).trans (bu_tail A h.ls _ 0), (h.blk.cell 19).trans (bu_tail A h.ls _ 1), (h.blk.cell 20).trans (bu_tail A h.ls _ 2), (h.blk.cell 21).trans (bu_tail A h.ls _ 3), (h.blk.cell 22).trans (bu_tail A h.ls _ 4)⟩
theorem IsB.stall (h : IsB w A B) {k : Nat} {x : Int} (hk : B.S[k]? = some x) : w.cell? ⟨A.p, 2 + k, none⟩ = some (.int .i64 x) := (h.blk.cell _).trans (bu_stall A h.ls _ hk)
/-- Where a master lies. -/
theorem IsB.master (h : IsB w A B) {i : Nat} {m : Mp} (hm : B.L[i]? = some m) : ∃ g off c, A.v = .slice (some ⟨g, off, none⟩) B.L.length c ∧ w.cell? ⟨g, off + i * 4, none⟩ = some (.int .i64 m.q) ∧ w.cell? ⟨g, off + i * 4 + 1, none⟩ = some (.int .i64 m.u) ∧ w.cell? ⟨g, off + i * 4 + 2, none⟩ = some (.int .u64 m.b) ∧ w.cell? ⟨g, off + i * 4 + 3, none⟩ = some (.int .u64 m.p) ∧ g < w.heap.size := by
  have hi := (List.getElem?_eq_some_iff.1 hm).1
  obtain ⟨g, off, c, e, hc, hm', hlt, hx, -⟩ := h.list.at_ (by omega)
  exact ⟨g, off, c, e, hx (i * 4) _ (flatM_at B.L hm (show 0 < 4 by omega)), hx (i * 4 + 1) _ (flatM_at B.L hm (show 1 < 4 by omega)), hx (i * 4 + 2) _ (flatM_at B.L hm (show 2 < 4 by omega)), hx (i * 4 + 3) _ (flatM_at B.L hm (show 3 < 4 by omega)), hlt⟩
theorem IsB.meter (h : IsB w A B) {i x : Nat} (hx : A.xs[i]? = some x) : ∃ g off c, A.u = .slice (some ⟨g, off, none⟩) B.L.length c ∧ w.cell? ⟨g, off + i, none⟩ = some (.pointer (some ⟨x, 0, none⟩)) ∧ g < w.heap.size := by
  have hi := (List.getElem?_eq_some_iff.1 hx).1
  obtain ⟨g, off, c, e, hc, hm', hlt, hy, -⟩ := h.row.at_ (by rw [← h.lx]; omega)
  exact ⟨g, off, c, e, hy i _ (by rw [List.getElem?_map, hx]; rfl), hlt⟩
end
/-- May one have the slot at T, wants aside; and its meter then. -/
def mayB (T : Int) (who row : Int) (i : Nat) (m : Mp) (s : Ms) : Bool × Ms :=
  if 0 < m.u ∧ who = i ∧ m.u ≤ row then (false, s) else (decide ((leftM T s).1.2 = 0) && decide (0 < (leftM T s).1.1), (leftM T s).2)
theorem leftM_bd {s : Ms} (ok : s.ok) (T : Int) : 0 ≤ (leftM T s).1.1 ∧ (leftM T s).1.1 ≤ 1099511627776 := by
  unfold leftM
  have := onM_ok ok T
  have h1 := this.k0
  have h2 := this.k1
  have h3 := this.b1
  have h4 := this.p1
  split
  · exact ⟨by simp, by simp⟩
  · simp only; omega
set_option maxHeartbeats 2000000 in
theorem mayb_any {w : World} {A : Bl} {B : Bu} (k : IsB w A B) {i x : Nat} {s : Ms} {m : Mp} (hx : A.xs[i]? = some x) (hs : B.M[i]? = some s) (hm : B.L[i]? = some m) (ok : s.ok) (T : Int) (h0 : 0 ≤ T) (h1 : T ≤ 18446744073709551615) (hn : B.L.length ≤ 16) :
    Calls Try.prog 26 #[.pointer (some ⟨A.p, 0, none⟩), .int .u64 T, .int .i64 i] w fun e w' => e = .returned (.bool (mayB T B.who B.row i m s).1) ∧ IsB w' A { B with M := B.M.set i (mayB T B.who B.row i m s).2 } ∧ Only A.own w w' := by
  obtain ⟨c0, c1, c18, c19, c20, c21, c22⟩ := k.cells
  obtain ⟨g, off, c, ev, a0, a1, a2, a3, hg⟩ := k.master hm
  obtain ⟨g', off', c', eu, b0, hg'⟩ := k.meter hx
  have hi := (List.getElem?_eq_some_iff.1 hm).1
  have hi2 : (i : Int) < B.L.length := by omega
  have kx := k.met i x s hx hs
  have hpl := k.blk.lt
  rw [ev] at c0
  rw [eu] at c1
  have K := Lib.hid k
  have e0 : B.M.set i s = B.M := by
    obtain ⟨e1, e2⟩ := List.getElem?_eq_some_iff.1 hs
    rw [← e2]; exact List.set_getElem_self e1
  have E0 := Lib.hid e0
  have HX := Lib.hid hx
  have MEM := Lib.hid (List.mem_of_getElem? hx)
  unfold mayB
  by_cases hb : 0 < m.u ∧ B.who = i ∧ m.u ≤ B.row
  · rw [if_pos hb]
    obtain ⟨q1, q2, q3⟩ := hb
    have d1 : decide (0 < m.u) = true := decide_eq_true q1
    have d2 : (B.who == (i : Int)) = true := beq_iff_eq.2 q2
    have d3 : decide (m.u ≤ B.row) = true := decide_eq_true q3
    clear k kx hx hs hm ev eu e0 q2
    go_enter Try.func26, Try.ntmps26
    go_wp2_with fail
    go_quiet (fail)
    go_wp2_with fail
    go_ret
    refine ⟨rfl, ?_, (Only.of_below ((Below.refl w.heap.size w).alloc (Nat.le_refl _) _)).drewN _⟩
    rw [E0.out]
    exact (K.out.alloc _).drewN _
  · rw [if_neg hb]
    have L := fun W (kk : IsM W x s) => Lib.hid (leftm_any kk ok T h0 h1)
    have bd := leftM_bd ok T
    generalize (leftM T s).1.1 = y at *
    generalize (leftM T s).1.2 = cc at *
    generalize (leftM T s).2 = s2 at *
    obtain ⟨y0, y1⟩ := bd
    have KX : ∀ o n, Hid (IsM ((w.alloc o).drewN n) x s) := fun o n => Blk.drewN (Blk.alloc kx o) n
    have fin : (decide (0 < m.u) = false) ∨ (decide (0 < m.u) = true ∧ (B.who == (i : Int)) = false) ∨ (decide (0 < m.u) = true ∧ (B.who == (i : Int)) = true ∧ decide (m.u ≤ B.row) = false) := by
      simp; omega
    have ec : (cc == 0) = decide (cc = 0) := by rw [Bool.eq_iff_iff]; simp
    have EC := Lib.hid ec
    clear k kx hx hs hm ev eu e0 hb ec
    generalize hcd : decide (cc = 0) = cd at *
    generalize hyd : decide (0 < y) = yd at *
    clear hcd
    rcases fin with d1 | ⟨d1, d2⟩ | ⟨d1, d2, d3⟩
    all_goals
      cases cd
      all_goals
        have ec := EC.out
        go_enter Try.func26, Try.ntmps26
        go_wp2_with fail
        go_quiet (fail)
        go_wp2_with (go_at_call 35; (with_reducible refine Calls.mono (L _ (KX _ _).out).out ?_); rintro e w2 ⟨rfl, k2, o2⟩; have K2 := Lib.hid k2; have O2 := Lib.hid o2; clear k2 o2)
        go_ret
        refine ⟨retb (by simp), ((K.out.alloc _).drewN _).turn HX.out O2.out K2.out, ?_⟩
        exact (((Only.of_below (F := A.own) ((Below.refl w.heap.size w).alloc (Nat.le_refl _) _)).drewN _).trans O2.out (fun j _ e => .inr (e ▸ MEM.out)))
/-- What one's want comes to at T: whether it may, and the meters. -/
def isB (T : Int) (want : Nat → Bool) (B : Bu) (M : List Ms) (i : Nat) : Bool × List Ms :=
  match B.L[i]?, M[i]? with
  | some m, some s => if want i = true then ((mayB T B.who B.row i m s).1, M.set i (mayB T B.who B.row i m s).2) else (false, M)
  | _, _ => (false, M)
theorem leftM_t {s : Ms} (T : Int) : True := trivial
theorem mayB_ok {s : Ms} (ok : s.ok) (T who row : Int) (i : Nat) (m : Mp) : (mayB T who row i m s).2.ok := by
  unfold mayB; split
  · exact ok
  · exact leftM_ok ok T
theorem isB_some {T : Int} {want : Nat → Bool} {B : Bu} {M : List Ms} {i : Nat} {m : Mp} {s : Ms} (hm : B.L[i]? = some m) (hs : M[i]? = some s) :
    isB T want B M i = if want i = true then ((mayB T B.who B.row i m s).1, M.set i (mayB T B.who B.row i m s).2) else (false, M) := by unfold isB; rw [hm, hs]
theorem isB_len (T : Int) (want : Nat → Bool) (B : Bu) (M : List Ms) (i : Nat) : (isB T want B M i).2.length = M.length := by
  unfold isB; split
  · split
    · simp
    · rfl
  · rfl
theorem isB_ok {T : Int} {want : Nat → Bool} {B : Bu} {M : List Ms} {i : Nat} (h : ∀ s ∈ M, s.ok) : ∀ s ∈ (isB T want B M i).2, s.ok := by
  unfold isB; split
  · rename_i m s hm hs
    split
    · intro x hx
      rcases List.mem_or_eq_of_mem_set hx with hx | rfl
      · exact h x hx
      · exact mayB_ok (h s (List.mem_of_getElem? hs)) _ _ _ _ _
    · exact h
  · exact h
def wantCells (want : Nat → Bool) : List Value := (List.range 16).map fun k => .bool (want k)
theorem want_at {w : World} {g : Nat} {t : TypeId} {want : Nat → Bool} (k : Blk w g t (wantCells want)) {i : Nat} (hi : i < 16) : w.cell? ⟨g, i, none⟩ = some (.bool (want i)) := by
  rw [k.cell i]; unfold wantCells; rw [List.getElem?_map, List.getElem?_range hi]; rfl
set_option maxHeartbeats 1000000 in
theorem slot1_any {w : World} {A : Bl} {B : Bu} (k : IsB w A B) (hok : ∀ s ∈ B.M, s.ok) (T : Int) (h0 : 0 ≤ T) (h1 : T ≤ 18446744073709551615) (hn : B.L.length ≤ 16) (want : Nat → Bool) {i : Nat} (hi : i < B.L.length) (a b c : Nat)
    (ha : Blk w a 70 (wantCells want)) (hb : w.cell? ⟨b, 0, none⟩ = some (.pointer (some ⟨A.p, 0, none⟩))) (hc : w.cell? ⟨c, 0, none⟩ = some (.int .u64 T)) :
    Calls Try.prog 25 #[.int .i64 i, .pointer (some ⟨a, 0, none⟩), .pointer (some ⟨b, 0, none⟩), .pointer (some ⟨c, 0, none⟩)] w fun e w' => e = .returned (.bool (isB T want B B.M i).1) ∧ IsB w' A { B with M := (isB T want B B.M i).2 } ∧ Only A.own w w' := by
  obtain ⟨x, s, m, hx, hs, hm, hmem, kx⟩ := k.at_ hi
  rw [isB_some hm hs]
  have hwi := want_at ha (show i < 16 by omega)
  have hi2 : (i : Int) < 16 := by omega
  have K := Lib.hid k
  have MB := Lib.hid (mayb_any k hx hs hm (hok s (List.mem_of_getElem? hs)) T h0 h1 hn)
  clear k kx hx hs hm hmem ha
  cases hw : want i with
  | false =>
    rw [hw] at hwi
    rw [if_neg (by simp)]
    clear hw
    go_enter Try.func25, Try.ntmps25
    go_wp2_with fail
    go_ret
    exact ⟨rfl, K.out, Only.refl _ _⟩
  | true =>
    rw [hw] at hwi
    rw [if_pos rfl]
    clear hw
    generalize (mayB T B.who B.row i m s).1 = r at *
    generalize (mayB T B.who B.row i m s).2 = s' at *
    go_enter Try.func25, Try.ntmps25
    go_wp2_with (go_at_call 26; (with_reducible refine Calls.mono MB.out ?_); rintro e w2 ⟨rfl, k2, o2⟩; have K2 := Lib.hid k2; have O2 := Lib.hid o2; clear k2 o2)
    go_ret
    exact ⟨rfl, K2.out, O2.out⟩
end Go.Proofs.Ytbfhohcimomphaa
