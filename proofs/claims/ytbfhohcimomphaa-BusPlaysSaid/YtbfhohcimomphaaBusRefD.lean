/- The reference of layer 6 (bus): a slot at a time that may be, wanted by masters that are there. -/
import Derived.Test.YtbfhohcimomphaaBusRefB
import Derived.Test.YtbfhohcimomphaaStill
namespace Go.Proofs.Ytbfhohcimomphaa
open Go.RowKit
set_option linter.unusedVariables false
set_option linter.unusedSimpArgs false
def FnB (f : Nat → Bool) (n : Nat) : List Value := (List.range n).map fun j => .bool (f j)
theorem FnB_len (f : Nat → Bool) (n : Nat) : (FnB f n).length = n := by simp [FnB]
theorem FnB_at (f : Nat → Bool) {n j : Nat} (h : j < n) : (FnB f n)[j]? = some (.bool (f j)) := by simp [FnB, List.getElem?_range h]
theorem FnB_set (f g : Nat → Bool) (n j : Nat) (x : Bool) (h : ∀ i, g i = if i = j then x else f i) : (FnB f n).set j (.bool x) = FnB g n := by
  apply List.ext_getElem?
  intro i
  by_cases hi : i < n
  · rw [FnB_at _ hi, h i]
    by_cases e : j = i
    · subst e
      rw [List.getElem?_set_self (by rw [FnB_len]; exact hi), if_pos rfl]
    · rw [List.getElem?_set_ne e, FnB_at _ hi, if_neg (fun h => e h.symm)]
  · rw [List.getElem?_eq_none (by simp [FnB]; omega), List.getElem?_eq_none (by simp [FnB]; omega)]
theorem FnB_false (n : Nat) : madeCells #[.bool false] n = ⟨FnB (fun _ => false) n⟩ := by
  apply Array.ext'
  rw [toList_madeCells_one]
  unfold FnB
  rw [List.map_const', List.length_range]
theorem infoBool : (Try.prog.info? 4).map (fun i => (i.zero, i.size, i.bytes)) = some (some (.bool false), 1, 1) := by kernel_rfl
theorem infoHad : (Try.prog.info? 83).map (fun i => (i.zero, i.size, i.bytes)) = some (some (.agg #[.int .u64 0, .int .i64 0]), 2, 16) := by kernel_rfl
theorem wants_step {l : List Int} {i x : Nat} (h : l[i]? = some (x : Int)) (k : Nat) : wants (l.take (i + 1)) k = if k = x then true else wants (l.take i) k := by
  have ht : l.take (i + 1) = l.take i ++ [(x : Int)] := by rw [List.take_add_one, h]; rfl
  unfold wants
  rw [ht]
  by_cases e : k = x
  · subst e; rw [if_pos rfl]; simp
  · rw [if_neg e]
    congr 1
    rw [List.mem_append, List.mem_singleton]
    exact propext ⟨fun h => h.elim id (fun h => absurd h (by omega)), .inl⟩
/-- Whether master j wants the slot at T, and may have it. -/
def canR (T : Int) (want : Nat → Bool) (L : List Mp) (M : Nat → Ms) (H : List (Int × Int)) (j : Nat) : Bool :=
  match L[j]? with
  | some m => want j && decide (kap T (M j) < (M j).b) && !(decide (0 < m.u) && decide (m.u ≤ rowR H.reverse j T 0))
  | none => false
def priR (L : List Mp) (j : Nat) : Int := match L[j]? with
  | some m => m.q
  | none => 0
/-- Of the first i the one that has it; -1: nobody. -/
def BestR (can : Nat → Bool) (pri : Nat → Int) (i : Nat) (b : Int) : Prop :=
  (b = -1 ∧ ∀ j, j < i → can j = false) ∨ ∃ id : Nat, b = id ∧ id < i ∧ can id = true ∧ ∀ j, j < i → can j = true → pri id < pri j ∨ (pri id = pri j ∧ id ≤ j)
theorem BestR.no {can : Nat → Bool} {pri : Nat → Int} {i : Nat} {b : Int} (h : BestR can pri i b) (hc : can i = false) : BestR can pri (i + 1) b := by
  rcases h with ⟨h1, h2⟩ | ⟨id, h1, h2, h3, h4⟩
  · refine .inl ⟨h1, fun j hj => ?_⟩
    rcases Nat.lt_or_ge j i with h | h
    · exact h2 j h
    · rw [show j = i by omega]; exact hc
  · refine .inr ⟨id, h1, by omega, h3, fun j hj ha => ?_⟩
    rcases Nat.lt_or_ge j i with h | h
    · exact h4 j h ha
    · rw [show j = i by omega, hc] at ha; cases ha
theorem BestR.first {can : Nat → Bool} {pri : Nat → Int} {i : Nat} {b : Int} (h : BestR can pri i b) (hc : can i = true) (hb : b < 0 ∨ pri i < pri b.toNat) : BestR can pri (i + 1) i := by
  refine .inr ⟨i, rfl, by omega, hc, fun j hj ha => ?_⟩
  rcases Nat.lt_or_ge j i with h5 | h5
  · rcases h with ⟨h1, h2⟩ | ⟨id, h1, h2, h3, h4⟩
    · rw [h2 j h5] at ha; cases ha
    · subst h1
      have hb : pri i < pri id := by rcases hb with h | h; omega; exact h
      rcases h4 j h5 ha with h | ⟨h, -⟩ <;> exact .inl (by omega)
  · obtain rfl : j = i := by omega
    exact .inr ⟨rfl, Nat.le_refl _⟩
theorem BestR.keep {can : Nat → Bool} {pri : Nat → Int} {i : Nat} {b : Int} (h : BestR can pri i b) (hb : 0 ≤ b) (hp : ¬ pri i < pri b.toNat) : BestR can pri (i + 1) b := by
  rcases h with ⟨h1, h2⟩ | ⟨id, h1, h2, h3, h4⟩
  · omega
  · subst h1
    have hp : ¬ pri i < pri id := hp
    refine .inr ⟨id, rfl, by omega, h3, fun j hj ha => ?_⟩
    rcases Nat.lt_or_ge j i with h | h
    · exact h4 j h ha
    · obtain rfl : j = i := by omega
      by_cases h9 : pri id < pri j
      · exact .inl h9
      · exact .inr ⟨by omega, by omega⟩
theorem BestR.uniq {can : Nat → Bool} {pri : Nat → Int} {i : Nat} {b b' : Int} (h : BestR can pri i b) (h' : BestR can pri i b') : b = b' := by
  rcases h with ⟨h1, h2⟩ | ⟨id, h1, h2, h3, h4⟩ <;> rcases h' with ⟨k1, k2⟩ | ⟨id', k1, k2, k3, k4⟩
  · omega
  · rw [h2 id' k2] at k3; cases k3
  · rw [k2 id h2] at h3; cases h3
  · have a := h4 id' k2 k3
    have b := k4 id h2 h3
    omega
/-- A meter looked at, at T. -/
def onS (T : Int) (s : Ms) : Ms := { s with t := T, x := (T - s.f) / s.p, k := kap T s }
structure MGood (L : List Mp) (ph T : Int) (M : Nat → Ms) : Prop where
  m : ∀ i m, L[i]? = some m → NowM m.b m.p ph T (M i)
def stallR (want : Nat → Bool) (id : Int) (c : Nat → Int) (i : Nat) : Nat → Int := fun k => if k < i ∧ want k = true ∧ (k : Int) ≠ id then c k + 1 else c k
theorem stallR_at (want : Nat → Bool) (b : Int) (c : Nat → Int) (k : Nat) : stallR want b c k k = c k := by unfold stallR; rw [if_neg (by omega)]
theorem stallR_yes {want : Nat → Bool} {b : Int} {c : Nat → Int} {k : Nat} (h : want k = true) (h2 : (k : Int) ≠ b) : stallR want b c (k + 1) = upd (stallR want b c k) k (c k + 1) := by
  funext i
  unfold stallR upd
  by_cases e : i = k
  · subst e; rw [if_pos ⟨by omega, h, h2⟩, if_pos rfl]
  · rw [if_neg e]
    show _ = if i < k ∧ want i = true ∧ (i : Int) ≠ b then c i + 1 else c i
    by_cases q : i < k ∧ want i = true ∧ (i : Int) ≠ b
    · rw [if_pos q, if_pos ⟨by omega, q.2⟩]
    · rw [if_neg q, if_neg (fun z => q ⟨by omega, z.2⟩)]
theorem stallR_no {want : Nat → Bool} {b : Int} {c : Nat → Int} {k : Nat} (h : want k = false ∨ (k : Int) = b) : stallR want b c (k + 1) = stallR want b c k := by
  funext i
  unfold stallR
  by_cases q : i < k ∧ want i = true ∧ (i : Int) ≠ b
  · rw [if_pos q, if_pos ⟨by omega, q.2⟩]
  · rw [if_neg q, if_neg (fun z => by
      by_cases e : i = k
      · subst e
        rcases h with h | h
        · rw [h] at z; cases z.2.1
        · exact z.2.2 h
      · exact q ⟨by omega, z.2⟩)]
theorem IsRB.stall {w : World} {R : Rl} {n : Nat} {M : Nat → Ms} {c : Nat → Int} {H : List (Int × Int)} {ph : Int} (h : IsRB w R n M c H ph) (k : Nat) (x : Int) : IsRB (w.setCell ⟨R.gs, k, none⟩ (.int .i64 x)) R n M (upd c k x) H ph := by
  have o : Only (fun g => g = R.gs) w (w.setCell ⟨R.gs, k, none⟩ (.int .i64 x)) := Only.setCell (F := fun g => g = R.gs) (Only.refl _ _) (fun _ => rfl) _
  refine ⟨h.blk.only o (fun e => h.blk.ne h.st (by decide) e), h.met.only o (fun g hg e => h.met.ne h.st (by decide) (e ▸ hg)), by rw [← Fn_set]; exact h.st.put k _, h.had.only o (fun g hg e => h.had.ne h.st (by decide) (e ▸ hg)), fun i hi => ?_, h.nx, h.nv⟩
  obtain ⟨L, k'⟩ := h.each i hi
  exact ⟨L, k'.only o (fun e => k'.1.ne h.st (by decide) e) (fun g hg e => k'.2.1.ne h.st (by decide) (e ▸ hg))⟩
theorem IsO.more {w : World} {r c d : Nat} {v : Value} {L : List (Int × Int)} {s : Ms} (h : IsO w r v L s c) (hd : c ≤ d) : IsO w r v L s d := ⟨h.1, h.2.1, ⟨Nat.le_trans h.2.2.len hd, h.2.2.el, h.2.2.sum⟩⟩
/-- A slot more is kept. -/
theorem IsRB.push {w w' : World} {R : Rl} {n : Nat} {M : Nat → Ms} {c : Nat → Int} {H : List (Int × Int)} {ph T b : Int} {v' : Value} {ob : Obj} (h : IsRB w R n M c H ph)
    (hs : Slc w' 83 2 v' (H.length + 1) (flatH H ++ [.int .u64 T, .int .i64 b])) (ho : Only (fun g => R.hv.ownBlock = some g) (w.alloc ob) w') (hat : v'.ownBlock = R.hv.ownBlock ∨ v'.ownBlock = some (w.heap.size + 1)) :
    IsRB (w'.setCell ⟨R.p, 4, none⟩ v') { R with hv := v' } n M c (H ++ [(T, b)]) ph ∧ Only (fun g => R.hv.ownBlock = some g ∨ g = R.p) w (w'.setCell ⟨R.p, 4, none⟩ v') ∧ ∀ a, ({ R with hv := v' } : Rl).all n a → R.all n a ∨ w.heap.size ≤ a := by
  have hp := h.blk.lt
  have o1 : Only (fun g => R.hv.ownBlock = some g) w w' := Only.trans (Only.of_below ((Below.refl _ _).alloc (Nat.le_refl _) _)) ho fun _ _ k => k
  have o2 : Only (fun g => R.hv.ownBlock = some g ∨ g = R.p) w (w'.setCell ⟨R.p, 4, none⟩ v') := Only.setCell (F := fun g => R.hv.ownBlock = some g ∨ g = R.p) (Only.mono o1 fun _ _ k => .inl k) (fun _ => .inr rfl) _
  have np : v'.ownBlock ≠ some R.p := by
    rcases hat with e | e
    · rw [e]; exact h.had.ne h.blk (by decide)
    · rw [e]; intro k; injection k with k; omega
  have fr : ∀ (a : Nat) (t : TypeId) (cs : List Value), Blk w a t cs → t ≠ 83 → t ≠ 59 → Blk (w'.setCell ⟨R.p, 4, none⟩ v') a t cs := fun a t cs k h1 h2 =>
    k.only o2 fun f => f.elim (fun f => h.had.ne k (fun e => h1 e.symm) f) (fun f => k.ne h.blk h2 f)
  have fs : ∀ (e : TypeId) (sz m : Nat) (u : Value) (xs : List Value), Slc w e sz u m xs → e ≠ 83 → e ≠ 59 → Slc (w'.setCell ⟨R.p, 4, none⟩ v') e sz u m xs := fun e sz m u xs k h1 h2 =>
    k.only o2 fun g hg f => f.elim (fun f => by
      obtain ⟨cs, kb⟩ := slcBlk k hg
      exact h.had.ne kb (fun e => h1 e.symm) f) (fun f => k.ne h.blk h2 (f ▸ hg))
  refine ⟨⟨(h.blk.only o1 (fun f => h.had.ne h.blk (by decide) f)).put 4 v', fs _ _ _ _ _ h.met (by decide) (by decide), fr _ _ _ h.st (by decide) (by decide), ?_, fun i hi => ?_, h.nx, h.nv⟩, o2, fun a ha => ?_⟩
  · rw [List.length_append, flatH_app]
    exact hs.far (p := ⟨R.p, 4, none⟩) np v'
  · obtain ⟨L, k⟩ := h.each i hi
    refine ⟨L, IsO.more (c := H.length) ⟨fr _ _ _ k.1 (by decide) (by decide), fs _ _ _ _ _ k.2.1 (by decide) (by decide), k.2.2⟩ (by simp)⟩
  · rcases ha with ha | ha | ha | ha | ha | ha
    · exact .inl (.inl ha)
    · exact .inl (.inr (.inl ha))
    · exact .inl (.inr (.inr (.inl ha)))
    · exact .inl (.inr (.inr (.inr (.inl ha))))
    · rcases hat with e | e
      · exact .inl (.inr (.inr (.inr (.inr (.inl (e.symm.trans ha))))))
      · have : some (w.heap.size + 1) = some a := e.symm.trans ha
        injection this with this
        exact .inr (by omega)
    · exact .inl (.inr (.inr (.inr (.inr (.inr ha)))))
/-- One meter has taken. -/
theorem IsRB.taken {w w' : World} {R : Rl} {n : Nat} {M : Nat → Ms} {c : Nat → Int} {H : List (Int × Int)} {ph : Int} {i : Nat} {v' : Value} {L' : List (Int × Int)} {s' : Ms} (h : IsRB w R n M c H ph) (hi : i < n)
    (o : Only (fun g => g = R.xs i ∨ (R.vs i).ownBlock = some g) w w') (k : IsO w' (R.xs i) v' L' s' H.length) (hv : ∀ g, v'.ownBlock = some g → (R.vs i).ownBlock = some g ∨ w.heap.size ≤ g) :
    IsRB w' { R with vs := fun j => if j = i then v' else R.vs j } n (fun j => if j = i then s' else M j) c H ph ∧ ∀ a, ({ R with vs := fun j => if j = i then v' else R.vs j } : Rl).all n a → R.all n a ∨ w.heap.size ≤ a := by
  obtain ⟨L0, k0⟩ := h.each i hi
  have nb : ∀ (a : Nat) (t : TypeId) (cs : List Value), Blk w a t cs → t ≠ 93 → t ≠ 97 → Blk w' a t cs := fun a t cs kb h1 h2 =>
    kb.only o fun f => f.elim (fun f => kb.ne k0.1 h1 f) (fun f => k0.2.1.ne kb (fun e => h2 e.symm) f)
  have ns : ∀ (e : TypeId) (sz m : Nat) (u : Value) (xs : List Value), Slc w e sz u m xs → e ≠ 93 → e ≠ 97 → Slc w' e sz u m xs := fun e sz m u xs kb h1 h2 =>
    kb.only o fun g hg f => f.elim (fun f => kb.ne k0.1 h1 (f ▸ hg)) (fun f => by
      obtain ⟨cs, kc⟩ := slcBlk kb hg
      exact k0.2.1.ne kc (fun e => h2 e.symm) f)
  refine ⟨⟨nb _ _ _ h.blk (by decide) (by decide), ns _ _ _ _ _ h.met (by decide) (by decide), nb _ _ _ h.st (by decide) (by decide), ns _ _ _ _ _ h.had (by decide) (by decide), fun j hj => ?_, h.nx, fun j l g hj hl e1 e2 => ?_⟩, fun a ha => ?_⟩
  · show ∃ L, IsO w' (R.xs j) (if j = i then v' else R.vs j) L (if j = i then s' else M j) H.length
    by_cases e : j = i
    · subst e; rw [if_pos rfl, if_pos rfl]; exact ⟨L', k⟩
    · rw [if_neg e, if_neg e]
      obtain ⟨L, kj⟩ := h.each j hj
      exact ⟨L, kj.only o (fun f => f.elim (fun f => e (h.nx j i hj hi f)) (fun f => k0.2.1.ne kj.1 (by decide) f)) (fun g hg f => f.elim (fun f => kj.2.1.ne k0.1 (by decide) (f ▸ hg)) (fun f => e (h.nv j i g hj hi hg f)))⟩
  · have lt : ∀ q, q < n → ∀ g, (R.vs q).ownBlock = some g → g < w.heap.size := fun q hq g hg => by
      obtain ⟨L, kq⟩ := h.each q hq
      exact kq.2.1.lt hg
    have e1 : (if j = i then v' else R.vs j).ownBlock = some g := e1
    have e2 : (if l = i then v' else R.vs l).ownBlock = some g := e2
    by_cases a1 : j = i <;> by_cases a2 : l = i
    · omega
    · rw [if_pos a1] at e1
      rw [if_neg a2] at e2
      rcases hv g e1 with f | f
      · exact absurd (h.nv l i g hl hi e2 f) a2
      · have := lt l hl g e2; omega
    · rw [if_neg a1] at e1
      rw [if_pos a2] at e2
      rcases hv g e2 with f | f
      · exact absurd (h.nv j i g hj hi e1 f) a1
      · have := lt j hj g e1; omega
    · rw [if_neg a1] at e1
      rw [if_neg a2] at e2
      exact h.nv j l g hj hl e1 e2
  · rcases ha with ha | ha | ha | ha | ha | ⟨j, hj, ha⟩
    · exact .inl (.inl ha)
    · exact .inl (.inr (.inl ha))
    · exact .inl (.inr (.inr (.inl ha)))
    · exact .inl (.inr (.inr (.inr (.inl ha))))
    · exact .inl (.inr (.inr (.inr (.inr (.inl ha)))))
    · have ha : (if j = i then v' else R.vs j).ownBlock = some a := ha
      by_cases e : j = i
      · rw [if_pos e] at ha
        rcases hv a ha with f | f
        · exact .inl (.inr (.inr (.inr (.inr (.inr ⟨i, hi, f⟩)))))
        · exact .inr f
      · rw [if_neg e] at ha
        exact .inl (.inr (.inr (.inr (.inr (.inr ⟨j, hj, ha⟩)))))
def Rel1 (w : World) (l : List Int) (iv : Value) (wr : World) : Prop := ∃ i : Nat, iv = .int .i64 i ∧ i ≤ l.length ∧ Below w.heap.size w wr
def Rel2 (w : World) (l : List Int) (n gw : Nat) (iv : Value) (wr : World) : Prop := ∃ i : Nat, iv = .int .i64 i ∧ i ≤ l.length ∧ Blk wr gw 4 (FnB (wants (l.take i)) n) ∧ Below w.heap.size w wr
def Rel3 (w : World) (R : Rl) (L : List Mp) (M : Nat → Ms) (c : Nat → Int) (H : List (Int × Int)) (ph T : Int) (want : Nat → Bool) (gw : Nat) (bv iv : Value) (wr : World) : Prop :=
  ∃ (i : Nat) (b : Int), iv = .int .i64 i ∧ bv = .int .i64 b ∧ i ≤ L.length ∧ BestR (canR T want L M H) (priR L) i b ∧ IsRB wr R L.length (fun j => if j < i then onS T (M j) else M j) c H ph ∧ Blk wr gw 4 (FnB want L.length) ∧ Only (R.all L.length) w wr
def Rel4 (w : World) (R : Rl) (L : List Mp) (M : Nat → Ms) (c : Nat → Int) (H : List (Int × Int)) (ph : Int) (want : Nat → Bool) (b : Int) (gw : Nat) (iv : Value) (wr : World) : Prop :=
  ∃ i : Nat, iv = .int .i64 i ∧ i ≤ L.length ∧ IsRB wr R L.length M (stallR want b c i) H ph ∧ Blk wr gw 4 (FnB want L.length) ∧ Only (R.all L.length) w wr
/-- How it stands behind a slot. -/
def SlotR (w : World) (R : Rl) (L : List Mp) (M : Nat → Ms) (c : Nat → Int) (H : List (Int × Int)) (ph T : Int) (want : Nat → Bool) (e : Ending) (w' : World) : Prop :=
  ∃ (b : Int) (R' : Rl) (M' : Nat → Ms), BestR (canR T want L M H) (priR L) L.length b ∧ e = .returned (.tuple #[.int .i64 (if b < 0 then 0 else b), .int .i64 (if b < 0 then 5 else 0)]) ∧
    R'.p = R.p ∧ R'.av = R.av ∧ IsRB w' R' L.length M' (stallR want b c L.length) (H ++ [(T, b)]) ph ∧ (∀ j, j < L.length → M' j = if (j : Int) = b then tk T (M j) else onS T (M j)) ∧
    Only (R.all L.length) w w' ∧ (∀ a, R'.all L.length a → R.all L.length a ∨ w.heap.size ≤ a)
set_option maxRecDepth 100000 in
set_option maxHeartbeats 8000000 in
theorem rslot_ok {w : World} {R : Rl} {L : List Mp} {M : Nat → Ms} {c : Nat → Int} {H : List (Int × Int)} {ph T : Int} (k : IsRB w R L.length M c H ph) (Aa : Option Addr) (cap : Nat) (hav : R.av = .slice Aa L.length cap)
    (hM : Hid (∀ W, Only (R.all L.length) w W → Mps W Aa L)) (hok : Hid (∀ m ∈ L, m.ok)) (hg : Hid (MGood L ph T M)) (n16 : L.length ≤ 16) (h0 : 0 ≤ T) (h1 : T < 4611686018427387904) (p0 : 0 ≤ ph) (hph : ph ≤ T)
    (hH : Hid (∀ e ∈ H, 0 ≤ e.1 ∧ e.1 < T)) (hl : H.length ≤ 800) (hc : Hid (∀ k, k < L.length → 0 ≤ c k ∧ c k ≤ 1000000000))
    (l : List Int) (Aw : Option Addr) (cw : Nat) (hs : Hid (Src w 1 Aw l.length (intCells l))) (hl9 : l.length ≤ 140737488351232) (hw : Hid (okWants l L.length = true)) :
    Calls Try.prog 18 #[.pointer (some ⟨R.p, 0, none⟩), .int .u64 T, .slice Aw l.length cw] w (SlotR w R L M c H ph T (wants l)) := by
  obtain ⟨c0, c1, c2, c3, c4⟩ := k.cells
  rw [hav] at c0
  obtain ⟨Ah, ch, eh, -⟩ := k.had.shape
  rw [eh] at c4
  have hmk : ∀ W, (Instr.makeSlice 44 (.int .i64 L.length) (.int .i64 L.length)).run Try.prog W = .ok (.slice (some ⟨W.heap.size, 0, none⟩) L.length L.length) (W.alloc (.cells ⟨FnB (fun _ => false) L.length⟩ 4)) := fun W => by
    rw [← FnB_false]
    exact run_make_row' 44 4 (.bool false) 1 Try.underlying44 infoBool rfl .i64 .i64 L.length (by omega) (by omega) W
  obtain ⟨it, hit, hzt, hzt1, hzt2⟩ := info_parts infoHad
  have d1 : decide (4611686018427387904 ≤ T) = false := decide_eq_false (by omega)
  have d2 : decide (T < ph) = false := decide_eq_false (by omega)
  have K := Lib.hid k
  have HAV := Lib.hid hav
  have EH := Lib.hid eh
  clear k hav eh
  go_enter Try.func18, Try.ntmps18
  go_wp2_with fail
  go_loopw [8] (fun iv wr => Hid (Rel1 w l iv wr)) (fun iv _ => l.length - (intOf iv).toNat)
  case atStart => exact ⟨0, rfl, by omega, Below.refl _ _⟩
  case round =>
    obtain ⟨i, rfl, hi, hbel⟩ := hrel
    have BEL := Lib.hid hbel
    have K1 := Lib.hid (K.out.below hbel)
    obtain ⟨c0, c1, c2, c3, c4⟩ := K1.out.cells
    rw [HAV.out] at c0
    rw [EH.out] at c4
    clear hbel
    by_cases hil : i < l.length
    · have hi2 : (i : Int) < l.length := by omega
      obtain ⟨ab, ao, x, rfl, hx, hc2⟩ := (hs.out.below BEL.out).int hil
      have hxr := List.all_eq_true.1 hw.out x (List.mem_of_getElem? hx)
      simp only [decide_eq_true_eq] at hxr
      obtain ⟨hx0, hx1⟩ := hxr
      have dx0 : decide (x < 0) = false := decide_eq_false (by omega)
      have dx1 : decide ((L.length : Int) ≤ x) = false := decide_eq_false (by omega)
      clear hx
      go_wp2_with fail
      go_quiet (fail)
      go_wp2_with fail
      go_roundw
      case rel => exact ⟨i + 1, by go_num, by omega, Below.drewN' BEL.out _⟩
      case measure => simp [intOf]; omega
    · have hi2 : ¬ (i : Int) < l.length := by omega
      clear hil
      go_wp2_with fail
      go_cut [72] (fun s72 wx => s72 = .bool false ∧ Hid (Below w.heap.size w wx))
      case first =>
        by_cases hne : H.length = 0
        · have e1 : decide (0 < (H.length : Int)) = false := decide_eq_false (by omega)
          go_quiet (fail)
          go_wp2_with fail
          go_meet
          exact ⟨rfl, Below.drewN' BEL.out _⟩
        · obtain ⟨m, hm⟩ : ∃ m, H.length = m + 1 := ⟨H.length - 1, by omega⟩
          have hj : H[m]? = some (H[m]'(by omega)) := List.getElem?_eq_getElem _
          obtain ⟨f1, f2⟩ := flatH_at H m _ hj
          obtain ⟨he0, he1⟩ := hH.out _ (List.mem_of_getElem? hj)
          obtain ⟨gh, oh, c', ev, -, -, hgl, hx, -⟩ := K1.out.had.at_ (by omega)
          rw [EH.out] at ev
          cases ev
          have q0 : wr.cell? ⟨gh, oh + m * 2, none⟩ = some (.int .u64 (H[m]'(by omega)).1) := hx _ _ f1
          generalize (H[m]'(by omega)).1 = ea at *
          have e1 : decide (0 < (H.length : Int)) = true := decide_eq_true (by omega)
          have e2 : decide (T ≤ ea) = false := decide_eq_false (by omega)
          have hm1 : (H.length : Int) - 1 = m := by omega
          clear hj f1 f2 hx
          go_quiet (fail)
          go_wp2_with fail
          go_meet
          exact ⟨rfl, Below.drewN' BEL.out _⟩
      case rest =>
        obtain ⟨rfl, CB⟩ := hcut
        clear c0 c1 c2 c3 c4 K1 BEL hi2
        have K1 := Lib.hid (K.out.below CB.out)
        obtain ⟨c0, c1, c2, c3, c4⟩ := K1.out.cells
        rw [HAV.out] at c0
        rw [EH.out] at c4
        have GW := Lib.hid (Blk.new wc 4 (FnB (fun _ => false) L.length))
        have NG : Hid (¬ R.all L.length wc.heap.size) := fun h => by have := K1.out.lt h; omega
        have NS := Lib.hid (CB.out.size)
        go_wp2_with fail
        generalize wc.heap.size = gw at *
        have hgw0 : w.heap.size ≤ gw := NS.out
        have hwt0 : wants (l.take 0) = fun _ => false := by funext k; simp [wants]
        go_loopw [10] (fun iv wr => Hid (Rel2 w l L.length gw iv wr)) (fun iv _ => l.length - (intOf iv).toNat)
        case atStart => exact ⟨0, rfl, by omega, by rw [hwt0]; exact GW.out, CB.out.alloc CB.out.size _⟩
        case round =>
          obtain ⟨i2, rfl, hi2, hg2, hb2⟩ := hrel
          have G2 := Lib.hid hg2
          have B2 := Lib.hid hb2
          clear hg2 hb2 c0 c1 c2 c3 c4 GW
          by_cases hil2 : i2 < l.length
          · have hi3 : (i2 : Int) < l.length := by omega
            obtain ⟨ab, ao, x, rfl, hx, hc2⟩ := (hs.out.below B2.out).int hil2
            have hxr := List.all_eq_true.1 hw.out x (List.mem_of_getElem? hx)
            simp only [decide_eq_true_eq] at hxr
            obtain ⟨xn, rfl⟩ : ∃ xn : Nat, x = xn := ⟨x.toNat, by omega⟩
            have hxn : xn < L.length := by omega
            have hx3 : (xn : Int) < L.length := by omega
            have q0 := (G2.out.cell xn).trans (FnB_at _ hxn)
            have q1 := G2.out.free xn
            have HX := Lib.hid hx
            clear hx hxr
            go_wp2_with fail
            go_roundw
            case rel => exact ⟨i2 + 1, by go_num, by omega, by rw [← FnB_set _ _ _ _ _ (wants_step HX.out)]; exact G2.out.put xn _, B2.out.setCell hgw0 _⟩
            case measure => simp [intOf]; omega
          · have hi3 : ¬ (i2 : Int) < l.length := by omega
            obtain rfl : i2 = l.length := by omega
            have K2 := Lib.hid (K.out.below B2.out)
            have G3 := Lib.hid (show Blk wr gw 4 (FnB (wants l) L.length) from by have := G2.out; rwa [List.take_length] at this)
            clear G2 hil2
            go_wp2_with fail
            clear hi3
            go_loopw [11, 12] (fun bv iv wr => Hid (Rel3 w R L M c H ph T (wants l) gw bv iv wr)) (fun _ iv _ => L.length - (intOf iv).toNat)
            case atStart => exact ⟨0, -1, rfl, rfl, by omega, .inl ⟨rfl, fun j h => by omega⟩, by simpa using K2.out, G3.out, Only.of_below B2.out⟩
            case round =>
              clear K2 G3 B2 CB
              obtain ⟨j, b, rfl, rfl, hj, hbest, hk, hg4, ho⟩ := hrel
              have BS := Lib.hid hbest
              have K3 := Lib.hid hk
              have G4 := Lib.hid hg4
              have O3 := Lib.hid ho
              clear hbest hk hg4 ho
              obtain ⟨c0, c1, c2, c3, c4⟩ := K3.out.cells
              rw [HAV.out] at c0
              rw [EH.out] at c4
              have NGW := Lib.hid (show ¬ R.all L.length gw from NG.out)
              by_cases hjl : j < L.length
              · have hj2 : (j : Int) < L.length := by omega
                have hm : L[j]? = some L[j] := List.getElem?_eq_getElem hjl
                obtain ⟨ab, ao, rfl, hab, a0, a1, a2, a3⟩ := hM.out wr O3.out j _ hm
                obtain ⟨gm, om, cm, emv, m0, hgm⟩ := K3.out.meter hjl
                rw [emv] at c2
                obtain ⟨Lg, kj⟩ := K3.out.each j hjl
                rw [if_neg (by omega)] at kj
                have nw := hg.out.m j _ hm
                have cl := rlefto_any kj (by omega) nw.ok T h0 (by omega) h1 nw.t
                rw [left_at _ _ h1 nw.t] at cl
                have C1 := Lib.hid (show Calls Try.prog 32 #[.pointer (some ⟨R.xs j, 0, none⟩), .int .u64 T] wr (fun e w' => e = .returned (.tuple #[.int .u64 ((M j).b - kap T (M j)), .int .i64 0]) ∧ IsO w' (R.xs j) (R.vs j) Lg (onS T (M j)) H.length ∧ Only (· = R.xs j) wr w') from cl)
                have KR := kap_rng nw.ok T
                have b1 := nw.ok.b1
                have p1 := nw.ok.p1
                have ecan : canR T (wants l) L M H j = (wants l j && decide (kap T (M j) < (M j).b) && !(decide (0 < L[j].u) && decide (L[j].u ≤ rowR H.reverse j T 0))) := by unfold canR; rw [hm]
                have ECAN := Lib.hid ecan
                have EPRI := Lib.hid (show priR L j = L[j].q from by unfold priR; rw [hm])
                have okm := hok.out _ (List.mem_of_getElem? hm)
                have mu0 := okm.u0
                have mu1 := okm.u1
                have rr := rowR_rng H.reverse j T 0
                rw [List.length_reverse] at rr
                have gq := (G4.out.cell j).trans (FnB_at _ hjl)
                have gl := G4.out.lt
                have HM := Lib.hid hm
                have hfun : (fun i => if i = j then onS T (M j) else if i < j then onS T (M i) else M i) = fun i => if i < j + 1 then onS T (M i) else M i := by
                  funext i
                  by_cases e : i = j
                  · subst e; rw [if_pos rfl, if_pos (by omega)]
                  · rw [if_neg e]
                    by_cases e2 : i < j
                    · rw [if_pos e2, if_pos (by omega)]
                    · rw [if_neg e2, if_neg (by omega)]
                clear hm kj nw cl ecan okm gq gl a0 a1 a2 a3
                generalize L[j] = m at *
                generalize kap T (M j) = kp at *
                generalize hbb : (M j).b = bb at *
                go_wp2_with (go_at_call 32; (with_reducible refine Calls.mono C1.out ?_); rintro e w5 ⟨rfl, k5, o5⟩
                             have k6 := K3.out.turn hjl o5 k5
                             rw [hfun] at k6
                             have o6 : Only (R.all L.length) w w5 := Only.trans O3.out o5 fun g _ h => .inr (.inl ⟨j, hjl, h⟩)
                             obtain ⟨c0, c1, c2, c3, c4⟩ := k6.cells
                             rw [HAV.out] at c0
                             rw [EH.out] at c4
                             obtain ⟨b', o', eA, hab2, a0, a1, a2, a3⟩ := hM.out w5 o6 j m HM.out
                             cases eA
                             have g6 := G4.out.only o5 (fun h => NGW.out (.inr (.inl ⟨j, hjl, h⟩)))
                             have gq := (g6.cell j).trans (FnB_at _ hjl)
                             have gl := g6.lt
                             have K6 := Lib.hid k6
                             have O6 := Lib.hid o6
                             have G6 := Lib.hid g6
                             clear k5 o5 k6 o6 g6)
                have RW := fun W (k : IsRB W R L.length (fun i => if i < j + 1 then onS T (M i) else M i) c H ph) => Lib.hid (rrow_any k (fun e he => ⟨(hH.out e he).1, by have := (hH.out e he).2; omega⟩) (by omega) (j : Int) T)
                generalize hrv : rowR H.reverse (j : Int) T 0 = rv at *
                obtain ⟨cb, hcb⟩ : ∃ cb, canR T (wants l) L M H j = cb := ⟨_, rfl⟩
                have HCB := Lib.hid hcb
                have ecb := ECAN.out
                rw [hcb] at ecb
                generalize hwj : wants l j = wj at *
                clear hcb hrv hwj
                go_cut [141] (fun s141 wx => s141 = .bool (!cb) ∧ Hid (∃ nq, wx = (w5.alloc (.cells #[.int .i64 m.q, .int .i64 m.u, .int .u64 m.b, .int .u64 m.p] 41)).drewN nq))
                case first =>
                  clear ECAN EPRI BS K3 G4 O3
                  cases wj with
                  | false =>
                    have e0 : cb = false := by rw [ecb]; simp <;> omega
                    clear ecb
                    subst e0
                    go_quiet (first | (go_at_call 33; exact Calls.quiet_of_same ((RW _ (by first | exact (K6.out.alloc _).drewN _ | exact K6.out.alloc _)).out.mono fun _ _ h => ⟨h.1, h.2.symm⟩)))
                    go_wp2_with fail
                    go_meet
                    exact ⟨rfl, ⟨_, rfl⟩⟩
                  | true =>
                    by_cases z1 : kp < bb
                    · have z1' : (bb - kp == 0) = false := beq_eq_false_iff_ne.2 (by omega)
                      by_cases z2 : 0 < m.u
                      · have z2' : decide (0 < m.u) = true := decide_eq_true z2
                        by_cases z3 : m.u ≤ rv
                        · have z3' : decide (m.u ≤ rv) = true := decide_eq_true z3
                          have e0 : cb = false := by rw [ecb]; simp <;> omega
                          clear ecb
                          subst e0
                          go_quiet (first | (go_at_call 33; exact Calls.quiet_of_same ((RW _ (by first | exact (K6.out.alloc _).drewN _ | exact K6.out.alloc _)).out.mono fun _ _ h => ⟨h.1, h.2.symm⟩)))
                          go_wp2_with fail
                          go_meet
                          exact ⟨rfl, ⟨_, rfl⟩⟩
                        · have z3' : decide (m.u ≤ rv) = false := decide_eq_false z3
                          have e0 : cb = true := by rw [ecb]; simp <;> omega
                          clear ecb
                          subst e0
                          go_quiet (first | (go_at_call 33; exact Calls.quiet_of_same ((RW _ (by first | exact (K6.out.alloc _).drewN _ | exact K6.out.alloc _)).out.mono fun _ _ h => ⟨h.1, h.2.symm⟩)))
                          go_wp2_with fail
                          go_meet
                          exact ⟨rfl, ⟨_, rfl⟩⟩
                      · have z2' : decide (0 < m.u) = false := decide_eq_false z2
                        have e0 : cb = true := by rw [ecb]; simp <;> omega
                        clear ecb
                        subst e0
                        go_quiet (first | (go_at_call 33; exact Calls.quiet_of_same ((RW _ (by first | exact (K6.out.alloc _).drewN _ | exact K6.out.alloc _)).out.mono fun _ _ h => ⟨h.1, h.2.symm⟩)))
                        go_wp2_with fail
                        go_meet
                        exact ⟨rfl, ⟨_, rfl⟩⟩
                    · have z1' : (bb - kp == 0) = true := beq_iff_eq.2 (by omega)
                      have e0 : cb = false := by rw [ecb]; simp <;> omega
                      clear ecb
                      subst e0
                      go_quiet (first | (go_at_call 33; exact Calls.quiet_of_same ((RW _ (by first | exact (K6.out.alloc _).drewN _ | exact K6.out.alloc _)).out.mono fun _ _ h => ⟨h.1, h.2.symm⟩)))
                      go_wp2_with fail
                      go_meet
                      exact ⟨rfl, ⟨_, rfl⟩⟩
                case rest =>
                  obtain ⟨rfl, WC⟩ := hcut
                  obtain ⟨nq, rfl⟩ := WC.out
                  clear WC
                  have KZ := Lib.hid ((K6.out.alloc (.cells #[.int .i64 m.q, .int .i64 m.u, .int .u64 m.b, .int .u64 m.p] 41)).drewN nq)
                  have GZ := Lib.hid ((G6.out.alloc (.cells #[.int .i64 m.q, .int .i64 m.u, .int .u64 m.b, .int .u64 m.p] 41)).drewN nq)
                  have OZ := Lib.hid ((O6.out.alloc (.cells #[.int .i64 m.q, .int .i64 m.u, .int .u64 m.b, .int .u64 m.p] 41)).drewN nq)
                  have MB := Lib.hid ((Blk.new w5 41 [.int .i64 m.q, .int .i64 m.u, .int .u64 m.b, .int .u64 m.p]).drewN nq)
                  have NE : Hid (w5.heap.size = w5.heap.size) := rfl
                  clear K6 G6 RW NE
                  change _ at OZ
                  generalize (w5.alloc (.cells #[.int .i64 m.q, .int .i64 m.u, .int .u64 m.b, .int .u64 m.p] 41)).drewN nq = wz at *
                  clear ecb c0 c1 c2 c3 c4 a0 a1 a2 a3 gq gl
                  obtain ⟨c0, c1, c2, c3, c4⟩ := KZ.out.cells
                  rw [HAV.out] at c0
                  have e0 := MB.out.cell 0
                  have e9 := MB.out.lt
                  have e8 := KZ.out.blk.lt
                  generalize w5.heap.size = bx at *
                  cases cb with
                  | false =>
                    go_wp2_with fail
                    go_roundw
                    case rel => exact ⟨j + 1, b, by go_num, rfl, by omega, BS.out.no HCB.out, KZ.out, GZ.out, OZ.out⟩
                    case measure => simp [intOf]; omega
                  | true =>
                    by_cases y1 : b < 0
                    · have y1' : decide (b < 0) = true := decide_eq_true y1
                      go_wp2_with fail
                      go_quiet (fail)
                      go_wp2_with fail
                      go_roundw
                      case rel => exact ⟨j + 1, j, by go_num, rfl, by omega, BS.out.first HCB.out (.inl y1), KZ.out.drewN _, GZ.out.drewN _, OZ.out.drewN _⟩
                      case measure => simp [intOf]; omega
                    · have y1' : decide (b < 0) = false := decide_eq_false y1
                      obtain ⟨id, hid, hidj⟩ : ∃ id : Nat, b = id ∧ id < j := by
                        rcases BS.out with ⟨h, -⟩ | ⟨id, h, h2, -⟩
                        · omega
                        · exact ⟨id, h, h2⟩
                      subst hid
                      have hidl : id < L.length := by omega
                      have hid2 : (id : Int) < L.length := by omega
                      have hmi : L[id]? = some L[id] := List.getElem?_eq_getElem hidl
                      obtain ⟨b2, o2, eA, hab3, x0, -, -, -⟩ := hM.out wz OZ.out id _ hmi
                      cases eA
                      have EPI := Lib.hid (show priR L id = L[id].q from by unfold priR; rw [hmi])
                      clear hmi
                      generalize L[id].q = qi at *
                      by_cases y2 : m.q < qi
                      · have y2' : decide (m.q < qi) = true := decide_eq_true y2
                        go_wp2_with fail
                        go_quiet (fail)
                        go_wp2_with fail
                        go_roundw
                        case rel => exact ⟨j + 1, j, by go_num, rfl, by omega, BS.out.first HCB.out (.inr (by rw [EPRI.out, Int.toNat_natCast, EPI.out]; exact y2)), KZ.out.drewN _, GZ.out.drewN _, OZ.out.drewN _⟩
                        case measure => simp [intOf]; omega
                      · have y2' : decide (m.q < qi) = false := decide_eq_false y2
                        go_wp2_with fail
                        go_quiet (fail)
                        go_wp2_with fail
                        go_roundw
                        case rel => exact ⟨j + 1, id, by go_num, rfl, by omega, BS.out.keep (by omega) (by rw [EPRI.out, Int.toNat_natCast, EPI.out]; omega), KZ.out.drewN _, GZ.out.drewN _, OZ.out.drewN _⟩
                        case measure => simp [intOf]; omega
              · have hj2 : ¬ (j : Int) < L.length := by omega
                obtain rfl : j = L.length := by omega
                go_wp2_with fail
                clear hj2 c0 c1 c2 c3 c4
                go_loopw [16] (fun iv wr => Hid (Rel4 w R L (fun i => if i < L.length then onS T (M i) else M i) c H ph (wants l) b gw iv wr)) (fun iv _ => L.length - (intOf iv).toNat)
                case atStart => exact ⟨0, rfl, by omega, by have h := K3.out; rwa [show stallR (wants l) b c 0 = c from by funext k; unfold stallR; rw [if_neg (by omega)]], G4.out, O3.out⟩
                case round =>
                  clear K3 G4 O3
                  obtain ⟨k, rfl, hk, hk5, hg5, ho5⟩ := hrel
                  have K5 := Lib.hid hk5
                  have G5 := Lib.hid hg5
                  have O5 := Lib.hid ho5
                  clear hk5 hg5 ho5
                  obtain ⟨c0, c1, c2, c3, c4⟩ := K5.out.cells
                  rw [HAV.out] at c0
                  rw [EH.out] at c4
                  by_cases hkl : k < L.length
                  · have hk2 : (k : Int) < L.length := by omega
                    have gq := (G5.out.cell k).trans (FnB_at _ hkl)
                    have sq := (K5.out.st.cell k).trans (Fn_at .i64 _ hkl)
                    rw [stallR_at] at sq
                    have sf := K5.out.st.free k
                    have sl := K5.out.st.lt
                    have gl := G5.out.lt
                    obtain ⟨cc0, cc1⟩ := hc.out k hkl
                    cases hwk : wants l k with
                    | false =>
                      rw [hwk] at gq
                      have HS := Lib.hid (stallR_no (b := b) (c := c) (k := k) (want := wants l) (.inl hwk))
                      clear hwk
                      go_wp2_with fail
                      go_roundw
                      case rel => exact ⟨k + 1, by go_num, by omega, by rw [HS.out]; exact K5.out, G5.out, O5.out⟩
                      case measure => simp [intOf]; omega
                    | true =>
                      rw [hwk] at gq
                      by_cases hkb : (k : Int) = b
                      · have e1 : ((k : Int) == b) = true := beq_iff_eq.2 hkb
                        have e2 : ((k : Int) != b) = false := by rw [bne, e1]; rfl
                        have HS := Lib.hid (stallR_no (b := b) (c := c) (k := k) (want := wants l) (.inr hkb))
                        clear hwk hkb
                        go_wp2_with fail
                        go_roundw
                        case rel => exact ⟨k + 1, by go_num, by omega, by rw [HS.out]; exact K5.out, G5.out, O5.out⟩
                        case measure => simp [intOf]; omega
                      · have e1 : ((k : Int) == b) = false := beq_eq_false_iff_ne.2 hkb
                        have e2 : ((k : Int) != b) = true := by rw [bne, e1]; rfl
                        have HS := Lib.hid (stallR_yes (c := c) hwk hkb)
                        clear hwk hkb
                        have NGS := Lib.hid (show gw ≠ R.gs from fun e => NGW.out (.inr (.inr (.inr (.inl e)))))
                        go_wp2_with fail
                        go_roundw
                        case rel => exact ⟨k + 1, by go_num, by omega, by rw [HS.out]; exact K5.out.stall k _, G5.out.far (p := ⟨R.gs, k, none⟩) NGS.out _, Only.setCell O5.out (fun _ => .inr (.inr (.inr (.inl rfl)))) _⟩
                        case measure => simp [intOf]; omega
                  · have hk2 : ¬ (k : Int) < L.length := by omega
                    obtain rfl : k = L.length := by omega
                    have SHV : Hid (Slc wr 83 2 (.slice Ah H.length ch) H.length (flatH H)) := by have := K5.out.had; rwa [EH.out] at this
                    have f4 := K5.out.blk.free 4
                    go_wp2_with (at_builtin; refine wpList_append_slc _ rfl (.tmp 189) (.tmp 193) _ rfl 83 it _ 2 16 Try.underlying57 hit hzt hzt1 hzt2 rfl (by omega) _ H.length (flatH H) rfl (Slc.alloc SHV.out _) (some ⟨wr.heap.size, 0, none⟩) 1 1 [.int .u64 T, .int .i64 b] rfl (Src.block (Blk.new wr 83 [.int .u64 T, .int .i64 b]) rfl) (by simp [Value.oneCell']) (by omega) (by simp only [maxLen]; omega) ?_)
                    intro v' w' hs' ho' hat'
                    rw [← EH.out] at ho' hat'
                    obtain ⟨k7, o7, a7⟩ := K5.out.push hs' ho' hat'
                    obtain ⟨A4, c4', e4, -⟩ := hs'.shape
                    subst e4
                    have kp := (K5.out.blk.alloc (.cells #[.int .u64 T, .int .i64 b] 83)).only ho' (fun f => K5.out.had.ne K5.out.blk (by decide) f)
                    have q4 := kp.cell 4
                    have q5 := kp.free 4
                    have q6 := kp.lt
                    have q2 : w'.cell? ⟨R.p, 2, none⟩ = some R.mv := kp.cell 2
                    have K7 := Lib.hid k7
                    have O7 := Lib.hid o7
                    have A7 := Lib.hid a7
                    clear hs' ho' hat' kp k7 o7 a7 SHV f4 c0 c1 c2 c3 c4
                    by_cases y1 : b < 0
                    · have y1' : decide (b < 0) = true := decide_eq_true y1
                      go_wp2_with fail
                      go_ret2
                      refine ⟨b, { R with hv := .slice A4 (H.length + 1) c4' }, _, BS.out, by rw [if_pos y1, if_pos y1]; rfl, rfl, rfl, K7.out, fun j hj => ?_, Only.trans O5.out O7.out (fun g _ h => h.elim (fun h => .inr (.inr (.inr (.inr (.inl h))))) .inl), fun a ha => (A7.out a ha).imp id (fun h => Nat.le_trans O5.out.size h)⟩
                      show (if j < L.length then onS T (M j) else M j) = _
                      rw [if_pos hj, if_neg (by omega)]
                    · have y1' : decide (b < 0) = false := decide_eq_false y1
                      obtain ⟨id, hid, hidl, hcan⟩ : ∃ id : Nat, b = id ∧ id < L.length ∧ canR T (wants l) L M H id = true := by
                        rcases BS.out with ⟨h, -⟩ | ⟨id, h, h2, h3, -⟩
                        · omega
                        · exact ⟨id, h, h2, h3⟩
                      subst hid
                      have hid2 : (id : Int) < L.length := by omega
                      have hmi : L[id]? = some L[id] := List.getElem?_eq_getElem hidl
                      have nw := hg.out.m id _ hmi
                      have hkap : kap T (M id) < (M id).b := by
                        unfold canR at hcan
                        rw [hmi] at hcan
                        simp only [Bool.and_eq_true, decide_eq_true_eq] at hcan
                        exact hcan.1.2
                      obtain ⟨gm, om, cm, emv, m0, hgm⟩ := K7.out.meter hidl
                      have emv : R.mv = .slice (some ⟨gm, om, none⟩) L.length cm := emv
                      have ngp : gm ≠ R.p := fun e => K7.out.met.ne K7.out.blk (by decide) (show R.mv.ownBlock = some R.p by rw [emv, e]; rfl)
                      have m0' : w'.cell? ⟨gm, om + id, none⟩ = some (.pointer (some ⟨R.xs id, 0, none⟩)) := by
                        rw [← m0]
                        exact (World.cell?_setCell_other _ _ _ _ (fun e => ngp (by have := congrArg Addr.block e; first | exact this | exact this.symm))).symm
                      rw [emv] at q2
                      obtain ⟨Lg, kid⟩ := K5.out.each id hidl
                      simp only [if_pos hidl] at kid
                      have kid2 := kid.only O7.out (fun f => f.elim (fun f => K5.out.had.ne kid.1 (by decide) f) (fun f => kid.1.ne K5.out.blk (by decide) f)) (fun g hg f => f.elim (fun f => by
                        obtain ⟨cs, kc⟩ := slcBlk kid.2.1 hg
                        exact K5.out.had.ne kc (by decide) f) (fun f => kid.2.1.ne K5.out.blk (by decide) (f ▸ hg)))
                      have CT := Lib.hid (rtakeo_any kid2 (by omega) (nw.on h1).ok T h0 (by omega) h1 (Int.le_refl _) (by
                        have e := on_at (onS T (M id)) T h1 (Int.le_refl _)
                        rw [e]
                        show kap T (onS T (M id)) < (M id).b
                        have : kap T (onS T (M id)) = kap T (M id) := kap_on _ _
                        omega))
                      have TK := Lib.hid (show (takeM T 1 (onS T (M id))).2 = tk T (M id) from take_tk h1 hkap)
                      have MT := Lib.hid m0'
                      clear hmi nw hkap hcan kid kid2 m0 emv
                      go_wp2_with (go_at_call 34; (with_reducible refine Calls.mono CT.out ?_); rintro e w9 ⟨rfl, v9, L9, k9, o9, hv9⟩)
                      go_ret2
                      rw [TK.out] at k9
                      have k9' : IsO w9 (R.xs id) v9 L9 (tk T (M id)) (H ++ [(T, (id : Int))]).length := by simpa using k9
                      obtain ⟨k10, a10⟩ := K7.out.taken hidl o9 k9' hv9
                      refine ⟨id, { R with hv := .slice A4 (H.length + 1) c4', vs := fun j => if j = id then v9 else R.vs j }, (fun j => if j = id then tk T (M id) else if j < L.length then onS T (M j) else M j), BS.out, by rw [if_neg (show ¬ ((id : Int) < 0) by omega), if_neg (show ¬ ((id : Int) < 0) by omega)]; rfl, rfl, rfl, k10, fun j hj => ?_, Only.trans (Only.trans O5.out O7.out (fun g _ h => h.elim (fun h => .inr (.inr (.inr (.inr (.inl h))))) .inl)) o9 (fun g _ h => h.elim (fun h => .inr (.inl ⟨id, hidl, h⟩)) (fun h => .inr (.inr (.inr (.inr (.inr ⟨id, hidl, h⟩)))))), fun a ha => ?_⟩
                      · show (if j = id then tk T (M id) else if j < L.length then onS T (M j) else M j) = _
                        by_cases e : j = id
                        · subst e; rw [if_pos rfl, if_pos rfl]
                        · rw [if_neg e, if_pos hj, if_neg (by omega)]
                      · rcases a10 a ha with h | h
                        · exact (A7.out a h).imp (fun x => x) (fun h => Nat.le_trans O5.out.size h)
                        · exact .inr (Nat.le_trans (Nat.le_trans O5.out.size O7.out.size) h)
end Go.Proofs.Ytbfhohcimomphaa
