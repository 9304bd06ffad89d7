/- The reference of layer 13: its lines, whole. -/
import Derived.Test.YtbdhmjlbogjkoaaIrqRefB
import Derived.Test.YtbdhmjlbogjkoaaIrqD
namespace Go.Proofs.Ytbdhmjlbogjkoaa
open Go.RowKit
set_option linter.unusedVariables false
set_option linter.unusedSimpArgs false
/-- A gatherer that stands as g but for what nobody asks while it has no raise. -/
def GE (now : Int) (g' g : Gs) : Prop := g'.ok ∧ g.ok ∧ (g' = g ∨ (g'.n = 0 ∧ g.n = 0 ∧ g'.c = g.c ∧ g'.h = g.h ∧ g'.t ≤ now ∧ g.t ≤ now))
theorem GE.refl {now : Int} {g : Gs} (h : g.ok) : GE now g g := ⟨h, h, .inl rfl⟩
theorem GE.mono {now T : Int} {g' g : Gs} (h : GE now g' g) (k : now ≤ T) : GE T g' g := ⟨h.1, h.2.1, h.2.2.imp id fun ⟨a, b, c, d, e, f⟩ => ⟨a, b, c, d, by omega, by omega⟩⟩
theorem goF_GE {now T : Int} {g' g : Gs} (h : GE now g' g) (k : now ≤ T) (h1 : T < 4611686018427387904) :
    (goF T g').1 = (goF T g).1 ∧ ((goF T g').2 = (goF T g).2 ∨ ((goF T g').2.n = 0 ∧ (goF T g).2.n = 0 ∧ (goF T g').2.c = (goF T g).2.c ∧ (goF T g').2.h = (goF T g).2.h ∧ (goF T g').2.t = (goF T g).2.t)) := by
  obtain ⟨-, -, rfl | ⟨a, b, c, d, e, f⟩⟩ := h
  · exact ⟨rfl, .inl rfl⟩
  · have e1 : goF T g' = ((0, 0), { g' with t := T }) := by
      unfold goF
      rw [if_neg (by omega), if_neg (by omega)]
      unfold lateF
      rw [if_pos (.inl a)]
    have e2 : goF T g = ((0, 0), { g with t := T }) := by
      unfold goF
      rw [if_neg (by omega), if_neg (by omega)]
      unfold lateF
      rw [if_pos (.inl b)]
    rw [e1, e2]
    exact ⟨rfl, .inr ⟨a, b, c, d, rfl⟩⟩
theorem IsRv.gone {w : World} {b : Nat} {v : Value} {now T : Int} {g' g : Gs} (h : GE now g' g) (k : now ≤ T) (h1 : T < 4611686018427387904) (hv : IsRv w b v (goF T g').2) : IsRv w b v (goF T g).2 := by
  obtain ⟨-, e | ⟨a, b, c, d, e⟩⟩ := goF_GE h k h1
  · rw [← e]; exact hv
  · exact hv.empty a c.symm d.symm b e.symm
def u64s (R : List Int) : List Value := R.map (Value.int .u64)
/-- A line of the document's: it stands as n, and its raises were R. -/
structure IsRL (w : World) (a : Av) (n : Ln) (R : List Int) (now : Int) : Prop where
  x : IsX w a n
  g : ∃ g', GE now g' n.g ∧ IsRv w a.g a.gv g'
  r : Slc w 22 1 a.rv R.length (u64s R)
  nr : ∀ i, a.rv.ownBlock = some i → a.gv.ownBlock ≠ some i
def ownV (a : Av) (i : Nat) : Prop := i = a.x ∨ i = a.g ∨ i = a.k ∨ a.rv.ownBlock = some i ∨ a.gv.ownBlock = some i
section
variable {w w' : World} {a b : Av} {n m : Ln} {R S : List Int} {now T : Int} {F : Nat → Prop}
theorem IsRL.gblk (h : IsRL w a n R now) : ∃ cs, Blk w a.g 85 cs := by
  obtain ⟨g', -, L, k, -⟩ := h.g
  exact ⟨_, k⟩
theorem IsRL.gslc (h : IsRL w a n R now) : ∃ L : List Int, Slc w 22 1 a.gv L.length (L.map (Value.int .u64)) := by
  obtain ⟨g', -, L, -, k, -⟩ := h.g
  exact ⟨_, k⟩
theorem IsRL.only (h : IsRL w a n R now) (o : Only F w w') (hF : ∀ i, ownV a i → ¬ F i) : IsRL w' a n R now := by
  obtain ⟨g', h1, h2⟩ := h.g
  exact ⟨h.x.only o (hF _ (.inl rfl)) (hF _ (.inr (.inr (.inl rfl)))), ⟨g', h1, h2.only o (hF _ (.inr (.inl rfl))) (fun i e => hF _ (.inr (.inr (.inr (.inr e)))))⟩, h.r.only o (fun i e => hF _ (.inr (.inr (.inr (.inl e))))), h.nr⟩
theorem IsRL.lt (h : IsRL w a n R now) {i : Nat} (hi : ownV a i) : i < w.heap.size := by
  obtain ⟨g', h1, h2⟩ := h.g
  rcases hi with rfl | rfl | rfl | e | e
  · exact h.x.x.lt
  · exact h2.lt.1
  · exact Blk.lt h.x.k
  · exact h.r.lt e
  · exact h2.lt.2 i e
theorem IsRL.below (h : IsRL w a n R now) (o : Below w.heap.size w w') : IsRL w' a n R now := h.only (Only.of_below (F := fun _ => False) o) (fun _ _ e => e)
theorem IsRL.mono (h : IsRL w a n R now) (k : now ≤ T) : IsRL w a n R T := by
  obtain ⟨g', h1, h2⟩ := h.g
  exact ⟨h.x, ⟨g', h1.mono k, h2⟩, h.r, h.nr⟩
/-- Two lines have nothing in common if their blocks and their raises aren't the same. -/
theorem IsRL.apart (h : IsRL w a n R now) (k : IsRL w b m S now) (hx : a.x ≠ b.x) (hg : a.g ≠ b.g) (hk : a.k ≠ b.k) (hr : ∀ i, a.rv.ownBlock = some i → b.rv.ownBlock ≠ some i ∧ b.gv.ownBlock ≠ some i) {i : Nat} (hi : ownV b i) : ¬ (i = a.x ∨ i = a.g ∨ i = a.k ∨ a.rv.ownBlock = some i) := by
  obtain ⟨c1, g1⟩ := h.gblk
  obtain ⟨c2, g2⟩ := k.gblk
  obtain ⟨L2, s2⟩ := k.gslc
  rintro (rfl | rfl | rfl | e)
  · rcases hi with e | e | e | e | e
    · exact hx e
    · exact h.x.x.ne g2 (by decide) e
    · exact h.x.x.ne k.x.k (by decide) e
    · exact k.r.ne h.x.x (by decide) e
    · exact s2.ne h.x.x (by decide) e
  · rcases hi with e | e | e | e | e
    · exact g1.ne k.x.x (by decide) e
    · exact hg e
    · exact g1.ne k.x.k (by decide) e
    · exact k.r.ne g1 (by decide) e
    · exact s2.ne g1 (by decide) e
  · rcases hi with e | e | e | e | e
    · exact Blk.ne h.x.k k.x.x (by decide) e
    · exact Blk.ne h.x.k g2 (by decide) e
    · exact hk e
    · exact k.r.ne h.x.k (by decide) e
    · exact s2.ne h.x.k (by decide) e
  · rcases hi with rfl | rfl | rfl | e2 | e2
    · exact h.r.ne k.x.x (by decide) e
    · exact h.r.ne g2 (by decide) e
    · exact h.r.ne k.x.k (by decide) e
    · exact (hr _ e).1 e2
    · exact (hr _ e).2 e2
end
theorem slc_ne {w : World} {t1 t2 : TypeId} {z1 z2 n1 n2 : Nat} {v1 v2 : Value} {x1 x2 : List Value} (h : Slc w t1 z1 v1 n1 x1) (k : Slc w t2 z2 v2 n2 x2) (ht : t1 ≠ t2) {j : Nat} (e : v1.ownBlock = some j) (e2 : v2.ownBlock = some j) : False := by
  rcases h.2 with ⟨hv, -⟩ | ⟨g1, o1, c1, cs1, hv, hh, -⟩
  · rw [hv] at e; cases e
  · rcases k.2 with ⟨hv2, -⟩ | ⟨g2, o2, c2, cs2, hv2, hh2, -⟩
    · rw [hv2] at e2; cases e2
    · rw [hv] at e; rw [hv2] at e2
      injection e with e; injection e2 with e2
      subst e
      have : g2 = g1 := e2
      subst this
      rw [hh] at hh2
      injection hh2 with hh2
      injection hh2 with _ t _
      exact ht t
/-- The document's controller. -/
structure IsRI (w : World) (q : Nat) (sv : Value) (av : List Av) (ls : List Ln) (Rs : List (List Int)) (c now : Int) : Prop where
  blk : Blk w q 60 [sv, .int .u64 c]
  row : Slc w 57 1 sv av.length (av.map fun a => .pointer (some ⟨a.x, 0, none⟩))
  len : av.length = ls.length
  lenR : Rs.length = ls.length
  line : ∀ (i : Nat) a n R, av[i]? = some a → ls[i]? = some n → Rs[i]? = some R → IsRL w a n R now
  nx : (av.map (·.x)).Nodup
  ng : (av.map (·.g)).Nodup
  nk : (av.map (·.k)).Nodup
  dr : ∀ (i j : Nat) a b k, av[i]? = some a → av[j]? = some b → a.rv.ownBlock = some k → (b.rv.ownBlock = some k → i = j) ∧ b.gv.ownBlock ≠ some k
def ownR (q : Nat) (sv : Value) (av : List Av) (i : Nat) : Prop := i = q ∨ sv.ownBlock = some i ∨ ∃ a ∈ av, ownV a i
section
variable {w w' : World} {q : Nat} {sv : Value} {av : List Av} {ls : List Ln} {Rs : List (List Int)} {c now T : Int} {F : Nat → Prop}
theorem IsRI.at_ (h : IsRI w q sv av ls Rs c now) {i : Nat} (hi : i < ls.length) : ∃ a n R, av[i]? = some a ∧ ls[i]? = some n ∧ Rs[i]? = some R ∧ IsRL w a n R now := by
  have h1 := h.len
  have h2 := h.lenR
  have h3 : i < av.length := by omega
  have h4 : i < Rs.length := by omega
  exact ⟨_, _, _, List.getElem?_eq_getElem h3, List.getElem?_eq_getElem hi, List.getElem?_eq_getElem h4, h.line i _ _ _ (List.getElem?_eq_getElem h3) (List.getElem?_eq_getElem hi) (List.getElem?_eq_getElem h4)⟩
theorem IsRI.ofAs (h : IsRI w q sv av ls Rs c now) {i : Nat} {a : Av} (ha : av[i]? = some a) : ∃ n R, ls[i]? = some n ∧ Rs[i]? = some R ∧ IsRL w a n R now := by
  have hi := (List.getElem?_eq_some_iff.1 ha).1
  obtain ⟨a', n, R, h1, h2, h3, h4⟩ := h.at_ (i := i) (by have := h.len; omega)
  rw [ha] at h1
  injection h1 with h1
  subst h1
  exact ⟨n, R, h2, h3, h4⟩
theorem IsRI.ofMem (h : IsRI w q sv av ls Rs c now) {a : Av} (ha : a ∈ av) : ∃ n R, IsRL w a n R now := by
  obtain ⟨i, hi⟩ := List.mem_iff_getElem?.1 ha
  obtain ⟨n, R, -, -, h4⟩ := h.ofAs hi
  exact ⟨n, R, h4⟩
theorem IsRI.lt (h : IsRI w q sv av ls Rs c now) {i : Nat} (hi : ownR q sv av i) : i < w.heap.size := by
  rcases hi with rfl | e | ⟨a, ha, e⟩
  · exact h.blk.lt
  · exact h.row.lt e
  · obtain ⟨n, R, k⟩ := h.ofMem ha
    exact k.lt e
theorem IsRI.only (h : IsRI w q sv av ls Rs c now) (o : Only F w w') (hF : ∀ i, F i → ¬ ownR q sv av i) : IsRI w' q sv av ls Rs c now :=
  ⟨h.blk.only o (fun e => hF _ e (.inl rfl)), h.row.only o (fun i e f => hF _ f (.inr (.inl e))), h.len, h.lenR, fun i a n R ha hn hR => (h.line i a n R ha hn hR).only o (fun j hj f => hF _ f (.inr (.inr ⟨a, List.mem_of_getElem? ha, hj⟩))), h.nx, h.ng, h.nk, h.dr⟩
theorem IsRI.below (h : IsRI w q sv av ls Rs c now) (o : Below w.heap.size w w') : IsRI w' q sv av ls Rs c now := h.only (Only.of_below (F := fun _ => False) o) (fun _ e => e.elim)
theorem IsRI.drewN (h : IsRI w q sv av ls Rs c now) (m : Nat) : IsRI (w.drewN m) q sv av ls Rs c now := h.below (Below.drewN' (Below.refl _ _) m)
theorem map_set_eq {α β : Type} {f : α → β} {l : List α} {i : Nat} {a b : α} (h : l[i]? = some a) (e : f b = f a) : (l.set i b).map f = l.map f := by
  apply List.ext_getElem?
  intro j
  simp only [List.getElem?_map]
  by_cases hij : i = j
  · subst hij
    rw [List.getElem?_set_self (List.getElem?_eq_some_iff.1 h).1, h]
    simp [e]
  · rw [List.getElem?_set_ne hij]
theorem nodup_at {α β : Type} {f : α → β} {l : List α} (h : (l.map f).Nodup) {i j : Nat} {a b : α} (hi : l[i]? = some a) (hj : l[j]? = some b) (hne : i ≠ j) : f a ≠ f b := by
  intro e
  have h1 : (l.map f)[i]? = some (f a) := by rw [List.getElem?_map, hi]; rfl
  have h2 : (l.map f)[j]? = some (f b) := by rw [List.getElem?_map, hj]; rfl
  have hl1 := (List.getElem?_eq_some_iff.1 h1).1
  have hl2 := (List.getElem?_eq_some_iff.1 h2).1
  have := (List.getElem?_inj hl1 h).1 (h1.trans (by rw [h2, e]))
  exact hne this
/-- One line is turned. -/
theorem IsRI.turn (h : IsRI w q sv av ls Rs c now) {i : Nat} {a a' : Av} {n' : Ln} {R' : List Int} (ha : av[i]? = some a) (o : Only F w w') (hF : ∀ j, F j → j = a.x ∨ j = a.g ∨ j = a.k ∨ a.rv.ownBlock = some j)
    (hx : a'.x = a.x) (hg : a'.g = a.g) (hk : a'.k = a.k) (hr : ∀ j, a'.rv.ownBlock = some j → a.rv.ownBlock = some j ∨ w.heap.size ≤ j) (hv : ∀ j, a'.gv.ownBlock = some j → a.gv.ownBlock = some j ∨ w.heap.size ≤ j)
    (k : IsRL w' a' n' R' now) : IsRI w' q sv (av.set i a') (ls.set i n') (Rs.set i R') c now := by
  obtain ⟨n, R, hn, hR, hl⟩ := h.ofAs ha
  have hil := (List.getElem?_eq_some_iff.1 ha).1
  have hin := (List.getElem?_eq_some_iff.1 hn).1
  have hiR := (List.getElem?_eq_some_iff.1 hR).1
  have oth : ∀ (j : Nat) b, j ≠ i → av[j]? = some b → ∀ y, ownV b y → ¬ F y := fun j b hji hb y hy f => by
    obtain ⟨m, S, hm, hS, hlb⟩ := h.ofAs hb
    exact hl.apart hlb (nodup_at h.nx ha hb (Ne.symm hji)) (nodup_at h.ng ha hb (Ne.symm hji)) (nodup_at h.nk ha hb (Ne.symm hji)) (fun y e => ⟨fun e2 => hji ((h.dr i j a b y ha hb e).1 e2).symm, (h.dr i j a b y ha hb e).2⟩) hy (hF y f)
  obtain ⟨cg, gb⟩ := hl.gblk
  have blk' : Blk w' q 60 [sv, .int .u64 c] := h.blk.only o (fun f => by
    rcases hF _ f with e | e | e | e
    · exact h.blk.ne hl.x.x (by decide) e
    · exact h.blk.ne gb (by decide) e
    · exact h.blk.ne hl.x.k (by decide) e
    · exact hl.r.ne h.blk (by decide) e)
  have row' := h.row.only o (fun y e f => by
    rcases hF _ f with rfl | rfl | rfl | e2
    · exact h.row.ne hl.x.x (by decide) e
    · exact h.row.ne gb (by decide) e
    · exact h.row.ne hl.x.k (by decide) e
    · rcases h.row.2 with ⟨hv, -⟩ | ⟨g1, o1, c1, cs1, hv, hh, -⟩
      · rw [hv] at e; cases e
      · rcases hl.r.2 with ⟨hv2, -⟩ | ⟨g2, o2, c2, cs2, hv2, hh2, -⟩
        · rw [hv2] at e2; cases e2
        · rw [hv] at e; rw [hv2] at e2
          injection e with e; injection e2 with e2
          subst e
          have : g2 = g1 := e2
          subst this
          rw [hh] at hh2
          injection hh2 with hh2
          injection hh2 with _ t _
          exact absurd t (by decide))
  refine ⟨blk', ?_, by simp [h.len], by simp [h.lenR], ?_, ?_, ?_, ?_, ?_⟩
  · have e : (av.set i a').map (fun a => (.pointer (some ⟨a.x, 0, none⟩) : Value)) = av.map fun a => .pointer (some ⟨a.x, 0, none⟩) := map_set_eq ha (by rw [hx])
    rw [e, List.length_set]
    exact row'
  · intro j b m S hb hm hS
    by_cases e : i = j
    · subst e
      rw [List.getElem?_set_self hil] at hb
      rw [List.getElem?_set_self hin] at hm
      rw [List.getElem?_set_self hiR] at hS
      injection hb with hb; injection hm with hm; injection hS with hS
      subst hb hm hS
      exact k
    · rw [List.getElem?_set_ne e] at hb hm hS
      exact (h.line j b m S hb hm hS).only o (fun y hy => oth j b (Ne.symm e) hb y hy)
  · rw [map_set_eq (f := fun a : Av => a.x) ha hx]; exact h.nx
  · rw [map_set_eq (f := fun a : Av => a.g) ha hg]; exact h.ng
  · rw [map_set_eq (f := fun a : Av => a.k) ha hk]; exact h.nk
  · intro j l b d y hb hd hy
    by_cases e1 : i = j
    · subst e1
      rw [List.getElem?_set_self hil] at hb
      injection hb with hb
      subst hb
      by_cases e2 : i = l
      · subst e2
        rw [List.getElem?_set_self hil] at hd
        injection hd with hd
        subst hd
        exact ⟨fun _ => rfl, k.nr y hy⟩
      · rw [List.getElem?_set_ne e2] at hd
        obtain ⟨m, S, hm, hS, hld⟩ := h.ofAs hd
        rcases hr y hy with h1 | h1
        · exact h.dr i l a d y ha hd h1
        · exact ⟨fun h2 => absurd (hld.lt (.inr (.inr (.inr (.inl h2))))) (by omega), fun h2 => absurd (hld.lt (.inr (.inr (.inr (.inr h2))))) (by omega)⟩
    · rw [List.getElem?_set_ne e1] at hb
      obtain ⟨m, S, hm, hS, hlb⟩ := h.ofAs hb
      have hyl : y < w.heap.size := hlb.lt (.inr (.inr (.inr (.inl hy))))
      by_cases e2 : i = l
      · subst e2
        rw [List.getElem?_set_self hil] at hd
        injection hd with hd
        subst hd
        refine ⟨fun h2 => ?_, fun h2 => ?_⟩
        · rcases hr y h2 with h3 | h3
          · exact ((h.dr j i b a y hb ha hy).1 h3)
          · omega
        · rcases hv y h2 with h3 | h3
          · exact (h.dr j i b a y hb ha hy).2 h3
          · omega
      · rw [List.getElem?_set_ne e2] at hd
        exact h.dr j l b d y hb hd hy
theorem ownR_turn {i : Nat} {a a' : Av} {w : World} (ha : av[i]? = some a) (hx : a'.x = a.x) (hg : a'.g = a.g) (hk : a'.k = a.k) (hr : ∀ j, a'.rv.ownBlock = some j → a.rv.ownBlock = some j ∨ w.heap.size ≤ j) (hv : ∀ j, a'.gv.ownBlock = some j → a.gv.ownBlock = some j ∨ w.heap.size ≤ j) {y : Nat} (h : ownR q sv (av.set i a') y) : ownR q sv av y ∨ w.heap.size ≤ y := by
  rcases h with e | e | ⟨b, hb, e⟩
  · exact .inl (.inl e)
  · exact .inl (.inr (.inl e))
  · rcases List.mem_or_eq_of_mem_set hb with hb | rfl
    · exact .inl (.inr (.inr ⟨b, hb, e⟩))
    · have hm := List.mem_of_getElem? ha
      rcases e with e | e | e | e | e
      · exact .inl (.inr (.inr ⟨a, hm, .inl (e.trans hx)⟩))
      · exact .inl (.inr (.inr ⟨a, hm, .inr (.inl (e.trans hg))⟩))
      · exact .inl (.inr (.inr ⟨a, hm, .inr (.inr (.inl (e.trans hk)))⟩))
      · exact (hr y e).imp (fun h => .inr (.inr ⟨a, hm, .inr (.inr (.inr (.inl h)))⟩)) id
      · exact (hv y e).imp (fun h => .inr (.inr ⟨a, hm, .inr (.inr (.inr (.inr h)))⟩)) id
end
end Go.Proofs.Ytbdhmjlbogjkoaa
