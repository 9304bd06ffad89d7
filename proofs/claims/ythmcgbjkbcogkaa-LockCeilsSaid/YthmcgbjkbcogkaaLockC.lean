/- Layer 23 (lock): what becomes of a keeper when a member comes, turns, or goes; Prio, Held, Know. -/
import Derived.Test.YthmcgbjkbcogkaaLockB
namespace Go.Proofs.Ythmcgbjkbcogkaa
open Go.RowKit
open Go.Maps (Keyed)
set_option linter.unusedVariables false
set_option linter.unusedSimpArgs false
def upd (ms : Int → Option Mm) (i : Int) (m : Mm) : Int → Option Mm := fun j => if j = i then some m else ms j
theorem upd_self (ms : Int → Option Mm) (i : Int) (m : Mm) : upd ms i m i = some m := if_pos rfl
theorem upd_other {ms : Int → Option Mm} {i j : Int} {m : Mm} (h : j ≠ i) : upd ms i m j = ms j := if_neg h
/-- What a function of a keeper does: only its own blocks turn; the blocks that it has more are new. -/
structure Step (w w' : World) (K K' : Kp) (cs : List Int) (ms' : Int → Option Mm) : Prop where
  is : IsK w' K' cs ms'
  k : K'.k = K.k
  only : Only K.all w w'
  new : ∀ g, K'.all g → K.all g ∨ w.heap.size ≤ g
  N : K'.N ≤ K.N + 1
section
variable {w w' : World} {K : Kp} {cs : List Int} {ms : Int → Option Mm}
theorem Step.same (h : IsK w K cs ms) (o : Below w.heap.size w w') : Step w w' K K cs ms := ⟨h.below o, rfl, Only.of_below o, fun g hg => .inl hg, by omega⟩
theorem Step.behind {w0 : World} {K' : Kp} {ms' : Int → Option Mm} (o : Below w0.heap.size w0 w) (s : Step w w' K K' cs ms') : Step w0 w' K K' cs ms' :=
  ⟨s.is, s.k, (Only.of_below (F := K.all) o).trans s.only (fun _ _ h => h), fun g hg => (s.new g hg).imp id (fun h => Nat.le_trans o.size h), s.N⟩
/-- One member turned. -/
theorem IsK.turn (h : IsK w K cs ms) {i : Int} {x : Nat} {m m' : Mm} {v' : Value} (hx : K.f i = some x) (hm : ms i = some m) (o : Only (fun g => g = x ∨ (K.hv i).ownBlock = some g) w w')
    (kx : Blk w' x 58 [.int .i64 m'.prio, v']) (sx : Slc w' 3 1 v' m'.held.length (ints m'.held)) (hv : ∀ g, v'.ownBlock = some g → (K.hv i).ownBlock = some g ∨ w.heap.size ≤ g)
    (hl : m'.held.length ≤ K.N + 1) (hr : ∀ l ∈ m'.held, 0 ≤ l ∧ l < cs.length) (hu : ∀ l ∈ m'.held, ∀ j, j ≠ i → ¬ holds ms j l) (hnd : m'.held.Nodup) (hN : K.N + 1 ≤ 1000) :
    Step w w' K { K with hv := fun j => if j = i then v' else K.hv j, N := K.N + 1 } cs (upd ms i m') := by
  obtain ⟨m0, hm0, kb, sb⟩ := h.mem i x hx
  rw [hm] at hm0
  injection hm0 with hm0
  subst hm0
  have hx2 : (K.f i).isSome := by rw [hx]; rfl
  refine ⟨⟨?_, ?_, ?_, fun j y hy => ?_, fun j hj => ?_, h.inj, fun j j' g hj hj' hg hg' => ?_, fun j mj hj => ?_, h.cl, h.cn, hN, fun j mj l hj hlm => ?_, fun j mj hj => ?_, fun j j' l hj hj' => ?_, fun j mj hj => ?_⟩, rfl, ?_, fun g hg => ?_, Nat.le_refl _⟩
  · exact h.blk.only o fun f => f.elim (fun e => h.blk.ne kb (by decide) e) (fun e => sb.ne h.blk (by decide) e)
  · exact h.row.only o fun g hg f => f.elim (fun e => h.row.ne kb (by decide) (e ▸ hg)) (fun e => h.row.apart sb (by decide) hg e)
  · exact (h.map.only o fun f => f.elim (fun e => h.map.ne kb e) (fun e => h.map.neS sb e)).more (by show K.N ≤ K.N + 1; omega)
  · show ∃ mj, upd ms i m' j = some mj ∧ Blk w' y 58 [.int .i64 mj.prio, if j = i then v' else K.hv j] ∧ Slc w' 3 1 (if j = i then v' else K.hv j) mj.held.length (ints mj.held)
    by_cases e : j = i
    · subst e
      replace hy : K.f j = some y := hy
      rw [hx] at hy
      injection hy with hy
      subst hy
      rw [if_pos rfl]
      exact ⟨m', upd_self _ _ _, kx, sx⟩
    · rw [if_neg e, upd_other e]
      obtain ⟨mj, hmj, kj, sj⟩ := h.mem j y hy
      refine ⟨mj, hmj, kj.only o fun f => f.elim (fun e2 => e (h.inj j i x (by rw [← e2]; exact hy) hx)) (fun e2 => sb.ne kj (by decide) e2), sj.only o fun g hg f => f.elim (fun e2 => sj.ne kb (by decide) (e2 ▸ hg)) (fun e2 => e (h.hinj j i g (by rw [show K.f j = some y from hy]; rfl) hx2 hg e2))⟩
  · by_cases e : j = i
    · subst e
      rw [show K.f j = some x from hx] at hj
      cases hj
    · rw [upd_other e]
      exact h.non j hj
  · replace hg : (if j = i then v' else K.hv j).ownBlock = some g := hg
    replace hg' : (if j' = i then v' else K.hv j').ownBlock = some g := hg'
    by_cases e : j = i
    · by_cases e' : j' = i
      · rw [e, e']
      · rw [if_pos e] at hg
        rw [if_neg e'] at hg'
        rcases hv g hg with h1 | h1
        · rw [e]; exact h.hinj i j' g hx2 hj' h1 hg'
        · have := h.lt (.inr (.inr (.inr ⟨j', .inr ⟨hj', hg'⟩⟩)))
          omega
    · rw [if_neg e] at hg
      by_cases e' : j' = i
      · rw [if_pos e'] at hg'
        rcases hv g hg' with h1 | h1
        · rw [e']; exact h.hinj j i g hj hx2 hg h1
        · have := h.lt (.inr (.inr (.inr ⟨j, .inr ⟨hj, hg⟩⟩)))
          omega
      · rw [if_neg e'] at hg'
        exact h.hinj j j' g hj hj' hg hg'
  · by_cases e : j = i
    · subst e
      rw [upd_self] at hj
      injection hj with hj
      subst hj
      exact hl
    · rw [upd_other e] at hj
      have := h.len j mj hj
      show _ ≤ K.N + 1
      omega
  · by_cases e : j = i
    · subst e
      rw [upd_self] at hj
      injection hj with hj
      subst hj
      exact hr l hlm
    · rw [upd_other e] at hj
      exact h.inr j mj l hj hlm
  · by_cases e : j = i
    · subst e
      exact h.ids j _ hm
    · rw [upd_other e] at hj
      exact h.ids j mj hj
  · obtain ⟨mj, hmj, hlj⟩ := hj
    obtain ⟨mk, hmk, hlk⟩ := hj'
    by_cases e : j = i
    · by_cases e' : j' = i
      · rw [e, e']
      · rw [e, upd_self] at hmj
        injection hmj with hmj
        subst hmj
        rw [upd_other e'] at hmk
        exact absurd ⟨mk, hmk, hlk⟩ (hu l hlj j' e')
    · rw [upd_other e] at hmj
      by_cases e' : j' = i
      · rw [e', upd_self] at hmk
        injection hmk with hmk
        subst hmk
        exact absurd ⟨mj, hmj, hlj⟩ (hu l hlk j e)
      · rw [upd_other e'] at hmk
        exact h.uniq j j' l ⟨mj, hmj, hlj⟩ ⟨mk, hmk, hlk⟩
  · by_cases e : j = i
    · subst e
      rw [upd_self] at hj
      injection hj with hj
      subst hj
      exact hnd
    · rw [upd_other e] at hj
      exact h.nd j mj hj
  · exact o.mono fun g _ hg => hg.elim (fun e => e ▸ .inr (.inr (.inr ⟨i, .inl hx⟩))) (fun e => .inr (.inr (.inr ⟨i, .inr ⟨hx2, e⟩⟩)))
  · rcases hg with hg | hg | hg | ⟨j, hg | ⟨h1, hg⟩⟩
    · exact .inl (.inl hg)
    · exact .inl (.inr (.inl hg))
    · exact .inl (.inr (.inr (.inl hg)))
    · exact .inl (.inr (.inr (.inr ⟨j, .inl hg⟩)))
    · replace hg : (if j = i then v' else K.hv j).ownBlock = some g := hg
      by_cases e : j = i
      · rw [if_pos e] at hg
        rcases hv g hg with h2 | h2
        · exact .inl (.inr (.inr (.inr ⟨i, .inr ⟨hx2, h2⟩⟩)))
        · exact .inr h2
      · rw [if_neg e] at hg
        exact .inl (.inr (.inr (.inr ⟨j, .inr ⟨h1, hg⟩⟩)))
/-- A member is known, anew or again. -/
theorem IsK.know (h : IsK w K cs ms) {i : Int} {x : Nat} {p : Int} (hi : 0 ≤ i ∧ i ≤ 63) (hx : w.heap.size ≤ x) (o : Only (fun g => g = K.mb) w w') (hmap : MapIs w' K.mb (K.N + 1) (fun j => if j = i then some x else K.f j))
    (kx : Blk w' x 58 [.int .i64 p, .slice none 0 0]) (hN : K.N + 1 ≤ 1000) :
    Step w w' K { K with f := fun j => if j = i then some x else K.f j, hv := fun j => if j = i then .slice none 0 0 else K.hv j, N := K.N + 1 } cs (upd ms i ⟨p, []⟩) := by
  have fresh : ∀ j, K.f j ≠ some x := fun j hj => by have := h.lt (.inr (.inr (.inr ⟨j, .inl hj⟩))); omega
  refine ⟨⟨?_, ?_, hmap, fun j y hy => ?_, fun j hj => ?_, fun j j' y hj hj' => ?_, fun j j' g hj hj' hg hg' => ?_, fun j mj hj => ?_, h.cl, h.cn, hN, fun j mj l hj hlm => ?_, fun j mj hj => ?_, fun j j' l hj hj' => ?_, fun j mj hj => ?_⟩, rfl, ?_, fun g hg => ?_, Nat.le_refl _⟩
  · exact h.blk.only o fun f => h.map.ne h.blk f.symm
  · exact h.row.only o fun g hg f => h.map.neS h.row (by rw [hg, f])
  · show ∃ mj, upd ms i ⟨p, []⟩ j = some mj ∧ Blk w' y 58 [.int .i64 mj.prio, if j = i then .slice none 0 0 else K.hv j] ∧ Slc w' 3 1 (if j = i then .slice none 0 0 else K.hv j) mj.held.length (ints mj.held)
    replace hy : (if j = i then some x else K.f j) = some y := hy
    by_cases e : j = i
    · rw [if_pos e] at hy
      injection hy with hy
      subst hy
      rw [if_pos e, e, upd_self]
      exact ⟨_, rfl, kx, Slc.nil _ _ _⟩
    · rw [if_neg e] at hy
      rw [if_neg e, upd_other e]
      obtain ⟨mj, hmj, kj, sj⟩ := h.mem j y hy
      exact ⟨mj, hmj, kj.only o fun f => h.map.ne kj f.symm, sj.only o fun g hg f => h.map.neS sj (by rw [hg, f])⟩
  · replace hj : (if j = i then some x else K.f j) = none := hj
    by_cases e : j = i
    · rw [if_pos e] at hj
      cases hj
    · rw [if_neg e] at hj
      rw [upd_other e]
      exact h.non j hj
  · replace hj : (if j = i then some x else K.f j) = some y := hj
    replace hj' : (if j' = i then some x else K.f j') = some y := hj'
    by_cases e : j = i
    · by_cases e' : j' = i
      · rw [e, e']
      · rw [if_pos e] at hj
        injection hj with hj
        subst hj
        rw [if_neg e'] at hj'
        exact absurd hj' (fresh j')
    · rw [if_neg e] at hj
      by_cases e' : j' = i
      · rw [if_pos e'] at hj'
        injection hj' with hj'
        subst hj'
        exact absurd hj (fresh j)
      · rw [if_neg e'] at hj'
        exact h.inj j j' y hj hj'
  · replace hg : (if j = i then (.slice none 0 0 : Value) else K.hv j).ownBlock = some g := hg
    replace hg' : (if j' = i then (.slice none 0 0 : Value) else K.hv j').ownBlock = some g := hg'
    replace hj : (if j = i then some x else K.f j).isSome := hj
    replace hj' : (if j' = i then some x else K.f j').isSome := hj'
    by_cases e : j = i
    · rw [if_pos e] at hg
      simp [Value.ownBlock] at hg
    · by_cases e' : j' = i
      · rw [if_pos e'] at hg'
        simp [Value.ownBlock] at hg'
      · rw [if_neg e] at hg hj
        rw [if_neg e'] at hg' hj'
        exact h.hinj j j' g hj hj' hg hg'
  · by_cases e : j = i
    · subst e
      rw [upd_self] at hj
      injection hj with hj
      subst hj
      exact Nat.zero_le _
    · rw [upd_other e] at hj
      have := h.len j mj hj
      show _ ≤ K.N + 1
      omega
  · by_cases e : j = i
    · subst e
      rw [upd_self] at hj
      injection hj with hj
      subst hj
      cases hlm
    · rw [upd_other e] at hj
      exact h.inr j mj l hj hlm
  · by_cases e : j = i
    · rw [e]; exact hi
    · rw [upd_other e] at hj
      exact h.ids j mj hj
  · obtain ⟨mj, hmj, hlj⟩ := hj
    obtain ⟨mk, hmk, hlk⟩ := hj'
    by_cases e : j = i
    · rw [e, upd_self] at hmj
      injection hmj with hmj
      subst hmj
      cases hlj
    · by_cases e' : j' = i
      · rw [e', upd_self] at hmk
        injection hmk with hmk
        subst hmk
        cases hlk
      · rw [upd_other e] at hmj
        rw [upd_other e'] at hmk
        exact h.uniq j j' l ⟨mj, hmj, hlj⟩ ⟨mk, hmk, hlk⟩
  · by_cases e : j = i
    · subst e
      rw [upd_self] at hj
      injection hj with hj
      subst hj
      exact List.nodup_nil
    · rw [upd_other e] at hj
      exact h.nd j mj hj
  · exact o.mono fun g _ hg => .inr (.inl hg)
  · rcases hg with hg | hg | hg | ⟨j, hg | ⟨h1, hg⟩⟩
    · exact .inl (.inl hg)
    · exact .inl (.inr (.inl hg))
    · exact .inl (.inr (.inr (.inl hg)))
    · replace hg : (if j = i then some x else K.f j) = some g := hg
      by_cases e : j = i
      · rw [if_pos e] at hg
        injection hg with hg
        exact .inr (by omega)
      · rw [if_neg e] at hg
        exact .inl (.inr (.inr (.inr ⟨j, .inl hg⟩)))
    · replace hg : (if j = i then (.slice none 0 0 : Value) else K.hv j).ownBlock = some g := hg
      replace h1 : (if j = i then some x else K.f j).isSome := h1
      by_cases e : j = i
      · rw [if_pos e] at hg
        simp [Value.ownBlock] at hg
      · rw [if_neg e] at hg h1
        exact .inl (.inr (.inr (.inr ⟨j, .inr ⟨h1, hg⟩⟩)))
/-- A member isn't known any more. -/
def without (ms : Int → Option Mm) (i : Int) : Int → Option Mm := fun j => if j = i then none else ms j
theorem without_some {i j : Int} {m : Mm} (h : without ms i j = some m) : j ≠ i ∧ ms j = some m := by
  unfold without at h
  by_cases e : j = i
  · rw [if_pos e] at h; cases h
  · rw [if_neg e] at h; exact ⟨e, h⟩
theorem IsK.gone (h : IsK w K cs ms) {i : Int} (o : Only (fun g => g = K.mb) w w') (hmap : MapIs w' K.mb K.N (fun j => if j = i then none else K.f j)) :
    Step w w' K { K with f := fun j => if j = i then none else K.f j } cs (without ms i) := by
  have old : ∀ j y, (if j = i then none else K.f j) = some y → j ≠ i ∧ K.f j = some y := fun j y hy => by
    by_cases e : j = i
    · rw [if_pos e] at hy; cases hy
    · rw [if_neg e] at hy; exact ⟨e, hy⟩
  have olds : ∀ j, (if j = i then none else K.f j).isSome → (K.f j).isSome := fun j hj => by
    obtain ⟨y, hy⟩ := Option.isSome_iff_exists.1 hj
    rw [(old j y hy).2]; rfl
  refine ⟨⟨?_, ?_, hmap, fun j y hy => ?_, fun j hj => ?_, fun j j' y hj hj' => h.inj j j' y (old _ _ hj).2 (old _ _ hj').2, fun j j' g hj hj' hg hg' => h.hinj j j' g (olds _ hj) (olds _ hj') hg hg', fun j mj hj => h.len j mj (without_some hj).2, h.cl, h.cn, h.nn, fun j mj l hj hlm => h.inr j mj l (without_some hj).2 hlm, fun j mj hj => h.ids j mj (without_some hj).2,
    fun j j' l ⟨mj, hmj, hlj⟩ ⟨mq, hmk, hlk⟩ => h.uniq j j' l ⟨mj, (without_some hmj).2, hlj⟩ ⟨mq, (without_some hmk).2, hlk⟩, fun j mj hj => h.nd j mj (without_some hj).2⟩, rfl, ?_, fun g hg => ?_, by show K.N ≤ K.N + 1; omega⟩
  · exact h.blk.only o fun f => h.map.ne h.blk f.symm
  · exact h.row.only o fun g hg f => h.map.neS h.row (by rw [hg, f])
  · obtain ⟨e, hy⟩ := old j y hy
    obtain ⟨mj, hmj, kj, sj⟩ := h.mem j y hy
    exact ⟨mj, by unfold without; rw [if_neg e]; exact hmj, kj.only o fun f => h.map.ne kj f.symm, sj.only o fun g hg f => h.map.neS sj (by rw [hg, f])⟩
  · unfold without
    by_cases e : j = i
    · rw [if_pos e]
    · rw [if_neg e]
      exact h.non j (by replace hj : (if j = i then none else K.f j) = none := hj; rw [if_neg e] at hj; exact hj)
  · exact o.mono fun g _ hg => .inr (.inl hg)
  · rcases hg with hg | hg | hg | ⟨j, hg | ⟨h1, hg⟩⟩
    · exact .inl (.inl hg)
    · exact .inl (.inr (.inl hg))
    · exact .inl (.inr (.inr (.inl hg)))
    · exact .inl (.inr (.inr (.inr ⟨j, .inl (old _ _ hg).2⟩)))
    · exact .inl (.inr (.inr (.inr ⟨j, .inr ⟨olds _ h1, hg⟩⟩)))
end
end Go.Proofs.Ythmcgbjkbcogkaa
