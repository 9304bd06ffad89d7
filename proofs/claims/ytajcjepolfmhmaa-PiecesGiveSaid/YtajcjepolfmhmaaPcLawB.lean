/- Layer 8 (pieces): the plain law of what is given. -/
import Derived.Test.YtajcjepolfmhmaaPcLaw
namespace Go.Proofs.Ytajcjepolfmhmaa
open Go.RowKit
set_option linter.unusedVariables false
set_option linter.unusedSimpArgs false
theorem ownerQ_of {bs : List Bf} {s g : Int} {i : Nat} {b : Bf} (h : look bs s g = some (i, b)) : ownerQ s g bs = (b.own, b.refs, 0) := by unfold ownerQ; rw [h]
/-- Handles that are of somebody: none of them is free. -/
def hasH (bs : List Bf) (h : Hd) : Prop := ∃ i b, look bs h.1 h.2 = some (i, b)
theorem hasH_alike {bs bs' : List Bf} (h : Alike bs bs') {x : Hd} (hx : hasH bs x) : hasH bs' x := by
  obtain ⟨i, b, e⟩ := hx
  have hl := look_alike h x.1 x.2
  rw [e] at hl
  cases h2 : look bs' x.1 x.2 with
  | none => rw [h2] at hl; cases hl
  | some jc => exact ⟨jc.1, jc.2, h2⟩
theorem give_one {bs : List Bf} {f t : Int} (hf : mayOwn f = true) (ht : mayOwn t = true) (hft : f ≠ t) (y : Hd) (hy : hasH bs y) :
    Alike bs (giveQ y.1 y.2 f t bs).2 ∧ (∀ b ∈ bs, b.bytes.length ≤ 65536 → True) ∧
    ((ownerQ y.1 y.2 bs).1 = f ∨ (ownerQ y.1 y.2 bs).1 = t → (ownerQ y.1 y.2 (giveQ y.1 y.2 f t bs).2).1 = t) ∧
    ∀ x, hasH bs x → (ownerQ x.1 x.2 (giveQ y.1 y.2 f t bs).2).1 = (ownerQ x.1 x.2 bs).1 ∨ ((ownerQ x.1 x.2 bs).1 = f ∧ (ownerQ x.1 x.2 (giveQ y.1 y.2 f t bs).2).1 = t) := by
  obtain ⟨i, b, k1⟩ := hy
  obtain ⟨e1, e2, e3, e4, e5⟩ := look_some k1
  have hm1 := mayOwn_iff.1 hf
  have hm2 := mayOwn_iff.1 ht
  by_cases ho : b.own = f
  · have hw : (giveQ y.1 y.2 f t bs).2 = bs.set i { b with own := t } := by
      unfold giveQ
      rw [k1]
      simp only
      unfold giveB
      rw [if_neg (by rw [hf, ht]; simp [hft]), if_neg (fun h => h ho)]
    rw [hw]
    have hset := look_set (b' := { b with own := t }) e3 rfl (by simp only; omega)
    have hsl : look (bs.set i { b with own := t }) y.1 y.2 = some (i, { b with own := t }) := by rw [hset, if_pos e1, k1]; rfl
    refine ⟨Alike.set e3 (by simp only [shp]; rw [decide_eq_decide.2 (show t = 0 ↔ b.own = 0 by omega)]), fun _ _ _ => trivial, fun _ => by rw [ownerQ_of hsl], fun x hx => ?_⟩
    obtain ⟨j, c, h1⟩ := hx
    obtain ⟨f1, f2, f3, f4, f5⟩ := look_some h1
    by_cases e : x.1 = (i : Int)
    · have hij : j = i := by omega
      subst hij
      rw [e3] at f3
      injection f3 with f3
      subst f3
      refine .inr ⟨by rw [ownerQ_of h1]; exact ho, ?_⟩
      rw [ownerQ_of (i := j) (b := { b with own := t }) (by rw [hset, if_pos e, h1]; rfl)]
    · exact .inl (by unfold ownerQ; rw [hset, if_neg e])
  · have hw : (giveQ y.1 y.2 f t bs).2 = bs.set i b := by
      unfold giveQ
      rw [k1]
      simp only
      unfold giveB
      rw [if_neg (by rw [hf, ht]; simp [hft]), if_pos ho]
    have hsame : bs.set i b = bs := by
      apply List.ext_getElem?
      intro j
      by_cases e : i = j
      · subst e; rw [List.getElem?_set_self e2, e3]
      · rw [List.getElem?_set_ne e]
    rw [hw, hsame]
    exact ⟨Alike.refl _, fun _ _ _ => trivial, fun h => by rw [ownerQ_of k1] at h ⊢; simp only at h ⊢; rcases h with h | h <;> first | exact absurd h ho | exact h, fun x hx => .inl rfl⟩
theorem giveUp_spec {bs : List Bf} {f t : Int} (hf : mayOwn f = true) (ht : mayOwn t = true) (hft : f ≠ t) (hs : List Hd) (hh : ∀ h ∈ hs, hasH bs h ∧ (ownerQ h.1 h.2 bs).1 = f) : ∀ k, k ≤ hs.length →
    Alike bs (giveUp f t hs bs k) ∧ ∀ (j : Nat) h, hs[j]? = some h → hasH (giveUp f t hs bs k) h ∧ ((ownerQ h.1 h.2 (giveUp f t hs bs k)).1 = f ∨ (ownerQ h.1 h.2 (giveUp f t hs bs k)).1 = t) ∧ (j < k → (ownerQ h.1 h.2 (giveUp f t hs bs k)).1 = t) := by
  intro k
  induction k with
  | zero => exact fun _ => ⟨Alike.refl _, fun j h hj => ⟨(hh h (List.mem_of_getElem? hj)).1, .inl (hh h (List.mem_of_getElem? hj)).2, fun h => absurd h (by omega)⟩⟩
  | succ k ih =>
    intro hk
    obtain ⟨i1, i2⟩ := ih (by omega)
    obtain ⟨y, hy⟩ : ∃ y, hs[k]? = some y := ⟨_, List.getElem?_eq_getElem (by omega)⟩
    have e : giveUp f t hs bs (k + 1) = (giveQ y.1 y.2 f t (giveUp f t hs bs k)).2 := by simp only [giveUp, hy]
    rw [e]
    obtain ⟨j1, j2, j3⟩ := i2 k y hy
    obtain ⟨g1, -, g2, g3⟩ := give_one hf ht hft y j1
    refine ⟨i1.trans g1, fun j h hj => ?_⟩
    obtain ⟨k1, k2, k3⟩ := i2 j h hj
    have k4 := g3 h k1
    refine ⟨hasH_alike g1 k1, ?_, fun hjk => ?_⟩
    · rcases k4 with k4 | k4
      · rw [k4]; exact k2
      · exact .inr k4.2
    · by_cases e : j = k
      · subst e
        rw [hy] at hj
        injection hj with hj
        subst hj
        exact g2 j2
      · have := k3 (by omega)
        rcases k4 with k4 | k4
        · rw [k4]; exact this
        · exact k4.2
theorem bufsUp_mem (ps : List Pc) : ∀ k, k ≤ ps.length → (∀ h ∈ bufsUp ps k, ∃ x ∈ ps, h = (x.s, x.g)) ∧ ∀ (j : Nat) x, j < k → ps[j]? = some x → (x.s, x.g) ∈ bufsUp ps k := by
  intro k
  induction k with
  | zero => exact fun _ => ⟨fun h hh => (by cases hh), fun j x hj => absurd hj (by omega)⟩
  | succ k ih =>
    intro hk
    obtain ⟨i1, i2⟩ := ih (by omega)
    obtain ⟨y, hy⟩ : ∃ y, ps[k]? = some y := ⟨_, List.getElem?_eq_getElem (by omega)⟩
    simp only [bufsUp, hy]
    split
    · rename_i hc
      refine ⟨i1, fun j x hj hx => ?_⟩
      by_cases e : j = k
      · subst e
        rw [hy] at hx
        injection hx with hx
        subst hx
        simpa using hc
      · exact i2 j x (by omega) hx
    · refine ⟨fun h hh => ?_, fun j x hj hx => ?_⟩
      · rcases List.mem_append.1 hh with hh | hh
        · exact i1 h hh
        · simp at hh
          exact ⟨y, List.mem_of_getElem? hy, hh⟩
      · by_cases e : j = k
        · subst e
          rw [hy] at hx
          injection hx with hx
          subst hx
          simp
        · exact List.mem_append_left _ (i2 j x (by omega) hx)
theorem hasH_of {bs : List Bf} {x : Pc} (h : may1 bs x = true) : hasH bs (x.s, x.g) := by
  obtain ⟨i, b, e, -⟩ := may1_of h
  exact ⟨i, b, e⟩
theorem notBy_iff {bs : List Bf} {x : Pc} {o : Int} (h : hasH bs (x.s, x.g)) : notBy bs o x = false ↔ (ownerQ x.s x.g bs).1 = o := by
  obtain ⟨i, b, e⟩ := h
  unfold notBy
  rw [ownerQ_of e]
  simp
/-- All were given: all are the new one's. -/
theorem give_all {bs : List Bf} {ps : List Pc} {f t : Int} (hf : mayOwn f = true) (ht : mayOwn t = true) (hft : f ≠ t) (h : mayL bs ps) (ha : allB bs ps f = true) :
    Alike bs (giveUp f t (bufsUp ps ps.length) bs (bufsUp ps ps.length).length) ∧ ∀ x ∈ ps, (ownerQ x.s x.g (giveUp f t (bufsUp ps ps.length) bs (bufsUp ps ps.length).length)).1 = t ∧ (ownerQ x.s x.g (giveUp f t (bufsUp ps ps.length) bs (bufsUp ps ps.length).length)).2.2 = 0 := by
  obtain ⟨b1, b2⟩ := bufsUp_mem ps ps.length (Nat.le_refl _)
  have hx1 : ∀ x ∈ ps, hasH bs (x.s, x.g) := fun x hx => by
    obtain ⟨j, hj⟩ := List.mem_iff_getElem?.1 hx
    exact hasH_of (mayL_at h hj)
  obtain ⟨g1, g2⟩ := giveUp_spec (bs := bs) hf ht hft (bufsUp ps ps.length) (fun h hh => by
    obtain ⟨x, hx, rfl⟩ := b1 h hh
    exact ⟨hx1 x hx, (notBy_iff (hx1 x hx)).1 (allB_at ha hx)⟩) _ (Nat.le_refl _)
  refine ⟨g1, fun x hx => ?_⟩
  obtain ⟨j, hj⟩ := List.mem_iff_getElem?.1 hx
  have hm := b2 j x (List.getElem?_eq_some_iff.1 hj).1 hj
  obtain ⟨i, hi⟩ := List.mem_iff_getElem?.1 hm
  obtain ⟨k1, -, k3⟩ := g2 i _ hi
  refine ⟨k3 (List.getElem?_eq_some_iff.1 hi).1, ?_⟩
  obtain ⟨i', b', e'⟩ := k1
  simp only at e'
  rw [ownerQ_of e']
theorem not_all {bs : List Bf} {ps : List Pc} {o : Int} (h : mayL bs ps) (ho : ∀ x ∈ ps, (ownerQ x.s x.g bs).1 ≠ o) : allB bs ps o = false := by
  obtain ⟨x, hx⟩ : ∃ x, ps[0]? = some x := ⟨_, List.getElem?_eq_getElem h.2.1⟩
  have hm := List.mem_of_getElem? hx
  cases ha : allB bs ps o with
  | false => rfl
  | true => exact absurd ((notBy_iff (hasH_of (mayL_at h hx))).1 (allB_at ha hm)) (ho x hm)
theorem is_all {bs : List Bf} {ps : List Pc} {o : Int} (h : mayL bs ps) (ho : ∀ x ∈ ps, (ownerQ x.s x.g bs).1 = o) : allB bs ps o = true := by
  refine allB_of fun x hx => ?_
  obtain ⟨j, hj⟩ := List.mem_iff_getElem?.1 hx
  exact (notBy_iff (hasH_of (mayL_at h hj))).2 (ho x hx)
theorem all_own {bs : List Bf} {ps : List Pc} {o : Int} (h : mayL bs ps) (ha : allB bs ps o = true) : ∀ x ∈ ps, (ownerQ x.s x.g bs).1 = o := fun x hx => by
  obtain ⟨j, hj⟩ := List.mem_iff_getElem?.1 hx
  exact (notBy_iff (hasH_of (mayL_at h hj))).1 (allB_at ha hx)
end Go.Proofs.Ytajcjepolfmhmaa
