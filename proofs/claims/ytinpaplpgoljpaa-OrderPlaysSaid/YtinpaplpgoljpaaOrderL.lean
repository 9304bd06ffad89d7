/- Layer 18 (order): what the next one is, in plain words. -/
import Derived.Test.YtinpaplpgoljpaaOrderI
namespace Go.Proofs.Ytinpaplpgoljpaa
open Go.RowKit
set_option linter.unusedVariables false
set_option linter.unusedSimpArgs false
theorem Fine.ids {l : List Wt} (h : Fine l) {a b : Wt} (ha : a ∈ l) (hb : b ∈ l) (e : a.id = b.id) : a = b := by
  induction l with
  | nil => cases ha
  | cons x r ih =>
    unfold Fine at h
    rw [List.pairwise_cons] at h
    rcases List.mem_cons.1 ha with rfl | ha' <;> rcases List.mem_cons.1 hb with rfl | hb'
    · rfl
    · exact absurd e (h.1 b hb').2
    · exact absurd e.symm (h.1 a ha').2
    · exact ih h.2 ha' hb'
theorem erase_filter : ∀ {l : List Wt} {i : Nat} {x : Wt}, Fine l → l[i]? = some x → l.eraseIdx i = l.filter (fun y => !(y.id == x.id))
  | [], i, x, _, h => by simp at h
  | y :: r, 0, x, hf, h => by
    simp at h
    subst h
    unfold Fine at hf
    rw [List.pairwise_cons] at hf
    simp only [List.eraseIdx_zero, List.tail_cons, List.filter_cons, beq_self_eq_true, Bool.not_true, Bool.false_eq_true, if_false]
    exact (List.filter_eq_self.2 fun z hz => by have := (hf.1 z hz).2; simp; exact fun e => this e.symm).symm
  | y :: r, i + 1, x, hf, h => by
    unfold Fine at hf
    rw [List.pairwise_cons] at hf
    have hx : x ∈ r := List.mem_of_getElem? (by simpa using h)
    have := (hf.1 x hx).2
    rw [List.eraseIdx_cons_succ, List.filter_cons, if_pos (by simpa using this), erase_filter hf.2 (by simpa using h)]
theorem drop_mem {l : List Wt} {x : Wt} (h : Fine l) (hx : x ∈ l) : dropF l x.id = (0, l.filter (fun y => !(y.id == x.id))) ∧ (l.filter (fun y => !(y.id == x.id))).length + 1 = l.length := by
  rcases idxB_cases (fun y => y.id == x.id) l with ⟨-, hno⟩ | ⟨i, e, hi⟩
  · have := hno x hx; simp at this
  · obtain ⟨z, hz, hp, -⟩ := idxB_some e
    have : z = x := h.ids (List.mem_of_getElem? hz) hx (by simpa using hp)
    subst this
    have ee := erase_filter h hz
    refine ⟨?_, ?_⟩
    · unfold dropF
      rw [if_neg (by rw [e]; omega), e, Int.toNat_natCast, ee]
    · rw [← ee, List.length_eraseIdx, if_pos hi]; omega
theorem dead0_le {l : List Wt} (h : Fine l) {y : Wt} (hy : y ∈ l) : dead0 l ≤ y.dead := by
  cases l with
  | nil => cases hy
  | cons x r =>
    unfold Fine at h
    rw [List.pairwise_cons] at h
    show x.dead ≤ y.dead
    rcases List.mem_cons.1 hy with rfl | hy
    · exact Int.le_refl _
    · have := (h.1 y hy).1; unfold ltW at this; omega
theorem mem_tw {P : Wt → Bool} {y : Wt} : ∀ {l : List Wt}, y ∈ l.takeWhile P → y ∈ l ∧ P y = true
  | [], h => by simp at h
  | x :: r, h => by
    rw [List.takeWhile_cons] at h
    split at h
    · rename_i hp
      rcases List.mem_cons.1 h with rfl | h
      · exact ⟨List.mem_cons_self .., hp⟩
      · exact ⟨List.mem_cons_of_mem _ (mem_tw h).1, (mem_tw h).2⟩
    · cases h
theorem tw_sorted {D : Int} : ∀ {l : List Wt}, Fine l → (∀ y ∈ l, D ≤ y.dead) → ∀ y ∈ l, y.dead = D → y ∈ l.takeWhile (fun x => x.dead == D)
  | [], _, _, y, hy, _ => by cases hy
  | x :: r, hf, hd, y, hy, e => by
    unfold Fine at hf
    rw [List.pairwise_cons] at hf
    have hx : x.dead = D := by
      rcases List.mem_cons.1 hy with rfl | hy
      · exact e
      · have := (hf.1 y hy).1; have := hd x (List.mem_cons_self ..); unfold ltW at *; omega
    rw [List.takeWhile_cons, if_pos (by simpa using hx)]
    rcases List.mem_cons.1 hy with rfl | hy
    · exact List.mem_cons_self ..
    · exact List.mem_cons_of_mem _ (tw_sorted hf.2 (fun z hz => hd z (List.mem_cons_of_mem _ hz)) y hy e)
theorem mem_group {l : List Wt} (h : Fine l) {y : Wt} : y ∈ groupF l ↔ y ∈ l ∧ y.dead = dead0 l := by
  constructor
  · intro hy
    have := mem_tw hy
    exact ⟨this.1, by simpa using this.2⟩
  · rintro ⟨hy, e⟩
    exact tw_sorted h (fun z hz => dead0_le h hz) y hy e
theorem group_fine {l : List Wt} (h : Fine l) : Fine (groupF l) := h.sublist (List.takeWhile_sublist _)
/-- What above tells. -/
theorem above_some {h : Int} {l : List Wt} (f : Fine l) (hd : ∀ x ∈ l, ∀ y ∈ l, x.dead = y.dead) (he : (aboveF h l).2 = true) : (aboveF h l).1 ∈ l ∧ h ≤ (aboveF h l).1.track ∧ ∀ y ∈ l, h ≤ y.track → (aboveF h l).1.track ≤ y.track ∧ (y.track = (aboveF h l).1.track → (aboveF h l).1.id ≤ y.id) := by
  unfold aboveF at he ⊢
  cases e : l.find? (fun x => decide (h ≤ x.track)) with
  | none => rw [e] at he; simp at he
  | some x =>
    simp only
    obtain ⟨hp, la, lb, hl, hno⟩ := List.find?_eq_some_iff_append.1 e
    have hx : x ∈ l := by rw [hl]; simp
    refine ⟨hx, of_decide_eq_true hp, fun y hy ht => ?_⟩
    rw [hl] at hy f
    rcases List.mem_append.1 hy with hy | hy
    · have := hno y hy; simp at this; omega
    · rcases List.mem_cons.1 hy with rfl | hy'
      · exact ⟨Int.le_refl _, fun _ => Int.le_refl _⟩
      · have h1 := (List.pairwise_cons.1 (List.pairwise_append.1 f).2.1).1 y hy'
        have h2 := hd x hx y (by rw [hl]; exact List.mem_append_right _ hy)
        unfold ltW at h1
        omega
theorem above_none {h : Int} {l : List Wt} (he : (aboveF h l).2 = false) : ∀ y ∈ l, y.track < h := by
  unfold aboveF at he
  cases e : l.find? (fun x => decide (h ≤ x.track)) with
  | none =>
    intro y hy
    have := List.find?_eq_none.1 e y hy
    simp at this
    exact this
  | some x => rw [e] at he; simp at he
theorem below_fold {h : Int} : ∀ (l : List Wt) (b : Wt), (∀ x ∈ l, ∀ y ∈ l, x.dead = y.dead) → Fine l → (b.track = -1 ∨ (b.track ≤ h ∧ ∀ y ∈ l, y.track = b.track → b.id ≤ y.id)) → 
    (l.foldl (stepB h) b = b ∨ (l.foldl (stepB h) b ∈ l ∧ (l.foldl (stepB h) b).track ≤ h ∧ b.track < (l.foldl (stepB h) b).track)) ∧ b.track ≤ (l.foldl (stepB h) b).track ∧
      ∀ y ∈ l, 0 ≤ y.track → y.track ≤ h → y.track ≤ (l.foldl (stepB h) b).track ∧ (y.track = (l.foldl (stepB h) b).track → (l.foldl (stepB h) b).id ≤ y.id)
  | [], b, _, _, _ => ⟨.inl rfl, Int.le_refl _, fun y hy => by cases hy⟩
  | x :: r, b, hd, hf, hb => by
    have hf' := hf
    unfold Fine at hf'
    rw [List.pairwise_cons] at hf'
    have hxr : ∀ y ∈ r, y.track = x.track → x.id ≤ y.id := fun y hy e => by
      have h1 := (hf'.1 y hy).1
      have h2 := hd x (List.mem_cons_self ..) y (List.mem_cons_of_mem _ hy)
      unfold ltW at h1; omega
    have hd' : ∀ x ∈ r, ∀ y ∈ r, x.dead = y.dead := fun a ha c hc => hd a (List.mem_cons_of_mem _ ha) c (List.mem_cons_of_mem _ hc)
    rw [List.foldl_cons]
    by_cases hs : x.track ≤ h ∧ b.track < x.track
    · have e : stepB h b x = x := if_pos hs
      rw [e]
      obtain ⟨p1, p2, p3⟩ := below_fold r x hd' hf'.2 (.inr ⟨hs.1, hxr⟩)
      generalize r.foldl (stepB h) x = z at *
      refine ⟨.inr ?_, by omega, fun y hy y0 yh => ?_⟩
      · rcases p1 with rfl | ⟨p, q, s⟩
        · exact ⟨List.mem_cons_self .., hs.1, hs.2⟩
        · exact ⟨List.mem_cons_of_mem _ p, q, by omega⟩
      · rcases List.mem_cons.1 hy with rfl | hy
        · refine ⟨p2, fun e => ?_⟩
          rcases p1 with rfl | ⟨p, q, s⟩
          · exact Int.le_refl _
          · omega
        · exact p3 y hy y0 yh
    · have e : stepB h b x = b := if_neg hs
      rw [e]
      obtain ⟨p1, p2, p3⟩ := below_fold r b hd' hf'.2 (hb.imp_right fun h => ⟨h.1, fun y hy => h.2 y (List.mem_cons_of_mem _ hy)⟩)
      generalize r.foldl (stepB h) b = z at *
      refine ⟨p1.imp_right fun h => ⟨List.mem_cons_of_mem _ h.1, h.2⟩, p2, fun y hy y0 yh => ?_⟩
      rcases List.mem_cons.1 hy with rfl | hy
      · have : y.track ≤ b.track := by
          rcases Int.lt_or_le b.track y.track with h | h
          · exact absurd ⟨yh, h⟩ hs
          · exact h
        refine ⟨by omega, fun ey => ?_⟩
        rcases p1 with rfl | ⟨p, q, s⟩
        · rcases hb with hb | hb
          · omega
          · exact hb.2 y (List.mem_cons_self ..) ey
        · omega
      · exact p3 y hy y0 yh
/-- What below tells. -/
theorem below_spec {h : Int} {l : List Wt} (f : Fine l) (hd : ∀ x ∈ l, ∀ y ∈ l, x.dead = y.dead) (ht : ∀ x ∈ l, 0 ≤ x.track) :
    (0 ≤ (belowF h l).track → belowF h l ∈ l ∧ (belowF h l).track ≤ h) ∧ ∀ y ∈ l, y.track ≤ h → 0 ≤ (belowF h l).track ∧ y.track ≤ (belowF h l).track ∧ (y.track = (belowF h l).track → (belowF h l).id ≤ y.id) := by
  obtain ⟨p1, p2, p3⟩ := below_fold (h := h) l ⟨0, 0, -1⟩ hd f (.inl rfl)
  unfold belowF
  generalize l.foldl (stepB h) ⟨0, 0, -1⟩ = z at *
  refine ⟨fun hz => ?_, fun y hy yh => ?_⟩
  · rcases p1 with rfl | p1
    · simp at hz
    · exact ⟨p1.1, p1.2.1⟩
  · have := p3 y hy (ht y hy) yh
    exact ⟨by have := ht y hy; omega, this⟩
/-- What the next one is. -/
structure Nxt (l : List Wt) (h : Int) (d : Bool) (x : Wt) (dn : Bool) : Prop where
  eq : nextF l h d = (x, dn, 0)
  mem : x ∈ l
  least : ∀ y ∈ l, x.dead ≤ y.dead
  up : dn = false → h ≤ x.track ∧ ∀ y ∈ l, y.dead = x.dead → h ≤ y.track → x.track ≤ y.track ∧ (y.track = x.track → x.id ≤ y.id)
  down : dn = true → x.track ≤ h ∧ ∀ y ∈ l, y.dead = x.dead → y.track ≤ h → y.track ≤ x.track ∧ (y.track = x.track → x.id ≤ y.id)
  turnD : d = false → dn = true → ∀ y ∈ l, y.dead = x.dead → y.track < h
  turnU : d = true → dn = false → ∀ y ∈ l, y.dead = x.dead → h < y.track
theorem next_spec {l : List Wt} (f : Fine l) (hl : l ≠ []) (ht : ∀ x ∈ l, 0 ≤ x.track) (h : Int) (d : Bool) : ∃ x dn, Nxt l h d x dn := by
  have gf := group_fine f
  have gd : ∀ x ∈ groupF l, ∀ y ∈ groupF l, x.dead = y.dead := fun x hx y hy => ((mem_group f).1 hx).2.trans ((mem_group f).1 hy).2.symm
  have gt : ∀ x ∈ groupF l, 0 ≤ x.track := fun x hx => ht x ((mem_group f).1 hx).1
  have gm : ∀ x ∈ groupF l, ∀ y ∈ l, y.dead = x.dead → y ∈ groupF l := fun x hx y hy e => (mem_group f).2 ⟨hy, e.trans ((mem_group f).1 hx).2⟩
  have gl : ∀ x ∈ groupF l, ∀ y ∈ l, x.dead ≤ y.dead := fun x hx y hy => by rw [((mem_group f).1 hx).2]; exact dead0_le f hy
  obtain ⟨bs1, bs2⟩ := below_spec (h := h) gf gd gt
  obtain ⟨z, hz⟩ := List.exists_mem_of_length_pos (groupF_ne hl)
  by_cases hc : ((d && decide (0 ≤ (belowF h (groupF l)).track)) || !(aboveF h (groupF l)).2) = true
  · have any : 0 ≤ (belowF h (groupF l)).track := by
      cases ha : (aboveF h (groupF l)).2 with
      | true => rw [ha] at hc; simp at hc; exact hc.2
      | false => exact (bs2 z hz (Int.le_of_lt (above_none ha z hz))).1
    obtain ⟨m1, m2⟩ := bs1 any
    refine ⟨belowF h (groupF l), true, ?_, ((mem_group f).1 m1).1, gl _ m1, fun e => Bool.noConfusion e, fun _ => ⟨m2, fun y hy e yh => (bs2 y (gm _ m1 y hy e) yh).2⟩, fun hd _ y hy e => ?_, fun _ e => Bool.noConfusion e⟩
    · unfold nextF
      rw [if_neg hl, if_pos hc]
    · subst hd
      have : (aboveF h (groupF l)).2 = false := by simpa using hc
      exact above_none this y (gm _ m1 y hy e)
  · have hs : (aboveF h (groupF l)).2 = true := by
      cases ha : (aboveF h (groupF l)).2 with
      | true => rfl
      | false => rw [ha] at hc; simp at hc
    obtain ⟨m1, m2, m3⟩ := above_some gf gd hs
    refine ⟨(aboveF h (groupF l)).1, false, ?_, ((mem_group f).1 m1).1, gl _ m1, fun _ => ⟨m2, fun y hy e yh => m3 y (gm _ m1 y hy e) yh⟩, fun e => Bool.noConfusion e, fun _ e => Bool.noConfusion e, fun hd _ y hy e => ?_⟩
    · unfold nextF
      rw [if_neg hl, if_neg hc]
    · subst hd
      rcases Int.lt_or_le h y.track with hh | hh
      · exact hh
      · have := (bs2 y (gm _ m1 y hy e) hh).1
        rw [hs] at hc
        simp at hc
        omega
theorem take_spec {l : List Wt} {h : Int} {d : Bool} {x : Wt} {dn : Bool} (f : Fine l) (n : Nxt l h d x dn) : takeF l h d = ((x, 0), (l.filter (fun y => !(y.id == x.id)), x.track, dn)) ∧ (l.filter (fun y => !(y.id == x.id))).length + 1 = l.length := by
  have hd := drop_mem f n.mem
  unfold takeF
  rw [n.eq]
  simp only [if_true]
  rw [hd.1]
  exact ⟨rfl, hd.2⟩
theorem take_none (h : Int) (d : Bool) : takeF [] h d = ((⟨0, 0, 0⟩, 5), ([], h, d)) := by rfl
theorem may_mk {a b c : Int} (h : 0 ≤ a ∧ a ≤ 65535 ∧ b < 4611686018427387904 ∧ 0 ≤ c ∧ c ≤ 1048576) : mayW ⟨a, b, c⟩ = true := decide_eq_true h
end Go.Proofs.Ytinpaplpgoljpaa
