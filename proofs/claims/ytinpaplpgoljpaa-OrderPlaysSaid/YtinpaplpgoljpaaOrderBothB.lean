/- Layer 18 (order): the program's queue and the document's beside one another: Drop, Take, Next, All. -/
import Derived.Test.YtinpaplpgoljpaaOrderRD
namespace Go.Proofs.Ytinpaplpgoljpaa
open Go.RowKit
set_option linter.unusedVariables false
set_option linter.unusedSimpArgs false
section
variable {w w' : World} {p rq base : Nat} {Far : Nat → Prop} {l lr : List Wt} {h hr : Int} {d dr : Bool}
theorem both_rdrop (k : Both w p rq base Far l lr h hr d dr) (hF : ∀ g, Far g → g < w.heap.size) (hb : base ≤ w.heap.size) {id x : Int} {l' : List Wt} (r : dropF lr id = (x, l')) :
    Calls Try.prog 19 #[.pointer (some ⟨rq, 0, none⟩), .int .i64 id] w fun e w' => e = .returned (.int .i64 x) ∧ Both w' p rq base Far l l' h hr d dr ∧ Only (fun g => base ≤ g ∧ ¬ Far g) w w' := by
  obtain ⟨R, rfl, kq, kr, f⟩ := k
  have := rdrop_any kr id
  rw [r] at this
  exact this.mono fun e w' ⟨he, st⟩ => ⟨he, both_step kq f (fun g => kr.lt) hF hb st⟩
theorem both_rtake (k : Both w p rq base Far l lr h hr d dr) (hF : ∀ g, Far g → g < w.heap.size) (hb : base ≤ w.heap.size) (h0 : 0 < lr.length) {x1 x2 x3 : Int} {dn : Bool} {l' : List Wt} (hN : ∀ b dn', NextSpec lr hr dr b dn' → dn' = dn ∧ ∃ i : Nat, b = i ∧ lr[i]? = some ⟨x1, x2, x3⟩) (r : (dropF lr x1).2 = l') :
    Calls Try.prog 20 #[.pointer (some ⟨rq, 0, none⟩)] w fun e w' => e = .returned (.tuple #[.agg #[.int .i64 x1, .int .u64 x2, .int .i64 x3], .int .i64 0]) ∧ Both w' p rq base Far l l' h x3 d dn ∧ Only (fun g => base ≤ g ∧ ¬ Far g) w w' := by
  obtain ⟨R, rfl, kq, kr, f⟩ := k
  have := rtake_any kr h0 hN
  rw [r] at this
  exact this.mono fun e w' ⟨he, st⟩ => ⟨he, both_step kq f (fun g => kr.lt) hF hb st⟩
theorem both_rtake0 (k : Both w p rq base Far l [] h hr d dr) (hF : ∀ g, Far g → g < w.heap.size) (hb : base ≤ w.heap.size) :
    Calls Try.prog 20 #[.pointer (some ⟨rq, 0, none⟩)] w fun e w' => e = .returned (.tuple #[.agg #[.int .i64 0, .int .u64 0, .int .i64 0], .int .i64 5]) ∧ Both w' p rq base Far l [] h hr d dr ∧ Only (fun g => base ≤ g ∧ ¬ Far g) w w' := by
  obtain ⟨R, rfl, kq, kr, f⟩ := k
  exact (rtake_none kr).mono fun e w' ⟨he, st⟩ => ⟨he, both_step kq f (fun g => kr.lt) hF hb st⟩
theorem both_rnext (k : Both w p rq base Far l lr h hr d dr) (h0 : 0 < lr.length) {x : Wt} {dn : Bool} (hN : ∀ b dn', NextSpec lr hr dr b dn' → dn' = dn ∧ ∃ i : Nat, b = i ∧ lr[i]? = some x) :
    Calls Try.prog 21 #[.pointer (some ⟨rq, 0, none⟩)] w fun e w' => (∃ i : Nat, e = .returned (.tuple #[.int .i64 i, .bool dn]) ∧ lr[i]? = some x) ∧ Both w' p rq base Far l lr h hr d dr ∧ Below w.heap.size w w' := by
  have k' := k
  obtain ⟨R, rfl, kq, kr, f⟩ := k
  refine (rnext_any kr h0).mono fun e w' ⟨⟨b, dn', he, ns⟩, o⟩ => ?_
  obtain ⟨rfl, i, rfl, hx⟩ := hN _ _ ns
  exact ⟨⟨i, he, hx⟩, k'.below o, o⟩
theorem both_rnext0 (k : Both w p rq base Far l [] h hr d dr) :
    Calls Try.prog 21 #[.pointer (some ⟨rq, 0, none⟩)] w fun e w' => e = .returned (.tuple #[.int .i64 (-1), .bool false]) ∧ Both w' p rq base Far l [] h hr d dr ∧ Below w.heap.size w w' := by
  have k' := k
  obtain ⟨R, rfl, kq, kr, f⟩ := k
  exact (rnext_none kr).mono fun e w' ⟨he, o⟩ => ⟨he, k'.below o, o⟩
theorem both_rall (k : Both w p rq base Far l lr h hr d dr) (e : allR lr = l) :
    Calls Try.prog 24 #[.pointer (some ⟨rq, 0, none⟩)] w fun e w' => AllPostR w l e w' ∧ Both w' p rq base Far l lr h hr d dr := by
  have k' := k
  obtain ⟨R, rfl, kq, kr, f⟩ := k
  have := rall_any kr
  rw [e] at this
  exact this.mono fun e' w' ha => ⟨ha, k'.below (by obtain ⟨A, c, _, _, b⟩ := ha; exact b)⟩
end
theorem erase_perm : ∀ {l : List Wt} {i : Nat} {x : Wt}, l[i]? = some x → (x :: l.eraseIdx i).Perm l
  | [], i, x, h => by simp at h
  | y :: r, 0, x, h => by simp at h; subst h; exact .refl _
  | y :: r, i + 1, x, h => by
    simp only [List.eraseIdx_cons_succ]
    exact (List.Perm.swap y x _).trans ((erase_perm (by simpa using h)).cons y)
theorem drop_perm {l : List Wt} {id : Int} (h : 0 ≤ idxB (fun x => x.id == id) l) : (dropF l id).1 = 0 ∧ ∃ x ∈ l, x.id = id ∧ (x :: (dropF l id).2).Perm l := by
  rcases idxB_cases (fun x => x.id == id) l with ⟨e, -⟩ | ⟨i, e, hi⟩
  · omega
  · obtain ⟨x, hx, hp, -⟩ := idxB_some e
    have hd : dropF l id = (0, l.eraseIdx i) := by unfold dropF; rw [if_neg (by rw [e]; omega), e]; rfl
    rw [hd]
    exact ⟨rfl, x, List.mem_of_getElem? hx, by simpa using hp, erase_perm hx⟩
theorem drop_none {l : List Wt} {id : Int} (h : ¬ 0 ≤ idxB (fun x => x.id == id) l) : dropF l id = (6, l) := by unfold dropF; rw [if_pos (by omega)]
/-- What is dropped of alike queues. -/
theorem drop_alike {l lr : List Wt} (f : Fine l) (hp : l.Perm lr) (id : Int) : (dropF lr id).1 = (dropF l id).1 ∧ (dropF l id).2.Perm (dropF lr id).2 := by
  have hi : 0 ≤ idxB (fun x => x.id == id) l ↔ 0 ≤ idxB (fun x => x.id == id) lr := by
    rw [idxB_nonneg, idxB_nonneg]
    exact ⟨fun ⟨x, hx, e⟩ => ⟨x, hp.mem_iff.1 hx, e⟩, fun ⟨x, hx, e⟩ => ⟨x, hp.mem_iff.2 hx, e⟩⟩
  by_cases h : 0 ≤ idxB (fun x => x.id == id) l
  · obtain ⟨e1, x, hx, hxi, p1⟩ := drop_perm h
    obtain ⟨e2, y, hy, hyi, p2⟩ := drop_perm (hi.1 h)
    have : x = y := f.ids hx (hp.mem_iff.2 hy) (hxi.trans hyi.symm)
    subst this
    exact ⟨e2.trans e1.symm, (p1.trans (hp.trans p2.symm)).cons_inv⟩
  · rw [drop_none h, drop_none (fun e => h (hi.2 e))]
    exact ⟨rfl, hp⟩
theorem fine_unique : ∀ {l m : List Wt}, Fine l → Fine m → l.Perm m → l = m
  | [], m, _, _, p => by simpa using p
  | a :: l, [], _, _, p => by simp at p
  | a :: l, b :: m, hl, hm, p => by
    unfold Fine at hl hm
    rw [List.pairwise_cons] at hl hm
    have e : a = b := by
      rcases List.mem_cons.1 (p.mem_iff.1 (List.mem_cons_self ..)) with e | ha
      · exact e
      · rcases List.mem_cons.1 (p.mem_iff.2 (List.mem_cons_self ..)) with e | hb
        · exact e.symm
        · exact absurd (ltW_trans (hl.1 b hb).1 (hm.1 a ha).1) (ltW_irrefl a)
    subst e
    rw [fine_unique hl.2 hm.2 p.cons_inv]
/-- All of alike queues. -/
theorem all_alike {l lr : List Wt} (f : Fine l) (hp : l.Perm lr) : allR lr = l := by
  have ids : lr.Pairwise (fun a b => a.id ≠ b.id) := (hp.pairwise_iff (fun h => Ne.symm h)).1 (List.Pairwise.imp (fun h => h.2) f)
  have key : ∀ (r o : List Wt), Fine o → r.Pairwise (fun a b => a.id ≠ b.id) → (∀ a ∈ o, ∀ b ∈ r, a.id ≠ b.id) → Fine (r.foldl (fun out x => insW x out) o) ∧ (r.foldl (fun out x => insW x out) o).Perm (r ++ o) := by
    intro r
    induction r with
    | nil => intro o fo _ _; exact ⟨fo, .refl _⟩
    | cons x r ih =>
      intro o fo hr hd
      rw [List.pairwise_cons] at hr
      have fo2 := insW_fine (t := x) fo (fun a ha => hd a ha x (List.mem_cons_self ..))
      obtain ⟨h1, h2⟩ := ih (insW x o) fo2 hr.2 (fun a ha b hb => by
        rcases mem_insW.1 ha with rfl | ha
        · exact hr.1 b hb
        · exact hd a ha b (List.mem_cons_of_mem _ hb))
      refine ⟨h1, h2.trans ?_⟩
      exact (List.Perm.append_left r (insW_perm x o)).trans List.perm_middle
  obtain ⟨h1, h2⟩ := key lr [] .nil ids (by simp)
  exact fine_unique h1 f (h2.trans (by simpa using hp.symm))
/-- The next one of alike queues. -/
theorem next_alike {l lr : List Wt} {h : Int} {d : Bool} {x : Wt} {dn : Bool} (f : Fine l) (hp : l.Perm lr) (n : Nxt l h d x dn) (b : Int) (dn' : Bool) (ns : NextSpec lr h d b dn') : dn' = dn ∧ ∃ i : Nat, b = i ∧ lr[i]? = some x := by
  obtain ⟨D, ⟨z, hz, hzD⟩, hmin, hc⟩ := ns
  have hxr := hp.mem_iff.1 n.mem
  have hxD : x.dead = D := by
    have h1 := hmin x hxr
    have h2 := n.least z (hp.mem_iff.2 hz)
    omega
  subst hxD
  have ex : elig x.dead h dn x := by
    refine ⟨rfl, ?_⟩
    cases dn with
    | false => simpa using (n.up rfl).1
    | true => simpa using (n.down rfl).1
  obtain ⟨jx, hjx, ejx⟩ := List.mem_iff_getElem.1 hxr
  have exj : lr[jx]? = some x := by rw [← ejx]; exact List.getElem?_eq_getElem hjx
  have pk : ∀ k, PickSpec lr lr.length x.dead h dn k → ∃ i : Nat, k = i ∧ lr[i]? = some x := by
    intro k pk
    rcases pk with ⟨-, hno⟩ | ⟨i, y, rfl, hi, hy, ey, hbest⟩
    · exact absurd ex (hno jx x hjx exj)
    · refine ⟨i, rfl, ?_⟩
      have hb := hbest jx x hjx exj ex
      have hyl := hp.mem_iff.2 (List.mem_of_getElem? hy)
      have : y = x := by
        refine f.ids hyl n.mem ?_
        unfold noWorse at hb
        cases dn with
        | false =>
          have h1 := ey.2
          have := (n.up rfl).2 y hyl ey.1 (by simpa using h1)
          simp at hb
          rcases hb with ⟨e1, e2⟩ | e1
          · have := this.2 e1; omega
          · omega
        | true =>
          have h1 := ey.2
          have := (n.down rfl).2 y hyl ey.1 (by simpa using h1)
          simp at hb
          rcases hb with ⟨e1, e2⟩ | e1
          · have := this.2 e1; omega
          · omega
      rw [← this]; exact hy
  rcases hc with ⟨pc, hb, rfl⟩ | ⟨p1, pc, rfl⟩
  · have hd : dn' = dn := by
      rcases pc with ⟨e, -⟩ | ⟨i, y, rfl, hi, hy, ey, -⟩
      · omega
      · have hyl := hp.mem_iff.2 (List.mem_of_getElem? hy)
        cases dn' <;> cases dn
        · rfl
        · have := n.turnD rfl rfl y hyl ey.1; have := ey.2; simp at this; omega
        · have := n.turnU rfl rfl y hyl ey.1; have := ey.2; simp at this; omega
        · rfl
    subst hd
    exact ⟨rfl, pk b pc⟩
  · have hd : (!d) = dn := by
      rcases p1 with ⟨-, hno⟩ | ⟨i, y, e, -⟩
      · cases d <;> cases dn
        · exact absurd ex (hno jx x hjx exj)
        · rfl
        · rfl
        · exact absurd ex (hno jx x hjx exj)
      · omega
    rw [hd] at pc ⊢
    exact ⟨rfl, pk b pc⟩
end Go.Proofs.Ytinpaplpgoljpaa
