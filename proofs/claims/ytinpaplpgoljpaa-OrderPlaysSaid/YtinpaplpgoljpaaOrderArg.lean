/- Layer 18 (order): requests that came in; two queues beside one another. -/
import Derived.Test.YtinpaplpgoljpaaOrderL
import Derived.Test.YtinpaplpgoljpaaArgs
namespace Go.Proofs.Ytinpaplpgoljpaa
open Go.ChangeShapes Go.WideShapes Go.ChangeAt Go.RowKit
set_option linter.unusedVariables false
set_option linter.unusedSimpArgs false
/-- The n requests behind A. -/
def WantsAt (w : World) (A : Option Addr) (n : Nat) (U : Nat → Wt) : Prop :=
  ∀ i, i < n → ∃ b off, A = some ⟨b, off, none⟩ ∧ b < w.heap.size ∧ ∀ j, j < n → w.cell? ⟨b, off + j * 3, none⟩ = some (.int .i64 (U j).id) ∧ w.cell? ⟨b, off + j * 3 + 1, none⟩ = some (.int .u64 (U j).dead) ∧ w.cell? ⟨b, off + j * 3 + 2, none⟩ = some (.int .i64 (U j).track)
theorem triple_of {a b c : Option IntKind} {cs : List Value} (h : AllOk [a, b, c] cs) : ∃ x y z, cs = [x, y, z] ∧ CellOk a x ∧ CellOk b y ∧ CellOk c z := by
  match cs, h with
  | [x, y, z], ⟨hx, hy, hz, _⟩ => exact ⟨x, y, z, rfl, hx, hy, hz⟩
theorem wants_of {w : World} {A : Option Addr} {n : Nat} {D : Nat → List Value} (h : Elems w [some .i64, some .u64, some .i64] A n D) : ∃ U : Nat → Wt, WantsAt w A n U ∧ ∀ i, i < n → (Lit.int .u64 (U i).dead).wf = true := by
  have key : ∀ i, i < n → ∃ x : Wt, D i = [.int .i64 x.id, .int .u64 x.dead, .int .i64 x.track] ∧ (Lit.int .u64 x.dead).wf = true := by
    intro i hi
    obtain ⟨hok, _⟩ := h i hi
    obtain ⟨x, y, z, e, ⟨a, rfl, _⟩, ⟨b, rfl, hb⟩, ⟨c, rfl, _⟩⟩ := triple_of hok
    exact ⟨⟨a, b, c⟩, e, hb⟩
  obtain ⟨U, hU⟩ : ∃ U : Nat → Wt, ∀ i, i < n → D i = [.int .i64 (U i).id, .int .u64 (U i).dead, .int .i64 (U i).track] ∧ (Lit.int .u64 (U i).dead).wf = true :=
    ⟨fun i => if hi : i < n then (key i hi).choose else ⟨0, 0, 0⟩, fun i hi => by simp only [hi, dif_pos]; exact (key i hi).choose_spec⟩
  refine ⟨U, fun i hi => ?_, fun i hi => (hU i hi).2⟩
  obtain ⟨b, off, e, hb, hc⟩ := rows_of h (by simp) i hi
  refine ⟨b, off, e, hb, fun j hj => ?_⟩
  have h0 := hc j 0 hj (by simp)
  have h1 := hc j 1 hj (by simp)
  have h2 := hc j 2 hj (by simp)
  rw [(hU j hj).1] at h0 h1 h2
  refine ⟨by simpa using h0, ?_, ?_⟩
  · rw [Nat.add_assoc]; simpa using h1
  · rw [Nat.add_assoc]; simpa using h2
theorem WantsAt.below {w w' : World} {A : Option Addr} {n : Nat} {U : Nat → Wt} (h : WantsAt w A n U) (l : Below w.heap.size w w') : WantsAt w' A n U := by
  intro i hi
  obtain ⟨b, off, e, hb, hc⟩ := h i hi
  exact ⟨b, off, e, Nat.lt_of_lt_of_le hb l.size, fun j hj => ⟨(l.cell (p := ⟨b, _, none⟩) hb).trans (hc j hj).1, (l.cell (p := ⟨b, _, none⟩) hb).trans (hc j hj).2.1, (l.cell (p := ⟨b, _, none⟩) hb).trans (hc j hj).2.2⟩⟩
theorem WantsAt.at_ {w : World} {A : Option Addr} {n : Nat} {U : Nat → Wt} (h : WantsAt w A n U) {i : Nat} (hi : i < n) : ∃ b off, A = some ⟨b, off, none⟩ ∧ b < w.heap.size ∧ w.cell? ⟨b, off + i * 3, none⟩ = some (.int .i64 (U i).id) ∧ w.cell? ⟨b, off + i * 3 + 1, none⟩ = some (.int .u64 (U i).dead) ∧ w.cell? ⟨b, off + i * 3 + 2, none⟩ = some (.int .i64 (U i).track) := by
  obtain ⟨b, off, e, hb, hc⟩ := h i hi
  exact ⟨b, off, e, hb, hc i hi⟩
/-- Two queues. -/
def Two (w : World) (pa pb base : Nat) (Far : Nat → Prop) (la lb : List Wt) (ha hb : Int) (da db : Bool) : Prop :=
  ∃ Qa Qb, IsQ w Qa la ha da ∧ IsQ w Qb lb hb db ∧ Qa.q = pa ∧ Qb.q = pb ∧ (∀ g, Qa.all g → base ≤ g ∧ ¬ Far g ∧ ¬ Qb.all g) ∧ (∀ g, Qb.all g → base ≤ g ∧ ¬ Far g) ∧ Fine la ∧ Fine lb
section
variable {w w' : World} {pa pb base : Nat} {Far : Nat → Prop} {la lb : List Wt} {ha hb : Int} {da db : Bool}
theorem Two.symm (k : Two w pa pb base Far la lb ha hb da db) : Two w pb pa base Far lb la hb ha db da := by
  obtain ⟨Qa, Qb, ka, kb, ea, eb, ra, rb, fa, fb⟩ := k
  exact ⟨Qb, Qa, kb, ka, eb, ea, fun g h => ⟨(rb g h).1, (rb g h).2, fun h2 => (ra g h2).2.2 h⟩, fun g h => ⟨(ra g h).1, (ra g h).2.1⟩, fb, fa⟩
theorem Two.below (k : Two w pa pb base Far la lb ha hb da db) (o : Below w.heap.size w w') : Two w' pa pb base Far la lb ha hb da db := by
  obtain ⟨Qa, Qb, ka, kb, r⟩ := k
  exact ⟨Qa, Qb, ka.below o, kb.below o, r⟩
theorem Two.re {Far' : Nat → Prop} (k : Two w pa pb base Far la lb ha hb da db) (hF : ∀ g, g < w.heap.size → Far' g → Far g) : Two w pa pb base Far' la lb ha hb da db := by
  obtain ⟨Qa, Qb, ka, kb, ea, eb, ra, rb, f⟩ := k
  exact ⟨Qa, Qb, ka, kb, ea, eb, fun g h => ⟨(ra g h).1, fun x => (ra g h).2.1 (hF g (ka.lt h) x), (ra g h).2.2⟩, fun g h => ⟨(rb g h).1, fun x => (rb g h).2 (hF g (kb.lt h) x)⟩, f⟩
theorem Two.fine (k : Two w pa pb base Far la lb ha hb da db) : Fine la ∧ Fine lb := by
  obtain ⟨Qa, Qb, ka, kb, ea, eb, ra, rb, f⟩ := k
  exact f
theorem two_step {Qa Qb : Qp} {la' : List Wt} {ha' : Int} {da' : Bool} (kb : IsQ w Qb lb hb db) (ra : ∀ g, Qa.all g → base ≤ g ∧ ¬ Far g ∧ ¬ Qb.all g) (rb : ∀ g, Qb.all g → base ≤ g ∧ ¬ Far g) (fa : Fine la') (fb : Fine lb)
    (st : StepQ w w' Qa la' ha' da') (hF : ∀ g, Far g → g < w.heap.size) (hbs : base ≤ w.heap.size) : Two w' Qa.q Qb.q base Far la' lb ha' hb da' db ∧ Only (fun g => base ≤ g ∧ ¬ Far g) w w' := by
  obtain ⟨v', k, o, n⟩ := st
  refine ⟨⟨⟨Qa.q, v'⟩, Qb, k, kb.only o (fun g h h2 => (ra g h).2.2 h2), rfl, rfl, fun g hg => ?_, rb, fa, fb⟩, o.mono fun g _ hg => ⟨(ra g hg).1, (ra g hg).2.1⟩⟩
  rcases hg with hg | hg
  · exact ra g (.inl hg)
  · rcases n g hg with h | h
    · exact ra g (.inr h)
    · exact ⟨by omega, fun x => by have := hF g x; omega, fun x => by have := kb.lt x; omega⟩
theorem two_add (k : Two w pa pb base Far la lb ha hb da db) (hF : ∀ g, Far g → g < w.heap.size) (hbs : base ≤ w.heap.size) {a b c x : Int} {l' : List Wt} (r : addF la ⟨a, b, c⟩ = (x, l')) :
    Calls Try.prog 11 #[.pointer (some ⟨pa, 0, none⟩), .agg #[.int .i64 a, .int .u64 b, .int .i64 c]] w fun e w' => e = .returned (.int .i64 x) ∧ Two w' pa pb base Far l' lb ha hb da db ∧ Only (fun g => base ≤ g ∧ ¬ Far g) w w' := by
  obtain ⟨Qa, Qb, ka, kb, rfl, rfl, ra, rb, fa, fb⟩ := k
  have := add_any ka fa.sorted ⟨a, b, c⟩
  have f2 := fa.add ⟨a, b, c⟩
  rw [r] at this f2
  exact this.mono fun e w' ⟨he, st⟩ => ⟨he, two_step kb ra rb f2 fb st hF hbs⟩
theorem two_drop (k : Two w pa pb base Far la lb ha hb da db) (hF : ∀ g, Far g → g < w.heap.size) (hbs : base ≤ w.heap.size) {id x : Int} {l' : List Wt} (r : dropF la id = (x, l')) :
    Calls Try.prog 12 #[.pointer (some ⟨pa, 0, none⟩), .int .i64 id] w fun e w' => e = .returned (.int .i64 x) ∧ Two w' pa pb base Far l' lb ha hb da db ∧ Only (fun g => base ≤ g ∧ ¬ Far g) w w' := by
  obtain ⟨Qa, Qb, ka, kb, rfl, rfl, ra, rb, fa, fb⟩ := k
  have := drop_any ka id
  have f2 := fa.drop id
  rw [r] at this f2
  exact this.mono fun e w' ⟨he, st⟩ => ⟨he, two_step kb ra rb f2 fb st hF hbs⟩
theorem two_take (k : Two w pa pb base Far la lb ha hb da db) (hF : ∀ g, Far g → g < w.heap.size) (hbs : base ≤ w.heap.size) {a b c x h' : Int} {l' : List Wt} {d' : Bool} (r : takeF la ha da = ((⟨a, b, c⟩, x), (l', h', d'))) :
    Calls Try.prog 13 #[.pointer (some ⟨pa, 0, none⟩)] w fun e w' => e = .returned (.tuple #[.agg #[.int .i64 a, .int .u64 b, .int .i64 c], .int .i64 x]) ∧ Two w' pa pb base Far l' lb h' hb d' db ∧ Only (fun g => base ≤ g ∧ ¬ Far g) w w' := by
  obtain ⟨Qa, Qb, ka, kb, rfl, rfl, ra, rb, fa, fb⟩ := k
  have := take_any ka
  have f2 := fa.take ha da
  rw [r] at this f2
  exact this.mono fun e w' ⟨he, st⟩ => ⟨he, two_step kb ra rb f2 fb st hF hbs⟩
theorem two_new (k : KeptQ w pa base NF la ha da) (hbs : base ≤ w.heap.size) : Calls Try.prog 10 #[] w fun e w' => ∃ pb, e = .returned (.pointer (some ⟨pb, 0, none⟩)) ∧ Two w' pa pb base NF la [] ha 0 da false ∧ Below w.heap.size w w' := by
  obtain ⟨Qa, ka, rfl, ra, fa⟩ := k
  exact (newq_any w).mono fun e w' ⟨Qb, he, kb, b, r⟩ => ⟨Qb.q, he, ⟨Qa, Qb, ka.below b, kb, rfl, rfl, fun g h => ⟨(ra g h).1, (ra g h).2, fun x => by have := r g x; have := ka.lt h; omega⟩, fun g h => ⟨by have := r g h; omega, fun x => x⟩, fa, .nil⟩, b⟩
end
/-- The requests without one number. -/
def fl (id : Int) (l : List Wt) : List Wt := l.filter fun y => !(y.id == id)
theorem insW_front {x : Wt} {l : List Wt} (h : ∀ z ∈ l, ¬ cmpW z x < 0) : insW x l = x :: l := by
  cases l with
  | nil => rfl
  | cons y r => simp only [insW]; rw [if_neg (h y (List.mem_cons_self ..))]
theorem fl_in {id : Int} {y : Wt} {r : List Wt} (h : y.id = id) : fl id (y :: r) = fl id r := by
  unfold fl
  rw [List.filter_cons, if_neg (by simp [h])]
theorem fl_out {id : Int} {y : Wt} {r : List Wt} (h : y.id ≠ id) : fl id (y :: r) = y :: fl id r := by
  unfold fl
  rw [List.filter_cons, if_pos (by simp [h])]
theorem insW_in {x y : Wt} {r : List Wt} (h : cmpW y x < 0) : insW x (y :: r) = y :: insW x r := by simp only [insW]; rw [if_pos h]
theorem insW_out {x y : Wt} {r : List Wt} (h : ¬ cmpW y x < 0) : insW x (y :: r) = x :: y :: r := by simp only [insW]; rw [if_neg h]
theorem fl_ins {id : Int} {x : Wt} : ∀ {l : List Wt}, Fine l → fl id (insW x l) = if x.id = id then fl id l else insW x (fl id l)
  | [], _ => by
    show fl id [x] = if x.id = id then [] else [x]
    by_cases e : x.id = id
    · rw [if_pos e, fl_in e]; rfl
    · rw [if_neg e, fl_out e]; rfl
  | y :: r, f => by
    have f' := f
    unfold Fine at f'
    rw [List.pairwise_cons] at f'
    have ih := fl_ins (id := id) (x := x) f'.2
    by_cases hc : cmpW y x < 0
    · rw [insW_in hc]
      by_cases ey : y.id = id
      · rw [fl_in ey, fl_in ey]
        exact ih
      · rw [fl_out ey, fl_out ey, ih]
        split
        · rfl
        · rw [insW_in hc]
    · rw [insW_out hc]
      have hz : ∀ z ∈ y :: r, ¬ cmpW z x < 0 := fun z hz hn => by
        rcases List.mem_cons.1 hz with rfl | hz
        · exact hc hn
        · exact hc (cmpW_neg.2 (ltW_trans (f'.1 z hz).1 (cmpW_neg.1 hn)))
      by_cases ex : x.id = id
      · rw [if_pos ex, fl_in ex]
      · rw [if_neg ex, fl_out ex, insW_front (l := fl id (y :: r)) (fun z hz' => hz z (List.mem_filter.1 hz').1)]
theorem idxB_nonneg {P : Wt → Bool} {l : List Wt} : 0 ≤ idxB P l ↔ ∃ x ∈ l, P x = true := by
  constructor
  · intro h
    rcases idxB_cases P l with ⟨e, -⟩ | ⟨i, e, -⟩
    · omega
    · obtain ⟨x, hx, hp, -⟩ := idxB_some e
      exact ⟨x, List.mem_of_getElem? hx, hp⟩
  · rintro ⟨x, hx, hp⟩
    rcases idxB_cases P l with ⟨-, hno⟩ | ⟨i, e, -⟩
    · rw [hno x hx] at hp; cases hp
    · omega
theorem mem_fl {id : Int} {l : List Wt} {y : Wt} : y ∈ fl id l ↔ y ∈ l ∧ y.id ≠ id := by
  unfold fl
  rw [List.mem_filter]
  simp
theorem fl_fine {id : Int} {l : List Wt} (f : Fine l) : Fine (fl id l) := f.sublist List.filter_sublist
theorem fl_len {id : Int} {l : List Wt} : (fl id l).length ≤ l.length := List.length_filter_le _ _
theorem add_both {id : Int} {l : List Wt} {x : Wt} (f : Fine l) (hl : l.length < 64) (hx : x.id ≠ id) : (addF l x).1 = (addF (fl id l) x).1 ∧ fl id (addF l x).2 = (addF (fl id l) x).2 := by
  have h1 : 0 ≤ idxB (fun y => y.id == x.id) l ↔ 0 ≤ idxB (fun y => y.id == x.id) (fl id l) := by
    rw [idxB_nonneg, idxB_nonneg]
    refine ⟨fun ⟨y, hy, e⟩ => ⟨y, mem_fl.2 ⟨hy, ?_⟩, e⟩, fun ⟨y, hy, e⟩ => ⟨y, (mem_fl.1 hy).1, e⟩⟩
    simp at e; rw [e]; exact hx
  have h2 := fl_len (id := id) (l := l)
  unfold addF
  by_cases hm : mayW x = true
  · rw [if_pos hm, if_pos hm]
    by_cases hi : 0 ≤ idxB (fun y => y.id == x.id) l
    · have q1 : idxB (fun y => y.id == x.id) (fl id l) ≥ 0 := h1.1 hi
      rw [if_pos hi, if_pos q1]; exact ⟨rfl, rfl⟩
    · have q1 : ¬ idxB (fun y => y.id == x.id) (fl id l) ≥ 0 := fun e => hi (h1.2 e)
      rw [if_neg hi, if_neg q1, if_neg (show ¬ l.length ≥ 64 by omega), if_neg (show ¬ (fl id l).length ≥ 64 by omega)]
      exact ⟨rfl, by simp only; rw [fl_ins f, if_neg hx]⟩
  · rw [if_neg hm, if_neg hm]; exact ⟨rfl, rfl⟩
theorem add_here {l : List Wt} {x : Wt} (f : Fine l) : ((addF l x).1 = 0 ∧ fl x.id (addF l x).2 = fl x.id l ∧ x ∈ (addF l x).2) ∨ ((addF l x).1 ≠ 0 ∧ (addF l x).2 = l) := by
  unfold addF
  by_cases hm : mayW x = true
  · rw [if_pos hm]
    by_cases hi : idxB (fun y => y.id == x.id) l ≥ 0
    · rw [if_pos hi]; exact .inr ⟨by simp, rfl⟩
    · rw [if_neg hi]
      by_cases h64 : l.length ≥ 64
      · rw [if_pos h64]; exact .inr ⟨by simp, rfl⟩
      · rw [if_neg h64]
        exact .inl ⟨rfl, by simp only; rw [fl_ins f, if_pos rfl], mem_insW.2 (.inl rfl)⟩
  · rw [if_neg hm]; exact .inr ⟨by simp, rfl⟩
theorem add_len (l : List Wt) (x : Wt) : (addF l x).2.length ≤ l.length + 1 := by
  unfold addF
  split
  · split
    · simp
    · split
      · simp
      · simp [insW_len]
  · simp
theorem add_sub {l : List Wt} {x y : Wt} (h : y ∈ (addF l x).2) : y ∈ l ∨ (y = x ∧ mayW x = true) := by
  unfold addF at h
  split at h
  · rename_i hm
    split at h
    · exact .inl h
    · split at h
      · exact .inl h
      · exact (mem_insW.1 h).symm.imp_right fun e => ⟨e, hm⟩
  · exact .inl h
theorem may_track {x : Wt} (h : mayW x = true) : 0 ≤ x.track := (of_decide_eq_true h).2.2.2.1
theorem add_track {l : List Wt} {x : Wt} (h : ∀ y ∈ l, 0 ≤ y.track) : ∀ y ∈ (addF l x).2, 0 ≤ y.track := fun y hy => (add_sub hy).elim (h y) (fun ⟨e, hm⟩ => e ▸ may_track hm)
theorem drop_fl {l : List Wt} (f : Fine l) (id : Int) : (dropF l id).2 = fl id l ∧ ((dropF l id).1 = 0 ↔ ∃ x ∈ l, x.id = id) := by
  by_cases h : ∃ x ∈ l, x.id = id
  · obtain ⟨x, hx, rfl⟩ := h
    rw [(drop_mem f hx).1]
    exact ⟨rfl, fun _ => ⟨x, hx, rfl⟩, fun _ => rfl⟩
  · have hn : idxB (fun x => x.id == id) l < 0 := by
      rcases Int.lt_or_le (idxB (fun x => x.id == id) l) 0 with e | e
      · exact e
      · obtain ⟨x, hx, hp⟩ := idxB_nonneg.1 e
        exact absurd ⟨x, hx, by simpa using hp⟩ h
    unfold dropF
    rw [if_pos hn]
    refine ⟨(List.filter_eq_self.2 fun x hx => ?_).symm, fun e => by simp at e, fun e => absurd e h⟩
    have : x.id ≠ id := fun e => h ⟨x, hx, e⟩
    simp [this]
end Go.Proofs.Ytinpaplpgoljpaa
