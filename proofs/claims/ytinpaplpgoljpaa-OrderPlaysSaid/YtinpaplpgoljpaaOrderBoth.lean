/- Layer 18 (order): the program's queue and the document's beside one another. -/
import Derived.Test.YtinpaplpgoljpaaOrderR
import Derived.Test.YtinpaplpgoljpaaOrderJ
namespace Go.Proofs.Ytinpaplpgoljpaa
open Go.RowKit
set_option linter.unusedVariables false
set_option linter.unusedSimpArgs false
theorem KeptQ.swap {w w' : World} {p base : Nat} {Far Far2 F : Nat → Prop} {l : List Wt} {h : Int} {d : Bool} (k : KeptQ w p base Far l h d) (o : Only F w w') (hF : ∀ g, F g → Far g) (hN : ∀ g, g < w.heap.size → Far2 g → Far g) : KeptQ w' p base Far2 l h d := by
  obtain ⟨Q, q, e, r, f⟩ := k
  exact ⟨Q, q.only o (fun g hg ha => (r g ha).2 (hF g hg)), e, fun g hg => ⟨(r g hg).1, fun x => (r g hg).2 (hN g (q.lt hg) x)⟩, f⟩
/-- Both queues. -/
def Both (w : World) (p rq base : Nat) (Far : Nat → Prop) (l lr : List Wt) (h hr : Int) (d dr : Bool) : Prop :=
  ∃ R : Qp, R.q = rq ∧ KeptQ w p base (fun g => R.all g ∨ Far g) l h d ∧ IsR w R lr hr dr ∧ ∀ g, R.all g → base ≤ g ∧ ¬ Far g
section
variable {w w' : World} {p rq base : Nat} {Far : Nat → Prop} {l lr : List Wt} {h hr : Int} {d dr : Bool}
theorem Both.below (k : Both w p rq base Far l lr h hr d dr) (o : Below w.heap.size w w') : Both w' p rq base Far l lr h hr d dr := by
  obtain ⟨R, e, kq, kr, f⟩ := k
  exact ⟨R, e, kq.below o, kr.below o, f⟩
theorem Both.fine (k : Both w p rq base Far l lr h hr d dr) : Fine l := by
  obtain ⟨R, e, kq, kr, f⟩ := k
  exact kq.fine
theorem Both.re {Far' : Nat → Prop} (k : Both w p rq base Far l lr h hr d dr) (hF : ∀ g, g < w.heap.size → Far' g → Far g) : Both w p rq base Far' l lr h hr d dr := by
  obtain ⟨R, e, kq, kr, f⟩ := k
  exact ⟨R, e, kq.re (fun g hg x => x.imp_right (hF g hg)), kr, fun g hg => ⟨(f g hg).1, fun x => (f g hg).2 (hF g (kr.lt hg) x)⟩⟩
theorem Both.len (k : Both w p rq base Far l lr h hr d dr) : lr.length ≤ 64 := by
  obtain ⟨R, e, kq, kr, f⟩ := k
  exact kr.len
theorem Both.rcells (k : Both w p rq base Far l lr h hr d dr) : ∃ A c, w.cell? ⟨rq, 0, none⟩ = some (.slice A lr.length c) ∧ w.cell? ⟨rq, 1, none⟩ = some (.int .i64 hr) ∧ w.cell? ⟨rq, 2, none⟩ = some (.bool dr) ∧ rq < w.heap.size ∧ Slc w 30 3 (.slice A lr.length c) lr.length (flatW lr) := by
  obtain ⟨R, rfl, kq, kr, f⟩ := k
  obtain ⟨A, c, ev, -⟩ := kr.row.shape
  have hs := kr.row
  have c0 := kr.blk.cell 0
  rw [ev] at hs c0
  exact ⟨A, c, c0, kr.blk.cell 1, kr.blk.cell 2, kr.blk.lt, hs⟩
theorem both_add (k : Both w p rq base Far l lr h hr d dr) (hF : ∀ g, Far g → g < w.heap.size) (hb : base ≤ w.heap.size) {a b c x : Int} {l' : List Wt} (r : addF l ⟨a, b, c⟩ = (x, l')) :
    Calls Try.prog 11 #[.pointer (some ⟨p, 0, none⟩), .agg #[.int .i64 a, .int .u64 b, .int .i64 c]] w fun e w' => e = .returned (.int .i64 x) ∧ Both w' p rq base Far l' lr h hr d dr ∧ Only (fun g => base ≤ g ∧ ¬ Far g) w w' := by
  obtain ⟨R, e, kq, kr, f⟩ := k
  exact (add_at kq (fun g hg => hg.elim kr.lt (hF g)) hb r).mono fun e' w' ⟨he, k', o⟩ => ⟨he, ⟨R, e, k', kr.only o (fun g hg ha => hg.2 (.inl ha)), f⟩, o.mono fun g _ hg => ⟨hg.1, fun x => hg.2 (.inr x)⟩⟩
theorem both_drop (k : Both w p rq base Far l lr h hr d dr) (hF : ∀ g, Far g → g < w.heap.size) (hb : base ≤ w.heap.size) {id x : Int} {l' : List Wt} (r : dropF l id = (x, l')) :
    Calls Try.prog 12 #[.pointer (some ⟨p, 0, none⟩), .int .i64 id] w fun e w' => e = .returned (.int .i64 x) ∧ Both w' p rq base Far l' lr h hr d dr ∧ Only (fun g => base ≤ g ∧ ¬ Far g) w w' := by
  obtain ⟨R, e, kq, kr, f⟩ := k
  exact (drop_at kq (fun g hg => hg.elim kr.lt (hF g)) hb r).mono fun e' w' ⟨he, k', o⟩ => ⟨he, ⟨R, e, k', kr.only o (fun g hg ha => hg.2 (.inl ha)), f⟩, o.mono fun g _ hg => ⟨hg.1, fun x => hg.2 (.inr x)⟩⟩
theorem both_take (k : Both w p rq base Far l lr h hr d dr) (hF : ∀ g, Far g → g < w.heap.size) (hb : base ≤ w.heap.size) {a b c x h' : Int} {l' : List Wt} {d' : Bool} (r : takeF l h d = ((⟨a, b, c⟩, x), (l', h', d'))) :
    Calls Try.prog 13 #[.pointer (some ⟨p, 0, none⟩)] w fun e w' => e = .returned (.tuple #[.agg #[.int .i64 a, .int .u64 b, .int .i64 c], .int .i64 x]) ∧ Both w' p rq base Far l' lr h' hr d' dr ∧ Only (fun g => base ≤ g ∧ ¬ Far g) w w' := by
  obtain ⟨R, e, kq, kr, f⟩ := k
  exact (take_at kq (fun g hg => hg.elim kr.lt (hF g)) hb r).mono fun e' w' ⟨he, k', o⟩ => ⟨he, ⟨R, e, k', kr.only o (fun g hg ha => hg.2 (.inl ha)), f⟩, o.mono fun g _ hg => ⟨hg.1, fun x => hg.2 (.inr x)⟩⟩
theorem both_next (k : Both w p rq base Far l lr h hr d dr) {a b c x : Int} {dn : Bool} (r : nextF l h d = (⟨a, b, c⟩, dn, x)) :
    Calls Try.prog 15 #[.pointer (some ⟨p, 0, none⟩)] w fun e w' => e = .returned (.tuple #[.agg #[.int .i64 a, .int .u64 b, .int .i64 c], .int .i64 x]) ∧ Both w' p rq base Far l lr h hr d dr ∧ Below w.heap.size w w' := by
  have k' := k
  obtain ⟨R, e, kq, kr, f⟩ := k
  exact (nextq_at kq r).mono fun e' w' ⟨he, _, b⟩ => ⟨he, k'.below b, b⟩
theorem both_head (k : Both w p rq base Far l lr h hr d dr) :
    Calls Try.prog 16 #[.pointer (some ⟨p, 0, none⟩)] w fun e w' => e = .returned (.tuple #[.int .i64 h, .bool (!d)]) ∧ Both w' p rq base Far l lr h hr d dr ∧ Below w.heap.size w w' := by
  have k' := k
  obtain ⟨R, e, kq, kr, f⟩ := k
  exact (head_k kq).mono fun e' w' ⟨he, _, b⟩ => ⟨he, k'.below b, b⟩
theorem both_all (k : Both w p rq base Far l lr h hr d dr) :
    Calls Try.prog 23 #[.pointer (some ⟨p, 0, none⟩)] w fun e w' => AllPost w l e w' ∧ Both w' p rq base Far l lr h hr d dr := by
  have k' := k
  obtain ⟨R, e, kq, kr, f⟩ := k
  exact (all_k kq).mono fun e' w' ha => ⟨ha, k'.below (by obtain ⟨A, c, _, _, b⟩ := ha; exact b)⟩
theorem both_step {R : Qp} {lr' : List Wt} {hr' : Int} {dr' : Bool} (kq : KeptQ w p base (fun g => R.all g ∨ Far g) l h d) (f : ∀ g, R.all g → base ≤ g ∧ ¬ Far g) (kr : ∀ g, R.all g → g < w.heap.size) (hF : ∀ g, Far g → g < w.heap.size) (hb : base ≤ w.heap.size) (st : StepR w w' R lr' hr' dr') :
    Both w' p R.q base Far l lr' h hr' d dr' ∧ Only (fun g => base ≤ g ∧ ¬ Far g) w w' := by
  obtain ⟨v', k, o, n⟩ := st
  have N : ∀ g, Qp.all ⟨R.q, v'⟩ g → R.all g ∨ w.heap.size ≤ g := fun g hg => hg.elim (fun e => .inl (.inl e)) (fun e => (n g e).imp_left .inr)
  refine ⟨⟨⟨R.q, v'⟩, rfl, kq.swap o (fun g hg => .inl hg) (fun g hg x => x.elim (fun x => (N g x).elim .inl (fun e => by omega)) .inr), k, fun g hg => ?_⟩, o.mono fun g _ hg => f g hg⟩
  rcases N g hg with h | h
  · exact f g h
  · exact ⟨by omega, fun x => by have := hF g x; omega⟩
theorem both_radd (k : Both w p rq base Far l lr h hr d dr) (hF : ∀ g, Far g → g < w.heap.size) (hb : base ≤ w.heap.size) {a b c x : Int} {l' : List Wt} (r : addR lr ⟨a, b, c⟩ = (x, l')) :
    Calls Try.prog 17 #[.pointer (some ⟨rq, 0, none⟩), .agg #[.int .i64 a, .int .u64 b, .int .i64 c]] w fun e w' => e = .returned (.int .i64 x) ∧ Both w' p rq base Far l l' h hr d dr ∧ Only (fun g => base ≤ g ∧ ¬ Far g) w w' := by
  obtain ⟨R, rfl, kq, kr, f⟩ := k
  have := radd_any kr ⟨a, b, c⟩
  rw [r] at this
  exact this.mono fun e w' ⟨he, st⟩ => ⟨he, both_step kq f (fun g => kr.lt) hF hb st⟩
/-- The document's queue, new. -/
theorem both_new {w : World} {p base : Nat} {l : List Wt} {h : Int} {d : Bool} (k : KeptQ w p base NF l h d) (hb : base ≤ w.heap.size) :
    Both (w.alloc (.cells #[.slice none 0 0, .int .i64 0, .bool false] 45)) p w.heap.size base NF l [] h 0 d false := by
  have hlt := k
  refine ⟨⟨w.heap.size, .slice none 0 0⟩, rfl, ?_, ⟨Blk.new w 45 [.slice none 0 0, .int .i64 0, .bool false], Slc.nil _ _ _, by simp⟩, fun g hg => ?_⟩
  · refine (k.re (fun g hg x => x.elim (fun x => ?_) (fun x => x))).below ((Below.refl _ _).alloc (Nat.le_refl _) _)
    rcases x with e | e
    · simp only at e; omega
    · simp [Value.ownBlock] at e
  · rcases hg with e | e
    · simp only at e; exact ⟨by omega, fun x => x⟩
    · simp [Value.ownBlock] at e
end
theorem insW_perm (t : Wt) : ∀ l : List Wt, (insW t l).Perm (t :: l)
  | [] => .refl _
  | x :: r => by
    simp only [insW]
    split
    · exact ((insW_perm t r).cons x).trans (.swap t x r)
    · exact .refl _
/-- What is added to alike queues. -/
theorem add_alike {l lr : List Wt} (hp : l.Perm lr) (t : Wt) : (addR lr t).1 = (addF l t).1 ∧ (addF l t).2.Perm (addR lr t).2 := by
  have hi : idxB (fun x => x.id == t.id) l ≥ 0 ↔ idxB (fun x => x.id == t.id) lr ≥ 0 := by
    show 0 ≤ _ ↔ 0 ≤ _
    rw [idxB_nonneg, idxB_nonneg]
    exact ⟨fun ⟨x, hx, e⟩ => ⟨x, hp.mem_iff.1 hx, e⟩, fun ⟨x, hx, e⟩ => ⟨x, hp.mem_iff.2 hx, e⟩⟩
  have hl := hp.length_eq
  unfold addF addR
  by_cases hm : mayW t = true
  · rw [if_pos hm, if_pos hm]
    by_cases h1 : idxB (fun x => x.id == t.id) l ≥ 0
    · rw [if_pos h1, if_pos (hi.1 h1)]; exact ⟨rfl, hp⟩
    · rw [if_neg h1, if_neg (fun e => h1 (hi.2 e)), hl]
      split
      · exact ⟨rfl, hp⟩
      · refine ⟨rfl, (insW_perm t l).trans ?_⟩
        exact ((List.Perm.cons t hp)).trans (List.perm_append_singleton t lr).symm
  · rw [if_neg hm, if_neg hm]; exact ⟨rfl, hp⟩
end Go.Proofs.Ytinpaplpgoljpaa
