/- Layer 18 (order): a queue that is kept apart, each function of it as a plain function tells; what the first line of each law asks. -/
import Derived.Test.YtinpaplpgoljpaaOrderH
namespace Go.Proofs.Ytinpaplpgoljpaa
open Go.RowKit
set_option linter.unusedVariables false
set_option linter.unusedSimpArgs false
/-- In order, and no number twice. -/
def Fine (l : List Wt) : Prop := l.Pairwise fun a b => ltW a b ∧ a.id ≠ b.id
theorem Fine.sorted {l : List Wt} (h : Fine l) : Sorted l := List.Pairwise.imp (fun h => h.1) h
theorem Fine.nil : Fine [] := List.Pairwise.nil
theorem mem_insW {t y : Wt} : ∀ {l : List Wt}, y ∈ insW t l ↔ y = t ∨ y ∈ l
  | [] => by simp [insW]
  | x :: r => by
    simp only [insW]
    split
    · rw [List.mem_cons, mem_insW (l := r), List.mem_cons]
      constructor
      · rintro (h | h | h) <;> simp [h]
      · rintro (h | h | h) <;> simp [h]
    · rw [List.mem_cons]
theorem insW_fine {t : Wt} : ∀ {l : List Wt}, Fine l → (∀ x ∈ l, x.id ≠ t.id) → Fine (insW t l)
  | [], _, _ => List.pairwise_singleton _ _
  | x :: r, h, hn => by
    unfold Fine at h
    rw [List.pairwise_cons] at h
    have hx := hn x (List.mem_cons_self ..)
    simp only [insW]
    split
    case isTrue hc =>
      refine List.pairwise_cons.2 ⟨fun y hy => ?_, insW_fine h.2 fun y hy => hn y (List.mem_cons_of_mem _ hy)⟩
      rcases mem_insW.1 hy with rfl | hy
      · exact ⟨cmpW_neg.1 hc, hx⟩
      · exact h.1 y hy
    case isFalse hc =>
      have ht : ltW t x := ltW_total (fun e => hc (cmpW_neg.2 e)) hx
      refine List.pairwise_cons.2 ⟨fun y hy => ?_, List.pairwise_cons.2 h⟩
      rcases List.mem_cons.1 hy with rfl | hy
      · exact ⟨ht, Ne.symm hx⟩
      · exact ⟨ltW_trans ht (h.1 y hy).1, Ne.symm (hn y (List.mem_cons_of_mem _ hy))⟩
theorem Fine.add {l : List Wt} (h : Fine l) (t : Wt) : Fine (addF l t).2 := by
  unfold addF
  split
  · split
    · exact h
    · split
      · exact h
      · rename_i h1 h2 h3
        rcases idxB_cases (fun x => x.id == t.id) l with ⟨-, hno⟩ | ⟨i, e, -⟩
        · exact insW_fine h fun x hx => by simpa using hno x hx
        · rw [e] at h2; omega
  · exact h
theorem Fine.drop {l : List Wt} (h : Fine l) (id : Int) : Fine (dropF l id).2 := by
  unfold dropF
  split
  · exact h
  · exact h.sublist (List.eraseIdx_sublist ..)
theorem Fine.take {l : List Wt} (h : Fine l) (hd : Int) (d : Bool) : Fine (takeF l hd d).2.1 := by
  unfold takeF
  split
  · exact h.drop _
  · exact h
def KeptQ (w : World) (p base : Nat) (Far : Nat → Prop) (l : List Wt) (h : Int) (d : Bool) : Prop :=
  ∃ Q, IsQ w Q l h d ∧ Q.q = p ∧ (∀ g, Q.all g → base ≤ g ∧ ¬ Far g) ∧ Fine l
section
variable {w w' : World} {p base : Nat} {Far : Nat → Prop} {l : List Wt} {h : Int} {d : Bool}
theorem KeptQ.fine (k : KeptQ w p base Far l h d) : Fine l := k.choose_spec.2.2.2
theorem KeptQ.below (k : KeptQ w p base Far l h d) (o : Below w.heap.size w w') : KeptQ w' p base Far l h d := by
  obtain ⟨Q, q, r⟩ := k
  exact ⟨Q, q.below o, r⟩
theorem KeptQ.lt (k : KeptQ w p base Far l h d) : p < w.heap.size := by
  obtain ⟨Q, q, rfl, -⟩ := k
  exact q.blk.lt
theorem KeptQ.only {F : Nat → Prop} (k : KeptQ w p base Far l h d) (o : Only F w w') (hF : ∀ g, F g → Far g ∨ w.heap.size ≤ g) : KeptQ w' p base Far l h d := by
  obtain ⟨Q, q, e, r, f⟩ := k
  exact ⟨Q, q.only o (fun g hg ha => (hF g hg).elim (r g ha).2 (fun h => by have := q.lt ha; omega)), e, r, f⟩
theorem KeptQ.re {Far' : Nat → Prop} (k : KeptQ w p base Far l h d) (hF : ∀ g, g < w.heap.size → Far' g → Far g) : KeptQ w p base Far' l h d := by
  obtain ⟨Q, q, e, r, f⟩ := k
  exact ⟨Q, q, e, fun g hg => ⟨(r g hg).1, fun x => (r g hg).2 (hF g (q.lt hg) x)⟩, f⟩
theorem KeptQ.step {Q : Qp} {l' : List Wt} {h' : Int} {d' : Bool} (e : Q.q = p) (r : ∀ g, Q.all g → base ≤ g ∧ ¬ Far g) (f : Fine l') (st : StepQ w w' Q l' h' d') (hF : ∀ g, Far g → g < w.heap.size) (hb : base ≤ w.heap.size) :
    KeptQ w' p base Far l' h' d' ∧ Only (fun g => base ≤ g ∧ ¬ Far g) w w' := by
  obtain ⟨v', k, o, n⟩ := st
  refine ⟨⟨⟨Q.q, v'⟩, k, e, fun g hg => ?_, f⟩, o.mono fun g _ hg => r g hg⟩
  rcases hg with hg | hg
  · exact r g (.inl hg)
  · rcases n g hg with h | h
    · exact r g (.inr h)
    · exact ⟨by omega, fun x => by have := hF g x; omega⟩
theorem add_k (k : KeptQ w p base Far l h d) (hF : ∀ g, Far g → g < w.heap.size) (hb : base ≤ w.heap.size) (t : Wt) :
    Calls Try.prog 11 #[.pointer (some ⟨p, 0, none⟩), wv t] w fun e w' => e = .returned (.int .i64 (addF l t).1) ∧ KeptQ w' p base Far (addF l t).2 h d ∧ Only (fun g => base ≤ g ∧ ¬ Far g) w w' := by
  obtain ⟨Q, q, rfl, r, f⟩ := k
  exact (add_any q f.sorted t).mono fun e w' ⟨he, st⟩ => ⟨he, KeptQ.step rfl r (f.add t) st hF hb⟩
theorem drop_k (k : KeptQ w p base Far l h d) (hF : ∀ g, Far g → g < w.heap.size) (hb : base ≤ w.heap.size) (id : Int) :
    Calls Try.prog 12 #[.pointer (some ⟨p, 0, none⟩), .int .i64 id] w fun e w' => e = .returned (.int .i64 (dropF l id).1) ∧ KeptQ w' p base Far (dropF l id).2 h d ∧ Only (fun g => base ≤ g ∧ ¬ Far g) w w' := by
  obtain ⟨Q, q, rfl, r, f⟩ := k
  exact (drop_any q id).mono fun e w' ⟨he, st⟩ => ⟨he, KeptQ.step rfl r (f.drop id) st hF hb⟩
theorem take_k (k : KeptQ w p base Far l h d) (hF : ∀ g, Far g → g < w.heap.size) (hb : base ≤ w.heap.size) :
    Calls Try.prog 13 #[.pointer (some ⟨p, 0, none⟩)] w fun e w' => e = .returned (.tuple #[wv (takeF l h d).1.1, .int .i64 (takeF l h d).1.2]) ∧ KeptQ w' p base Far (takeF l h d).2.1 (takeF l h d).2.2.1 (takeF l h d).2.2.2 ∧ Only (fun g => base ≤ g ∧ ¬ Far g) w w' := by
  obtain ⟨Q, q, rfl, r, f⟩ := k
  exact (take_any q).mono fun e w' ⟨he, st⟩ => ⟨he, KeptQ.step rfl r (f.take h d) st hF hb⟩
theorem nextq_k (k : KeptQ w p base Far l h d) :
    Calls Try.prog 15 #[.pointer (some ⟨p, 0, none⟩)] w fun e w' => e = .returned (.tuple #[wv (nextF l h d).1, .int .i64 (nextF l h d).2.2]) ∧ KeptQ w' p base Far l h d ∧ Below w.heap.size w w' := by
  have k' := k
  obtain ⟨Q, q, rfl, r, f⟩ := k
  exact (nextq_any q).mono fun e w' ⟨he, b⟩ => ⟨he, k'.below b, b⟩
theorem head_k (k : KeptQ w p base Far l h d) :
    Calls Try.prog 16 #[.pointer (some ⟨p, 0, none⟩)] w fun e w' => e = .returned (.tuple #[.int .i64 h, .bool (!d)]) ∧ KeptQ w' p base Far l h d ∧ Below w.heap.size w w' := by
  have k' := k
  obtain ⟨Q, q, rfl, r, f⟩ := k
  exact (head_any q).mono fun e w' ⟨he, b⟩ => ⟨he, k'.below b, b⟩
end
section
variable {w : World} {p base : Nat} {Far : Nat → Prop} {l : List Wt} {h : Int} {d : Bool}
theorem add_at (k : KeptQ w p base Far l h d) (hF : ∀ g, Far g → g < w.heap.size) (hb : base ≤ w.heap.size) {a b c x : Int} {l' : List Wt} (r : addF l ⟨a, b, c⟩ = (x, l')) :
    Calls Try.prog 11 #[.pointer (some ⟨p, 0, none⟩), .agg #[.int .i64 a, .int .u64 b, .int .i64 c]] w fun e w' => e = .returned (.int .i64 x) ∧ KeptQ w' p base Far l' h d ∧ Only (fun g => base ≤ g ∧ ¬ Far g) w w' := by
  have := add_k k hF hb ⟨a, b, c⟩
  rw [r] at this
  exact this
theorem drop_at (k : KeptQ w p base Far l h d) (hF : ∀ g, Far g → g < w.heap.size) (hb : base ≤ w.heap.size) {id x : Int} {l' : List Wt} (r : dropF l id = (x, l')) :
    Calls Try.prog 12 #[.pointer (some ⟨p, 0, none⟩), .int .i64 id] w fun e w' => e = .returned (.int .i64 x) ∧ KeptQ w' p base Far l' h d ∧ Only (fun g => base ≤ g ∧ ¬ Far g) w w' := by
  have := drop_k k hF hb id
  rw [r] at this
  exact this
theorem take_at (k : KeptQ w p base Far l h d) (hF : ∀ g, Far g → g < w.heap.size) (hb : base ≤ w.heap.size) {a b c x h' : Int} {l' : List Wt} {d' : Bool} (r : takeF l h d = ((⟨a, b, c⟩, x), (l', h', d'))) :
    Calls Try.prog 13 #[.pointer (some ⟨p, 0, none⟩)] w fun e w' => e = .returned (.tuple #[.agg #[.int .i64 a, .int .u64 b, .int .i64 c], .int .i64 x]) ∧ KeptQ w' p base Far l' h' d' ∧ Only (fun g => base ≤ g ∧ ¬ Far g) w w' := by
  have := take_k k hF hb
  rw [r] at this
  exact this
theorem nextq_at (k : KeptQ w p base Far l h d) {a b c x : Int} {dn : Bool} (r : nextF l h d = (⟨a, b, c⟩, dn, x)) :
    Calls Try.prog 15 #[.pointer (some ⟨p, 0, none⟩)] w fun e w' => e = .returned (.tuple #[.agg #[.int .i64 a, .int .u64 b, .int .i64 c], .int .i64 x]) ∧ KeptQ w' p base Far l h d ∧ Below w.heap.size w w' := by
  have := nextq_k k
  rw [r] at this
  exact this
end
theorem newq_k (w : World) : Calls Try.prog 10 #[] w fun e w' => ∃ p, e = .returned (.pointer (some ⟨p, 0, none⟩)) ∧ KeptQ w' p w.heap.size (fun _ => False) [] 0 false ∧ Below w.heap.size w w' :=
  (newq_any w).mono fun e w' ⟨Q, he, k, b, r⟩ => ⟨Q.q, he, ⟨Q, k, rfl, fun g hg => ⟨r g hg, id⟩, .nil⟩, b⟩
abbrev NF : Nat → Prop := fun _ => False
theorem nf {w : World} : ∀ g, NF g → g < w.heap.size := fun g h => h.elim
theorem aw1 : addF [] ⟨9, 1, 5⟩ = (0, [⟨9, 1, 5⟩]) := by decide +kernel
theorem aw2 : takeF [⟨9, 1, 5⟩] 0 false = ((⟨9, 1, 5⟩, 0), ([], 5, false)) := by decide +kernel
theorem aw3 : addF [] ⟨1, 9, 7⟩ = (0, [⟨1, 9, 7⟩]) := by decide +kernel
theorem aw4 : addF [⟨1, 9, 7⟩] ⟨2, 9, 3⟩ = (0, [⟨2, 9, 3⟩, ⟨1, 9, 7⟩]) := by decide +kernel
theorem aw5 : addF [⟨2, 9, 3⟩, ⟨1, 9, 7⟩] ⟨3, 9, 9⟩ = (0, [⟨2, 9, 3⟩, ⟨1, 9, 7⟩, ⟨3, 9, 9⟩]) := by decide +kernel
theorem aw6 : takeF [⟨2, 9, 3⟩, ⟨1, 9, 7⟩, ⟨3, 9, 9⟩] 5 false = ((⟨1, 9, 7⟩, 0), ([⟨2, 9, 3⟩, ⟨3, 9, 9⟩], 7, false)) := by decide +kernel
theorem aw7 : takeF [⟨2, 9, 3⟩, ⟨3, 9, 9⟩] 7 false = ((⟨3, 9, 9⟩, 0), ([⟨2, 9, 3⟩], 9, false)) := by decide +kernel
theorem aw8 : takeF [⟨2, 9, 3⟩] 9 false = ((⟨2, 9, 3⟩, 0), ([], 3, true)) := by decide +kernel
theorem aw9 : takeF [] 3 true = ((⟨0, 0, 0⟩, 5), ([], 3, true)) := by decide +kernel
abbrev F1 (a : Nat) : Nat → Prop := fun g => g = a
abbrev F2 (a b : Nat) : Nat → Prop := fun g => g = a ∨ g = b
abbrev F3 (a b c : Nat) : Nat → Prop := fun g => g = a ∨ g = b ∨ g = c
set_option maxRecDepth 100000 in
set_option maxHeartbeats 2000000 in
theorem awake_any (w : World) : Calls Try.prog 9 #[] w fun e w' => e = .returned (.bool true) ∧ Below w.heap.size w w' := by
  have C0 := fun W => Lib.hid (newq_k W)
  have C1 := fun W p B (k : KeptQ W p B NF [] 0 false) (hb : B ≤ W.heap.size) => Lib.hid (add_at k nf hb aw1)
  have C2 := fun W p B (k : KeptQ W p B NF [⟨9, 1, 5⟩] 0 false) (hb : B ≤ W.heap.size) => Lib.hid (take_at k nf hb aw2)
  have C3 := fun W p B (k : KeptQ W p B NF [] 5 false) (hb : B ≤ W.heap.size) => Lib.hid (add_at k nf hb aw3)
  have C4 := fun W p B (k : KeptQ W p B NF [⟨1, 9, 7⟩] 5 false) (hb : B ≤ W.heap.size) => Lib.hid (add_at k nf hb aw4)
  have C5 := fun W p B (k : KeptQ W p B NF [⟨2, 9, 3⟩, ⟨1, 9, 7⟩] 5 false) (hb : B ≤ W.heap.size) => Lib.hid (add_at k nf hb aw5)
  have C6 := fun W p B (k : KeptQ W p B NF [⟨2, 9, 3⟩, ⟨1, 9, 7⟩, ⟨3, 9, 9⟩] 5 false) (hb : B ≤ W.heap.size) => Lib.hid (take_at k nf hb aw6)
  have C7 := fun W p B F (k : KeptQ W p B F [⟨2, 9, 3⟩, ⟨3, 9, 9⟩] 7 false) (hF : ∀ g, F g → g < W.heap.size) (hb : B ≤ W.heap.size) => Lib.hid (take_at k hF hb aw7)
  have C8 := fun W p B F (k : KeptQ W p B F [⟨2, 9, 3⟩] 9 false) (hF : ∀ g, F g → g < W.heap.size) (hb : B ≤ W.heap.size) => Lib.hid (take_at k hF hb aw8)
  have C9 := fun W p B F (k : KeptQ W p B F [] 3 true) (hF : ∀ g, F g → g < W.heap.size) (hb : B ≤ W.heap.size) => Lib.hid (take_at k hF hb aw9)
  have CH := fun W p B F (k : KeptQ W p B F [] 3 true) => Lib.hid (head_k k)
  go_enter Try.func9, Try.ntmps9
  go_wp2_with (first
    | (go_at_call 10; (with_reducible refine Calls.mono (C0 _).out ?_); rintro e w0 ⟨p, rfl, k0, b0⟩
       have K0 := Lib.hid (show KeptQ w0 p w.heap.size NF [] 0 false from k0)
       have B0 := Lib.hid b0
       have S0 := Lib.hid b0.size
       clear k0 b0)
    | (go_at_call 11; (with_reducible refine Calls.mono (C1 _ _ _ K0.out S0.out).out ?_); rintro e w1 ⟨rfl, k1, o1⟩
       have K1 := Lib.hid k1
       have S1 := Lib.hid (Nat.le_trans S0.out o1.size)
       have B1 := Lib.hid (Below.onlyF B0.out o1 (fun i h => h.1))
       clear k1 o1)
    | (go_at_call 13; (with_reducible refine Calls.mono (C2 _ _ _ K1.out S1.out).out ?_); rintro e w2 ⟨rfl, k2, o2⟩
       have K2 := Lib.hid k2
       have S2 := Lib.hid (Nat.le_trans S1.out o2.size)
       have B2 := Lib.hid (Below.onlyF B1.out o2 (fun i h => h.1))
       clear k2 o2)
    | (go_at_call 11; (with_reducible refine Calls.mono (C3 _ _ _ K2.out S2.out).out ?_); rintro e w3 ⟨rfl, k3, o3⟩
       have K3 := Lib.hid k3
       have S3 := Lib.hid (Nat.le_trans S2.out o3.size)
       have B3 := Lib.hid (Below.onlyF B2.out o3 (fun i h => h.1))
       clear k3 o3)
    | (go_at_call 11; (with_reducible refine Calls.mono (C4 _ _ _ K3.out S3.out).out ?_); rintro e w4 ⟨rfl, k4, o4⟩
       have K4 := Lib.hid k4
       have S4 := Lib.hid (Nat.le_trans S3.out o4.size)
       have B4 := Lib.hid (Below.onlyF B3.out o4 (fun i h => h.1))
       clear k4 o4)
    | (go_at_call 11; (with_reducible refine Calls.mono (C5 _ _ _ K4.out S4.out).out ?_); rintro e w5 ⟨rfl, k5, o5⟩
       have K5 := Lib.hid k5
       have S5 := Lib.hid (Nat.le_trans S4.out o5.size)
       have B5 := Lib.hid (Below.onlyF B4.out o5 (fun i h => h.1))
       clear k5 o5)
    | (go_at_call 13; (with_reducible refine Calls.mono (C6 _ _ _ K5.out S5.out).out ?_); rintro e w6 ⟨rfl, k6, o6⟩
       have S6 := Lib.hid (show w.heap.size ≤ (w6.alloc (.cells #[.int .i64 1, .int .u64 9, .int .i64 7] 30)).heap.size by have := S5.out; have := o6.size; simp at *; omega)
       have B6 := Lib.hid ((Below.onlyF B5.out o6 (fun i h => h.1)).alloc (Below.onlyF B5.out o6 (fun i h => h.1)).size (.cells #[.int .i64 1, .int .u64 9, .int .i64 7] 30))
       have X6 := Lib.hid (Blk.new w6 30 [.int .i64 1, .int .u64 9, .int .i64 7])
       have HF6 : Hid (∀ g, (F1 w6.heap.size) g → g < (w6.alloc (.cells #[.int .i64 1, .int .u64 9, .int .i64 7] 30)).heap.size) := fun g h => by
         subst h; simp
       have k6 := k6.re (Far' := F1 w6.heap.size) (fun g hg h => by
         exact absurd h (by show ¬ _ = _; omega))
       have K6 := Lib.hid (k6.below ((Below.refl _ _).alloc (Nat.le_refl _) (.cells #[.int .i64 1, .int .u64 9, .int .i64 7] 30)))
       clear k6 o6)
    | (go_at_call 13; (with_reducible refine Calls.mono (C7 _ _ _ _ K6.out HF6.out S6.out).out ?_); rintro e w7 ⟨rfl, k7, o7⟩
       have S7 := Lib.hid (show w.heap.size ≤ (w7.alloc (.cells #[.int .i64 3, .int .u64 9, .int .i64 9] 30)).heap.size by have := S6.out; have := o7.size; simp at *; omega)
       have B7 := Lib.hid ((Below.onlyF B6.out o7 (fun i h => h.1)).alloc (Below.onlyF B6.out o7 (fun i h => h.1)).size (.cells #[.int .i64 3, .int .u64 9, .int .i64 9] 30))
       have X7 := Lib.hid (Blk.new w7 30 [.int .i64 3, .int .u64 9, .int .i64 9])
       have X6 := Lib.hid ((X6.out.only o7 (fun h => h.2 rfl)).alloc (.cells #[.int .i64 3, .int .u64 9, .int .i64 9] 30))
       have HF7 : Hid (∀ g, (F2 w6.heap.size w7.heap.size) g → g < (w7.alloc (.cells #[.int .i64 3, .int .u64 9, .int .i64 9] 30)).heap.size) := fun g h => by
         rcases h with h | h
         · subst h; exact X6.out.lt
         · subst h; simp
       have k7 := k7.re (Far' := F2 w6.heap.size w7.heap.size) (fun g hg h => by
         rcases h with h | h
         · exact h
         · omega)
       have K7 := Lib.hid (k7.below ((Below.refl _ _).alloc (Nat.le_refl _) (.cells #[.int .i64 3, .int .u64 9, .int .i64 9] 30)))
       clear k7 o7)
    | (go_at_call 13; (with_reducible refine Calls.mono (C8 _ _ _ _ K7.out HF7.out S7.out).out ?_); rintro e w8 ⟨rfl, k8, o8⟩
       have S8 := Lib.hid (show w.heap.size ≤ (w8.alloc (.cells #[.int .i64 2, .int .u64 9, .int .i64 3] 30)).heap.size by have := S7.out; have := o8.size; simp at *; omega)
       have B8 := Lib.hid ((Below.onlyF B7.out o8 (fun i h => h.1)).alloc (Below.onlyF B7.out o8 (fun i h => h.1)).size (.cells #[.int .i64 2, .int .u64 9, .int .i64 3] 30))
       have X8 := Lib.hid (Blk.new w8 30 [.int .i64 2, .int .u64 9, .int .i64 3])
       have X6 := Lib.hid ((X6.out.only o8 (fun h => h.2 (.inl rfl))).alloc (.cells #[.int .i64 2, .int .u64 9, .int .i64 3] 30))
       have X7 := Lib.hid ((X7.out.only o8 (fun h => h.2 (.inr rfl))).alloc (.cells #[.int .i64 2, .int .u64 9, .int .i64 3] 30))
       have HF8 : Hid (∀ g, (F3 w6.heap.size w7.heap.size w8.heap.size) g → g < (w8.alloc (.cells #[.int .i64 2, .int .u64 9, .int .i64 3] 30)).heap.size) := fun g h => by
         rcases h with h | h | h
         · subst h; exact X6.out.lt
         · subst h; exact X7.out.lt
         · subst h; simp
       have k8 := k8.re (Far' := F3 w6.heap.size w7.heap.size w8.heap.size) (fun g hg h => by
         rcases h with h | h | h
         · exact .inl h
         · exact .inr h
         · omega)
       have K8 := Lib.hid (k8.below ((Below.refl _ _).alloc (Nat.le_refl _) (.cells #[.int .i64 2, .int .u64 9, .int .i64 3] 30)))
       clear k8 o8)
    | (go_at_call 13; (with_reducible refine Calls.mono (C9 _ _ _ _ K8.out HF8.out S8.out).out ?_); rintro e w9 ⟨rfl, k9, o9⟩
       have S9 := Lib.hid (show w.heap.size ≤ (w9.alloc (.cells #[.int .i64 0, .int .u64 0, .int .i64 0] 30)).heap.size by have := S8.out; have := o9.size; simp at *; omega)
       have B9 := Lib.hid ((Below.onlyF B8.out o9 (fun i h => h.1)).alloc (Below.onlyF B8.out o9 (fun i h => h.1)).size (.cells #[.int .i64 0, .int .u64 0, .int .i64 0] 30))
       have K9 := Lib.hid (k9.below ((Below.refl _ _).alloc (Nat.le_refl _) (.cells #[.int .i64 0, .int .u64 0, .int .i64 0] 30)))
       have X6 := Lib.hid ((X6.out.only o9 (fun h => h.2 (.inl rfl))).alloc (.cells #[.int .i64 0, .int .u64 0, .int .i64 0] 30))
       have X7 := Lib.hid ((X7.out.only o9 (fun h => h.2 (.inr (.inl rfl)))).alloc (.cells #[.int .i64 0, .int .u64 0, .int .i64 0] 30))
       have X8 := Lib.hid ((X8.out.only o9 (fun h => h.2 (.inr (.inr rfl)))).alloc (.cells #[.int .i64 0, .int .u64 0, .int .i64 0] 30))
       clear k9 o9)
    | (go_at_call 16; (with_reducible refine Calls.mono (CH _ _ _ _ K9.out).out ?_); rintro e w10 ⟨rfl, k10, b10⟩
       have B10 := Lib.hid (Below.next B9.out b10)
       have x6 := (X6.out.below b10 X6.out.lt).cell 0
       have l6 := (X6.out.below b10 X6.out.lt).lt
       have x7 := (X7.out.below b10 X7.out.lt).cell 0
       have l7 := (X7.out.below b10 X7.out.lt).lt
       have x8 := (X8.out.below b10 X8.out.lt).cell 0
       have l8 := (X8.out.below b10 X8.out.lt).lt
       clear k10 b10))
  go_ret
  exact ⟨rfl, B10.out⟩
end Go.Proofs.Ytinpaplpgoljpaa
