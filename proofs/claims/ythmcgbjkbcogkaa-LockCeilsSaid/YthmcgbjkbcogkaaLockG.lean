/- Layer 23 (lock): each function of a keeper, as a plain function tells; what the first line of each law asks. -/
import Derived.Test.YthmcgbjkbcogkaaLockF
namespace Go.Proofs.Ythmcgbjkbcogkaa
open Go.RowKit
open Go.Maps (Keyed)
set_option linter.unusedVariables false
set_option linter.unusedSimpArgs false
/-- Who holds a lock. -/
def who (ms : Int → Option Mm) (l : Int) : Option Nat := (List.range 64).find? fun j => decide (l ∈ heldM (ms j))
theorem holds_iff {ms : Int → Option Mm} {i l : Int} : holds ms i l ↔ l ∈ heldM (ms i) := by
  unfold holds
  cases ms i with
  | none => simp [heldM]
  | some m => simp [heldM]
theorem who_some {ms : Int → Option Mm} {l : Int} {j : Nat} (h : who ms l = some j) : holds ms j l := by
  have := List.find?_some h
  exact holds_iff.2 (of_decide_eq_true this)
theorem who_none {ms : Int → Option Mm} {l : Int} (ids : ∀ i m, ms i = some m → 0 ≤ i ∧ i ≤ 63) (h : who ms l = none) (i : Int) : ¬ holds ms i l := by
  intro hh
  obtain ⟨m, hm, hl⟩ := hh
  have hi := ids i m hm
  obtain ⟨n, rfl⟩ : ∃ n : Nat, i = n := ⟨i.toNat, by omega⟩
  have := (List.find?_eq_none.1 h) n (by simp; omega)
  exact this (decide_eq_true (holds_iff.1 ⟨m, hm, hl⟩))
def takeF (cs : List Int) (ms : Int → Option Mm) (i l : Int) : Int × (Int → Option Mm) :=
  if ¬ (0 ≤ l ∧ l < cs.length) then (1, ms) else match ms i with
    | none => (6, ms)
    | some m => if l ∈ m.held then (7, ms) else if m.prio < cs.getD l.toNat 0 then (11, ms) else if (who ms l).isSome then (10, ms) else (0, upd ms i ⟨m.prio, m.held ++ [l]⟩)
def backF (cs : List Int) (ms : Int → Option Mm) (i l : Int) : Int × (Int → Option Mm) :=
  if ¬ (0 ≤ l ∧ l < cs.length) then (1, ms) else match ms i with
    | none => (6, ms)
    | some m => if idxP m.held l < 0 then (8, ms) else if idxP m.held l < (m.held.length : Int) - 1 then (12, ms) else (0, upd ms i ⟨m.prio, m.held.take (m.held.length - 1)⟩)
def knowF (ms : Int → Option Mm) (i p : Int) : Int × (Int → Option Mm) := if heldM (ms i) = [] then (0, upd ms i ⟨p, []⟩) else (10, ms)
def holderF (ms : Int → Option Mm) (l : Int) : Int × Bool := match who ms l with
  | some j => (j, true)
  | none => (0, false)
section
variable {w : World} {K : Kp} {cs : List Int} {ms : Int → Option Mm}
theorem take_f (k : IsK w K cs ms) (i l : Int) (hi : 0 ≤ i ∧ i ≤ 63) (hN : K.N + 1 ≤ 1000) :
    Calls Try.prog 14 #[.pointer (some ⟨K.k, 0, none⟩), .int .i64 i, .int .i64 l] w fun e w' => ∃ K', e = .returned (.int .i64 (takeF cs ms i l).1) ∧ Step w w' K K' cs (takeF cs ms i l).2 := by
  refine (take_any k i l hi hN).mono fun e w' ⟨c, K', ms', he, st, h⟩ => ?_
  have key : takeF cs ms i l = (c, ms') := by
    unfold takeF
    rcases h with ⟨h, rfl, rfl⟩ | ⟨h, hm, rfl, rfl⟩ | ⟨m, h, hm, h2⟩
    · rw [if_pos h]
    · rw [if_neg (by simpa using h), hm]
    · rw [if_neg (by simpa using h), hm]
      simp only
      rcases h2 with ⟨a, rfl, rfl⟩ | ⟨a, b, rfl, rfl⟩ | ⟨a, b, ⟨j, hj, hh⟩, rfl, rfl⟩ | ⟨a, b, rfl, rfl⟩
      · have := holds_iff.1 a
        rw [hm] at this
        rw [if_pos (show l ∈ m.held from this)]
      · rw [if_neg (fun x => a ⟨m, hm, x⟩), if_pos b]
      · rw [if_neg (fun x => a ⟨m, hm, x⟩), if_neg (Int.not_lt.2 b), if_pos]
        cases e : who ms' l with
        | some _ => rfl
        | none => exact absurd hh (who_none k.ids e j)
      · rw [if_neg (fun x => a i ⟨m, hm, x⟩), if_neg (Int.not_lt.2 b), if_neg]
        cases e : who ms l with
        | some j => exact absurd (who_some e) (a j)
        | none => simp
  rw [key]
  exact ⟨K', he, st⟩
theorem back_f (k : IsK w K cs ms) (i l : Int) (hi : 0 ≤ i ∧ i ≤ 63) (hN : K.N + 1 ≤ 1000) :
    Calls Try.prog 15 #[.pointer (some ⟨K.k, 0, none⟩), .int .i64 i, .int .i64 l] w fun e w' => ∃ K', e = .returned (.int .i64 (backF cs ms i l).1) ∧ Step w w' K K' cs (backF cs ms i l).2 := by
  refine (back_any k i l hi hN).mono fun e w' ⟨c, K', ms', he, st, h⟩ => ?_
  have key : backF cs ms i l = (c, ms') := by
    unfold backF
    rcases h with ⟨h, rfl, rfl⟩ | ⟨h, hm, rfl, rfl⟩ | ⟨m, h, hm, h2⟩
    · rw [if_pos h]
    · rw [if_neg (by simpa using h), hm]
    · rw [if_neg (by simpa using h), hm]
      simp only
      rcases h2 with ⟨a, rfl, rfl⟩ | ⟨a, b, rfl, rfl⟩ | ⟨a, b, rfl, rfl⟩
      · rw [if_pos a]
      · rw [if_neg (by omega), if_pos b]
      · rw [if_neg (by omega), if_neg (by omega)]
  rw [key]
  exact ⟨K', he, st⟩
theorem know_f (k : IsK w K cs ms) (i p : Int) (hi : 0 ≤ i ∧ i ≤ 63) (hp : 0 ≤ p ∧ p ≤ 100) (hN : K.N + 1 ≤ 1000) :
    Calls Try.prog 11 #[.pointer (some ⟨K.k, 0, none⟩), .int .i64 i, .int .i64 p] w fun e w' => ∃ K', e = .returned (.int .i64 (knowF ms i p).1) ∧ Step w w' K K' cs (knowF ms i p).2 := by
  refine (know_any k i p hi hp hN).mono fun e w' ⟨K', ms', st, h⟩ => ?_
  unfold knowF
  rcases h with ⟨h, he, rfl⟩ | ⟨h, he, rfl⟩
  · rw [if_pos h]; exact ⟨K', he, st⟩
  · rw [if_neg h]; exact ⟨K', he, st⟩
theorem holder_f (k : IsK w K cs ms) (l : Int) :
    Calls Try.prog 17 #[.pointer (some ⟨K.k, 0, none⟩), .int .i64 l] w fun e w' => e = .returned (.tuple #[.int .i64 (holderF ms l).1, .bool (holderF ms l).2]) ∧ Below w.heap.size w w' := by
  refine (holder_any k l).mono fun e w' ⟨h, hb⟩ => ⟨?_, hb⟩
  unfold holderF
  rcases h with ⟨i, hi, rfl⟩ | ⟨hno, rfl⟩
  · cases e : who ms l with
    | some j => rw [k.uniq _ _ _ hi (who_some e)]
    | none => exact absurd hi (who_none k.ids e i)
  · cases e : who ms l with
    | some j => exact absurd (who_some e) (hno j)
    | none => rfl
end
/-- A keeper at p, whose blocks lie behind base and aren't Far. -/
def Kept (w : World) (p N base : Nat) (Far : Nat → Prop) (cs : List Int) (ms : Int → Option Mm) : Prop :=
  ∃ K, IsK w K cs ms ∧ K.k = p ∧ K.N ≤ N ∧ ∀ g, K.all g → base ≤ g ∧ ¬ Far g
section
variable {w w' : World} {p N base : Nat} {Far : Nat → Prop} {cs : List Int} {ms : Int → Option Mm}
theorem Kept.below (h : Kept w p N base Far cs ms) (o : Below w.heap.size w w') : Kept w' p N base Far cs ms := by
  obtain ⟨K, k, r⟩ := h
  exact ⟨K, k.below o, r⟩
theorem Kept.only {F : Nat → Prop} (h : Kept w p N base Far cs ms) (o : Only F w w') (hF : ∀ g, F g → Far g ∨ w.heap.size ≤ g) : Kept w' p N base Far cs ms := by
  obtain ⟨K, k, e, hN, r⟩ := h
  exact ⟨K, k.only o (fun g hg ha => (hF g hg).elim (r g ha).2 (fun h => by have := k.lt ha; omega)), e, hN, r⟩
theorem Kept.re {Far' : Nat → Prop} (h : Kept w p N base Far cs ms) (hF : ∀ g, g < w.heap.size → Far' g → Far g) : Kept w p N base Far' cs ms := by
  obtain ⟨K, k, e, hN, r⟩ := h
  exact ⟨K, k, e, hN, fun g hg => ⟨(r g hg).1, fun f => (r g hg).2 (hF g (k.lt hg) f)⟩⟩
theorem Kept.more {M : Nat} (h : Kept w p N base Far cs ms) (hM : N ≤ M) : Kept w p M base Far cs ms := by
  obtain ⟨K, k, e, hN, r⟩ := h
  exact ⟨K, k, e, Nat.le_trans hN hM, r⟩
theorem Kept.step {cs' : List Int} {ms' : Int → Option Mm} {K K' : Kp} (e : K.k = p) (hN : K.N ≤ N) (r : ∀ g, K.all g → base ≤ g ∧ ¬ Far g) (st : Step w w' K K' cs' ms') (hF : ∀ g, Far g → g < w.heap.size) (hb : base ≤ w.heap.size) :
    Kept w' p (N + 1) base Far cs' ms' ∧ Only (fun g => base ≤ g ∧ ¬ Far g) w w' := by
  refine ⟨⟨K', st.is, st.k.trans e, Nat.le_trans st.N (by omega), fun g hg => ?_⟩, st.only.mono fun g _ hg => r g hg⟩
  rcases st.new g hg with h | h
  · exact r g h
  · exact ⟨by omega, fun f => by have := hF g f; omega⟩
theorem take_k (h : Kept w p N base Far cs ms) (hF : ∀ g, Far g → g < w.heap.size) (hb : base ≤ w.heap.size) (i l : Int) (hi : 0 ≤ i ∧ i ≤ 63) (hN : N + 1 ≤ 1000) :
    Calls Try.prog 14 #[.pointer (some ⟨p, 0, none⟩), .int .i64 i, .int .i64 l] w fun e w' => e = .returned (.int .i64 (takeF cs ms i l).1) ∧ Kept w' p (N + 1) base Far cs (takeF cs ms i l).2 ∧ Only (fun g => base ≤ g ∧ ¬ Far g) w w' := by
  obtain ⟨K, k, rfl, hn, r⟩ := h
  exact (take_f k i l hi (by omega)).mono fun e w' ⟨K', he, st⟩ => ⟨he, Kept.step rfl hn r st hF hb⟩
theorem back_k (h : Kept w p N base Far cs ms) (hF : ∀ g, Far g → g < w.heap.size) (hb : base ≤ w.heap.size) (i l : Int) (hi : 0 ≤ i ∧ i ≤ 63) (hN : N + 1 ≤ 1000) :
    Calls Try.prog 15 #[.pointer (some ⟨p, 0, none⟩), .int .i64 i, .int .i64 l] w fun e w' => e = .returned (.int .i64 (backF cs ms i l).1) ∧ Kept w' p (N + 1) base Far cs (backF cs ms i l).2 ∧ Only (fun g => base ≤ g ∧ ¬ Far g) w w' := by
  obtain ⟨K, k, rfl, hn, r⟩ := h
  exact (back_f k i l hi (by omega)).mono fun e w' ⟨K', he, st⟩ => ⟨he, Kept.step rfl hn r st hF hb⟩
theorem know_k (h : Kept w p N base Far cs ms) (hF : ∀ g, Far g → g < w.heap.size) (hb : base ≤ w.heap.size) (i q : Int) (hi : 0 ≤ i ∧ i ≤ 63) (hq : 0 ≤ q ∧ q ≤ 100) (hN : N + 1 ≤ 1000) :
    Calls Try.prog 11 #[.pointer (some ⟨p, 0, none⟩), .int .i64 i, .int .i64 q] w fun e w' => e = .returned (.int .i64 (knowF ms i q).1) ∧ Kept w' p (N + 1) base Far cs (knowF ms i q).2 ∧ Only (fun g => base ≤ g ∧ ¬ Far g) w w' := by
  obtain ⟨K, k, rfl, hn, r⟩ := h
  exact (know_f k i q hi hq (by omega)).mono fun e w' ⟨K', he, st⟩ => ⟨he, Kept.step rfl hn r st hF hb⟩
theorem holder_k (h : Kept w p N base Far cs ms) (l : Int) :
    Calls Try.prog 17 #[.pointer (some ⟨p, 0, none⟩), .int .i64 l] w fun e w' => e = .returned (.tuple #[.int .i64 (holderF ms l).1, .bool (holderF ms l).2]) ∧ Kept w' p N base Far cs ms ∧ Below w.heap.size w w' := by
  have h0 := h
  obtain ⟨K, k, rfl, hn, r⟩ := h
  exact (holder_f k l).mono fun e w' ⟨he, hb⟩ => ⟨he, h0.below hb, hb⟩
theorem prio_k (h : Kept w p N base Far cs ms) (i : Int) (hi : 0 ≤ i ∧ i ≤ 63) :
    Calls Try.prog 13 #[.pointer (some ⟨p, 0, none⟩), .int .i64 i] w fun e w' => e = .returned (.tuple #[.int .i64 (prioM cs (ms i)).1, .int .i64 (prioM cs (ms i)).2]) ∧ w = w' := by
  obtain ⟨K, k, rfl, hn, r⟩ := h
  exact prio_any k i hi
theorem held_k (h : Kept w p N base Far cs ms) (i : Int) (hi : 0 ≤ i ∧ i ≤ 63) :
    Calls Try.prog 10 #[.pointer (some ⟨p, 0, none⟩), .int .i64 i] w fun e w' => ∃ A c, e = .returned (.slice A (heldM (ms i)).length c) ∧ Slc w' 3 1 (.slice A (heldM (ms i)).length c) (heldM (ms i)).length (ints (heldM (ms i))) ∧ Kept w' p N base Far cs ms ∧ Below w.heap.size w w' := by
  have h0 := h
  obtain ⟨K, k, rfl, hn, r⟩ := h
  exact (held_any k i hi).mono fun e w' ⟨A, c, he, hs, hb, ho⟩ => ⟨A, c, he, hs, h0.below hb, hb⟩
theorem gone_k (h : Kept w p N base Far cs ms) (hF : ∀ g, Far g → g < w.heap.size) (hb : base ≤ w.heap.size) (i : Int) (hi : 0 ≤ i ∧ i ≤ 63) :
    Calls Try.prog 16 #[.pointer (some ⟨p, 0, none⟩), .int .i64 i] w fun e w' => ∃ A c, e = .returned (.slice A (heldM (ms i)).length c) ∧ Slc w' 3 1 (.slice A (heldM (ms i)).length c) (heldM (ms i)).length (ints (heldM (ms i)).reverse) ∧ (∀ g, (Value.slice A (heldM (ms i)).length c).ownBlock = some g → w.heap.size ≤ g) ∧ Kept w' p (N + 1) base Far cs (without ms i) ∧ Only (fun g => base ≤ g ∧ ¬ Far g) w w' := by
  obtain ⟨K, k, rfl, hn, r⟩ := h
  exact (gone_any k i hi).mono fun e w' ⟨A, c, K', he, hs, ho, st⟩ => ⟨A, c, he, hs, ho, Kept.step rfl hn r st hF hb⟩
theorem new_k (w : World) (A : Option Addr) (n c : Nat) (U : Nat → Int) (hs : IntsAt w .i64 A n U) (hm : Good n U) :
    Calls Try.prog 9 #[.slice A n c] w fun e w' => ∃ p, e = .returned (.tuple #[.pointer (some ⟨p, 0, none⟩), .int .i64 0]) ∧ Kept w' p 0 w.heap.size (fun _ => False) (lst n U) (fun _ => none) ∧ Below w.heap.size w w' ∧ w.heap.size ≤ p := by
  refine (newk_any w A n c U hs hm).mono fun e w' ⟨p, K, he, m⟩ => ?_
  exact ⟨p, he, ⟨K, m.is, m.k, Nat.le_of_eq m.N0, fun g hg => ⟨m.low g hg, fun f => f⟩⟩, m.bel, m.k ▸ m.low _ (.inl rfl)⟩
end
end Go.Proofs.Ythmcgbjkbcogkaa
