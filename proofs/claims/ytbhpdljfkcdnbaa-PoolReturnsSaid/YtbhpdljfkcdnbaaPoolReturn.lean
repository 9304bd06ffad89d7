/- Layer 7 (pool): what a script keeps, and that each buffer comes back (plain laws). -/
import Derived.Test.YtbhpdljfkcdnbaaPoolLaw
import Derived.Test.YtbhpdljfkcdnbaaPoolReadB
namespace Go.Proofs.Ytbhpdljfkcdnbaa
open Go.RowKit
set_option linter.unusedVariables false
set_option linter.unusedSimpArgs false
namespace poolReturn
theorem ok_mono {b : Bf} {G G' : Int} (h : b.ok G) (hG : G ≤ G') : b.ok G' := ⟨h.g0, Int.le_trans h.g1 hG, h.o0, h.o1, h.r0, h.r1, h.live, h.len, h.el⟩
theorem mk_ok {G g o r : Int} {l : List Int} (g0 : 0 ≤ g) (g1 : g ≤ G) (o0 : 0 ≤ o) (o1 : o ≤ 3) (r0 : 0 ≤ r) (r1 : r ≤ 100) (lv : o ≠ 0 → 1 ≤ r) (len : l.length ≤ 65536) (el : ∀ x ∈ l, 0 ≤ x ∧ x ≤ 255) : Bf.ok G ⟨g, o, r, l⟩ := ⟨g0, g1, o0, o1, r0, r1, lv, len, el⟩
theorem zeros_el (n : Nat) : ∀ x ∈ List.replicate n (0 : Int), 0 ≤ x ∧ x ≤ 255 := fun x hx => by
  obtain rfl := List.eq_of_mem_replicate hx
  omega
/-- Of a buffer: what an operation on a handle may do: its number stays unless it is free afterwards, and it is not free if it wasn't. -/
structure Sub (G : Int) (b b' : Bf) : Prop where
  ok : b'.ok (G + 1)
  len : b'.bytes.length = b.bytes.length
  live : b'.own ≠ 0 → b'.gen = b.gen
theorem Sub.same {G : Int} {b : Bf} (h : b.ok G) : Sub G b b := ⟨ok_mono h (by omega), rfl, fun _ => rfl⟩
theorem share_sub {G : Int} {b : Bf} (h : b.ok G) : Sub G b (shareB b).2 := by
  unfold shareB
  by_cases h1 : b.own ≠ 1
  · rw [if_pos h1]; exact Sub.same h
  · rw [if_neg h1]
    by_cases h2 : 100 ≤ b.refs
    · rw [if_pos h2]; exact Sub.same h
    · rw [if_neg h2]
      have r0 := h.r0
      have g1 := h.g1
      exact ⟨⟨h.g0, by show b.gen ≤ G + 1; omega, h.o0, h.o1, by show 0 ≤ b.refs + 1; omega, by show b.refs + 1 ≤ 100; omega, fun _ => by show 1 ≤ b.refs + 1; omega, h.len, h.el⟩, rfl, fun _ => rfl⟩
theorem drop_sub {G : Int} {b : Bf} (h : b.ok G) (hl : b.own ≠ 0) : Sub G b (dropB b).2 := by
  unfold dropB
  have r0 := h.live hl
  have r1 := h.r1
  have g1 := h.g1
  have g0 := h.g0
  by_cases h1 : b.own ≠ 1
  · rw [if_pos h1]; exact Sub.same h
  · rw [if_neg h1]
    by_cases h2 : b.refs = 1
    · rw [if_pos h2]
      exact ⟨mk_ok (by omega) (by omega) (by omega) (by omega) (by omega) (by omega) (fun e => absurd rfl e) h.len h.el, rfl, fun e => absurd rfl e⟩
    · rw [if_neg h2]
      exact ⟨⟨h.g0, by show b.gen ≤ G + 1; omega, h.o0, h.o1, by show 0 ≤ b.refs - 1; omega, by show b.refs - 1 ≤ 100; omega, fun _ => by show 1 ≤ b.refs - 1; omega, h.len, h.el⟩, rfl, fun _ => rfl⟩
theorem give_sub {G : Int} {b : Bf} (f t : Int) (h : b.ok G) (hl : b.own ≠ 0) : Sub G b (giveB f t b).2 := by
  unfold giveB
  split
  · exact Sub.same h
  · rename_i hn
    split
    · exact Sub.same h
    · have ht : mayOwn t = true := by
        cases e : mayOwn t with
        | true => rfl
        | false => exact absurd (.inr (.inl e)) hn
      obtain ⟨t1, t3⟩ := mayOwn_iff.1 ht
      have g1 := h.g1
      exact ⟨⟨h.g0, by show b.gen ≤ G + 1; omega, by show 0 ≤ t; omega, t3, h.r0, h.r1, fun _ => h.live hl, h.len, h.el⟩, rfl, fun _ => rfl⟩
theorem mem_over {l k : List Int} {a : Nat} {x : Int} (h : x ∈ over l a k) : x ∈ l ∨ x ∈ k := by
  unfold over at h
  rw [List.mem_append, List.mem_append] at h
  rcases h with (h | h) | h
  · exact .inl (List.mem_of_mem_take h)
  · exact .inr h
  · exact .inl (List.mem_of_mem_drop h)
theorem write_sub {G : Int} {b : Bf} (y a : Int) (k : List Int) (hk : ∀ x ∈ k, 0 ≤ x ∧ x ≤ 255) (h : b.ok G) : Sub G b (writeB y a k b).2 := by
  unfold writeB
  split
  · exact Sub.same h
  · split
    · exact Sub.same h
    · split
      · exact Sub.same h
      · rename_i hn
        have hlen : (over b.bytes a.toNat k).length = b.bytes.length := over_length _ _ _ (by omega)
        have g1 := h.g1
        exact ⟨⟨h.g0, by show b.gen ≤ G + 1; omega, h.o0, h.o1, h.r0, h.r1, h.live, by show (over b.bytes a.toNat k).length ≤ 65536; rw [hlen]; exact h.len, fun x hx => (mem_over hx).elim (h.el x) (hk x)⟩, hlen, fun _ => rfl⟩
/-- What a run keeps of all buffers; all: the handles that were got. -/
structure Inv (G : Int) (Ls : List Nat) (bs : List Bf) (all : List (Int × Int)) : Prop where
  ok : ∀ b ∈ bs, b.ok G
  lens : bs.map (fun b => b.bytes.length) = Ls
  live : ∀ (i : Nat) b, bs[i]? = some b → b.own ≠ 0 → ((i : Int), b.gen) ∈ all
theorem Inv.len {G : Int} {Ls : List Nat} {bs : List Bf} {all : List (Int × Int)} (h : Inv G Ls bs all) : bs.length = Ls.length := by rw [← h.lens]; simp
theorem Inv.later {G G' : Int} {Ls : List Nat} {bs : List Bf} {all : List (Int × Int)} (h : Inv G Ls bs all) (hG : G ≤ G') : Inv G' Ls bs all := ⟨fun b hb => ok_mono (h.ok b hb) hG, h.lens, h.live⟩
theorem map_set_len {bs : List Bf} {i : Nat} {b b' : Bf} (hb : bs[i]? = some b) (hl : b'.bytes.length = b.bytes.length) : (bs.set i b').map (fun b => b.bytes.length) = bs.map (fun b => b.bytes.length) := by
  rw [List.map_set, hl]
  obtain ⟨h1, h2⟩ := List.getElem?_eq_some_iff.1 hb
  subst h2
  apply List.ext_getElem?
  intro j
  rw [List.getElem?_set]
  split
  · rename_i e
    subst e
    simp [h1]
  · rfl
theorem Inv.set {G : Int} {Ls : List Nat} {bs : List Bf} {all all' : List (Int × Int)} (h : Inv G Ls bs all) {i : Nat} {b b' : Bf} (hb : bs[i]? = some b) (hok : b'.ok (G + 1)) (hl : b'.bytes.length = b.bytes.length)
    (hv : b'.own ≠ 0 → ((i : Int), b'.gen) ∈ all') (hs : ∀ x ∈ all, x ∈ all') : Inv (G + 1) Ls (bs.set i b') all' := by
  refine ⟨fun x hx => ?_, (map_set_len hb hl).trans h.lens, fun j x hx hne => ?_⟩
  · rcases List.mem_or_eq_of_mem_set hx with hx | rfl
    · exact ok_mono (h.ok x hx) (by omega)
    · exact hok
  · rw [List.getElem?_set] at hx
    split at hx
    · rename_i e
      subst e
      split at hx
      · injection hx with hx
        subst hx
        exact hv hne
      · cases hx
    · exact hs _ (h.live j x hx hne)
theorem Inv.sub {G : Int} {Ls : List Nat} {bs : List Bf} {all : List (Int × Int)} (h : Inv G Ls bs all) {i : Nat} {b b' : Bf} (hb : bs[i]? = some b) (hb0 : b.own ≠ 0) (s : Sub G b b') : Inv (G + 1) Ls (bs.set i b') all :=
  h.set hb s.ok s.len (fun e => by rw [s.live e]; exact h.live i b hb hb0) fun x hx => hx
theorem Inv.share {G : Int} {Ls : List Nat} {bs : List Bf} {all : List (Int × Int)} (h : Inv G Ls bs all) (s g : Int) : Inv (G + 1) Ls (shareQ s g bs).2 all := by
  unfold shareQ
  cases e : look bs s g with
  | none => exact h.later (by omega)
  | some p =>
    obtain ⟨i, b⟩ := p
    obtain ⟨-, -, hb, h0, -⟩ := look_some e
    exact h.sub hb h0 (share_sub (h.ok b (List.mem_of_getElem? hb)))
theorem Inv.drop {G : Int} {Ls : List Nat} {bs : List Bf} {all : List (Int × Int)} (h : Inv G Ls bs all) (s g : Int) : Inv (G + 1) Ls (dropQ s g bs).2 all := by
  unfold dropQ
  cases e : look bs s g with
  | none => exact h.later (by omega)
  | some p =>
    obtain ⟨i, b⟩ := p
    obtain ⟨-, -, hb, h0, -⟩ := look_some e
    exact h.sub hb h0 (drop_sub (h.ok b (List.mem_of_getElem? hb)) h0)
theorem Inv.give {G : Int} {Ls : List Nat} {bs : List Bf} {all : List (Int × Int)} (h : Inv G Ls bs all) (s g f t : Int) : Inv (G + 1) Ls (giveQ s g f t bs).2 all := by
  unfold giveQ
  cases e : look bs s g with
  | none => exact h.later (by omega)
  | some p =>
    obtain ⟨i, b⟩ := p
    obtain ⟨-, -, hb, h0, -⟩ := look_some e
    exact h.sub hb h0 (give_sub f t (h.ok b (List.mem_of_getElem? hb)) h0)
theorem Inv.write {G : Int} {Ls : List Nat} {bs : List Bf} {all : List (Int × Int)} (h : Inv G Ls bs all) (s g y a : Int) (k : List Int) (hk : ∀ x ∈ k, 0 ≤ x ∧ x ≤ 255) : Inv (G + 1) Ls (writeQ s g y a k bs).2 all := by
  unfold writeQ
  cases e : look bs s g with
  | none => exact h.later (by omega)
  | some p =>
    obtain ⟨i, b⟩ := p
    obtain ⟨-, -, hb, h0, -⟩ := look_some e
    exact h.sub hb h0 (write_sub y a k hk (h.ok b (List.mem_of_getElem? hb)))
/-- A buffer is got: its handle is kept. -/
theorem Inv.get {G : Int} {Ls : List Nat} {bs : List Bf} {all : List (Int × Int)} (h : Inv G Ls bs all) (size : Int) :
    ∃ (s g c : Int) (bs' : List Bf), getP size bs = ((s, g, c), bs') ∧ (c ≠ 0 → Inv (G + 1) Ls bs' all) ∧ (c = 0 → Inv (G + 1) Ls bs' (all ++ [(s, g)])) := by
  have none5 : ∀ (c : Int), c ≠ 0 → ∃ (s g c' : Int) (bs' : List Bf), (((0 : Int), (0 : Int), c), bs) = ((s, g, c'), bs') ∧ (c' ≠ 0 → Inv (G + 1) Ls bs' all) ∧ (c' = 0 → Inv (G + 1) Ls bs' (all ++ [(s, g)])) := fun c hc =>
    ⟨0, 0, c, bs, rfl, fun _ => h.later (by omega), fun e => absurd e hc⟩
  unfold getP
  by_cases h1 : size < 1 ∨ ((bs.getLast?.map fun b => (b.bytes.length : Int)).getD 0) < size
  · rw [if_pos h1]
    exact none5 1 (by omega)
  · rw [if_neg h1]
    cases e : firstP size bs with
    | none => exact none5 5 (by omega)
    | some i =>
      simp only
      cases hb : bs[i]? with
      | none => exact none5 5 (by omega)
      | some b =>
        have ok := h.ok b (List.mem_of_getElem? hb)
        have g1 := ok.g1
        refine ⟨i, b.gen, 0, _, rfl, fun e => absurd rfl e, fun _ => ?_⟩
        exact h.set hb (mk_ok ok.g0 (by omega) (by omega) (by omega) (by omega) (by omega) (fun _ => by omega) (by rw [List.length_replicate]; exact ok.len) (zeros_el _)) List.length_replicate (fun _ => List.mem_append.2 (.inr (List.mem_singleton.2 rfl))) fun x hx => List.mem_append.2 (.inl hx)
/-- Dead: a handle that names no buffer that isn't free. -/
def dead (bs : List Bf) (x : Int × Int) : Prop := look bs x.1 x.2 = none
theorem dead_set {bs : List Bf} {x : Int × Int} {i : Nat} {b b' : Bf} (h : dead bs x) (hb : bs[i]? = some b) (hb0 : b.own ≠ 0) (hg : b'.own ≠ 0 → b'.gen = b.gen) : dead (bs.set i b') x := by
  unfold dead at h ⊢
  cases e : look (bs.set i b') x.1 x.2 with
  | none => rfl
  | some p =>
    obtain ⟨j, c⟩ := p
    obtain ⟨e1, e2, e3, e4, e5⟩ := look_some e
    rw [List.length_set] at e2
    exfalso
    have key : ∀ d : Bf, bs[j]? = some d → d.own ≠ 0 → d.gen = x.2 → False := fun d hd h0 hg2 => by
      unfold look at h
      rw [if_pos (by omega), e1, Int.toNat_natCast, hd] at h
      simp only at h
      rw [if_pos ⟨h0, hg2⟩] at h
      cases h
    rw [List.getElem?_set] at e3
    split at e3
    · rename_i e6
      subst e6
      split at e3
      · injection e3 with e3
        subst e3
        exact key b hb hb0 (by rw [← hg e4]; exact e5)
      · exact absurd e2 (by assumption)
    · exact key c e3 e4 e5
/-- All handles dead: all buffers free. -/
theorem Inv.free {G : Int} {Ls : List Nat} {bs : List Bf} {all : List (Int × Int)} (h : Inv G Ls bs all) (hd : ∀ x ∈ all, dead bs x) : ∀ b ∈ bs, b.own = 0 := by
  intro b hb
  obtain ⟨i, hi, e⟩ := List.mem_iff_getElem.1 hb
  have hb2 : bs[i]? = some b := by rw [← e]; exact List.getElem?_eq_getElem hi
  by_cases h0 : b.own = 0
  · exact h0
  · exfalso
    have := hd _ (h.live i b hb2 h0)
    unfold dead look at this
    rw [if_pos (show (0 : Int) ≤ (i : Int) by omega), Int.toNat_natCast, hb2] at this
    have h2 : b.own ≠ 0 ∧ b.gen = b.gen := ⟨h0, rfl⟩
    dsimp only at this
    rw [if_pos h2] at this
    cases this
theorem free_all {bs : List Bf} (h : ∀ b ∈ bs, b.own = 0) : freeP bs = bs.length := by
  unfold freeP
  rw [List.filter_eq_self.2 (fun b hb => by simp [h b hb])]
theorem mem_bufsOf {S C : Nat → Int} {n : Nat} {x : Bf} (h : x ∈ bufsOf S C n) : ∃ i, i < n ∧ x = ⟨1, 0, 0, List.replicate (S i).toNat 0⟩ := by
  induction n with
  | zero => simp [bufsOf] at h
  | succ n ih =>
    simp only [bufsOf, List.mem_append] at h
    rcases h with h | h
    · obtain ⟨i, hi, e⟩ := ih h
      exact ⟨i, by omega, e⟩
    · exact ⟨n, by omega, (List.mem_replicate.1 h).2⟩
theorem size_pos {S C : Nat → Int} {n : Nat} (h : mayC n S C) : ∀ i, i < n → 1 ≤ S i := by
  intro i
  induction i with
  | zero => intro hi; have := (h.2.2 0 hi).1; simp only [lastC] at this; omega
  | succ i ih => intro hi; have := (h.2.2 (i + 1) hi).1; have := ih (by omega); simp only [lastC] at *; omega
theorem bufsOf_head {S C : Nat → Int} {n : Nat} (hn : 1 ≤ n) (hC : 1 ≤ C 0) : ∃ r, bufsOf S C n = ⟨1, 0, 0, List.replicate (S 0).toNat 0⟩ :: r := by
  induction n with
  | zero => omega
  | succ n ih =>
    by_cases h : n = 0
    · subst h
      obtain ⟨k, hk⟩ : ∃ k, (C 0).toNat = k + 1 := ⟨(C 0).toNat - 1, by omega⟩
      simp only [bufsOf, List.nil_append, hk, List.replicate_succ]
      exact ⟨_, rfl⟩
    · obtain ⟨r, e⟩ := ih (by omega)
      simp only [bufsOf, e, List.cons_append]
      exact ⟨_, rfl⟩
/-- What is asked of the lengths. -/
structure LsOk (S : Nat → Int) (Ls : List Nat) : Prop where
  pos : ∀ x ∈ Ls, 1 ≤ x ∧ x ≤ 65536
  head : ∃ r, Ls = (S 0).toNat :: r
  len : Ls.length ≤ 800
theorem Inv.first {S C : Nat → Int} {n : Nat} (h : mayC n S C) : ∃ Ls, LsOk S Ls ∧ Inv 1 Ls (bufsOf S C n) [] := by
  have sp := size_pos h
  refine ⟨_, ⟨fun x hx => ?_, ?_, ?_⟩, fun b hb => ?_, rfl, fun i b hb h0 => ?_⟩
  · obtain ⟨b, hb, rfl⟩ := List.mem_map.1 hx
    obtain ⟨i, hi, rfl⟩ := mem_bufsOf hb
    have := sp i hi
    have := (h.2.2 i hi).2.1
    simp only [List.length_replicate]
    omega
  · obtain ⟨r, e⟩ := bufsOf_head (S := S) (C := C) h.1 (h.2.2 0 h.1).2.2.1
    rw [e, List.map_cons]
    exact ⟨r.map (fun b => b.bytes.length), by rw [List.length_replicate]⟩
  · have := bufsOf_len S C n fun j hj => (h.2.2 j hj).2.2
    have := h.2.1
    simp only [List.length_map]
    omega
  · obtain ⟨i, hi, rfl⟩ := mem_bufsOf hb
    have := (h.2.2 i hi).2.1
    exact mk_ok (by omega) (by omega) (by omega) (by omega) (by omega) (by omega) (fun e => absurd rfl e) (by rw [List.length_replicate]; omega) (zeros_el _)
  · obtain ⟨j, hj, rfl⟩ := mem_bufsOf (List.mem_of_getElem? hb)
    exact absurd rfl h0
/-- All free: the first one is got, and is empty. -/
theorem Inv.last {G : Int} {S : Nat → Int} {Ls : List Nat} {bs : List Bf} {all : List (Int × Int)} (h : Inv G Ls bs all) (hL : LsOk S Ls) (hf : ∀ b ∈ bs, b.own = 0) :
    ∃ (g : Int) (bs' : List Bf), getP 1 bs = ((0, g, 0), bs') ∧ sizeQ 0 g bs' = (((S 0).toNat : Int), 0) ∧ readQ 0 g 0 ((S 0).toNat : Int) bs' = (some (List.replicate (S 0).toNat 0), 0) ∧ (∀ b ∈ bs', b.bytes.length ≤ 65536) := by
  obtain ⟨r, hr⟩ := hL.head
  have hl := h.lens
  rw [hr] at hl
  obtain ⟨b0, r0, rfl⟩ : ∃ b0 r0, bs = b0 :: r0 := by
    cases bs with
    | nil => cases hl
    | cons b0 r0 => exact ⟨b0, r0, rfl⟩
  simp only [List.map_cons, List.cons.injEq] at hl
  have h0 := hf b0 (List.mem_cons_self ..)
  have len1 : ∀ b ∈ b0 :: r0, 1 ≤ b.bytes.length := fun b hb => (hL.pos _ (by rw [← h.lens]; exact List.mem_map.2 ⟨b, hb, rfl⟩)).1
  have l0 := len1 b0 (List.mem_cons_self ..)
  have hlast : ¬ ((1 : Int) < 1 ∨ (((b0 :: r0).getLast?.map fun b => (b.bytes.length : Int)).getD 0) < 1) := by
    rw [List.getLast?_eq_some_getLast (List.cons_ne_nil b0 r0)]
    have := len1 _ (List.getLast_mem (List.cons_ne_nil b0 r0))
    simp only [Option.map_some, Option.getD_some]
    omega
  have hfi : firstP 1 (b0 :: r0) = some 0 := by
    unfold firstP
    rw [List.findIdx?_cons, if_pos]
    simp only [h0, Bool.and_eq_true, decide_eq_true_eq]
    exact ⟨rfl, by omega⟩
  refine ⟨b0.gen, { b0 with own := 1, refs := 1, bytes := List.replicate b0.bytes.length 0 } :: r0, ?_, ?_, ?_, fun b hb => ?_⟩
  · unfold getP
    rw [if_neg hlast, hfi]
    rfl
  · unfold sizeQ look
    simp [hl.1]
  · rw [← hl.1]
    generalize b0.bytes.length = n0
    unfold readQ look
    simp [readB]
  · rcases List.mem_cons.1 hb with rfl | hb
    · simp only [List.length_replicate]
      exact (h.ok b0 (List.mem_cons_self ..)).len
    · exact (h.ok b (List.mem_cons_of_mem _ hb)).len
/-- A buffer, k times dropped. -/
def D (b : Bf) (k : Nat) : Bf := if (k : Int) < b.refs then { b with own := 1, refs := b.refs - k } else { b with own := 0, refs := 0, gen := b.gen + 1 }
theorem D_zero {b : Bf} {G : Int} (h : b.ok G) (h0 : b.own ≠ 0) : D b 0 = { b with own := 1 } := by
  unfold D
  have := h.live h0
  rw [if_pos (by omega)]
  simp
theorem D_ok {b : Bf} {G : Int} (h : b.ok G) (k : Nat) : (D b k).ok (G + 1) := by
  have g0 := h.g0
  have g1 := h.g1
  have r1 := h.r1
  unfold D
  split
  · exact mk_ok h.g0 (by omega) (by omega) (by omega) (by omega) (by omega) (fun _ => by omega) h.len h.el
  · exact mk_ok (by omega) (by omega) (by omega) (by omega) (by omega) (by omega) (fun e => absurd rfl e) h.len h.el
theorem look_set {bs : List Bf} {i : Nat} {b' : Bf} {g : Int} (hi : i < bs.length) (h0 : b'.own ≠ 0) (hg : b'.gen = g) : look (bs.set i b') i g = some (i, b') := by
  unfold look
  rw [if_pos (by omega), Int.toNat_natCast, List.getElem?_set_self hi]
  simp only
  rw [if_pos ⟨h0, hg⟩]
theorem D_drop {bs : List Bf} {i : Nat} {b : Bf} (hi : i < bs.length) {k : Nat} (hk : (k : Int) < b.refs) : dropQ i b.gen (bs.set i (D b k)) = (0, bs.set i (D b (k + 1))) := by
  have e : D b k = { b with own := 1, refs := b.refs - k } := by unfold D; rw [if_pos hk]
  unfold dropQ
  rw [e, look_set hi (show (1 : Int) ≠ 0 by omega) rfl]
  simp only [List.set_set]
  have e2 : dropB { b with own := 1, refs := b.refs - k } = (0, D b (k + 1)) := by
    unfold dropB D
    by_cases h : b.refs - (k : Int) = 1
    · rw [if_neg (by simp), if_pos h, if_neg (by omega)]
    · rw [if_neg (by simp), if_neg h, if_pos (by omega)]
      congr 2
      simp only
      omega
  rw [e2]
/-- The whole round of a live handle. -/
theorem Inv.gone {G : Int} {Ls : List Nat} {bs : List Bf} {all : List (Int × Int)} (h : Inv G Ls bs all) {i : Nat} {b : Bf} (hb : bs[i]? = some b) (hb0 : b.own ≠ 0) {K : Nat} (hK : b.refs = K) :
    Inv (G + 1) Ls (bs.set i (D b K)) all ∧ (∀ x, dead bs x → dead (bs.set i (D b K)) x) ∧ dead (bs.set i (D b K)) ((i : Int), b.gen) := by
  have e : D b K = { b with own := 0, refs := 0, gen := b.gen + 1 } := by unfold D; rw [if_neg (by omega)]
  have ho : (D b K).own = 0 := by rw [e]
  refine ⟨h.set hb (D_ok (h.ok b (List.mem_of_getElem? hb)) K) (by rw [e]) (fun e2 => absurd ho e2) fun x hx => hx, fun x hx => dead_set hx hb hb0 fun e2 => absurd ho e2, ?_⟩
  have hi := (List.getElem?_eq_some_iff.1 hb).1
  unfold dead look
  simp only
  rw [if_pos (by omega), Int.toNat_natCast, List.getElem?_set_self hi]
  simp only
  rw [if_neg (fun h => h.1 ho)]
end poolReturn
end Go.Proofs.Ytbhpdljfkcdnbaa
