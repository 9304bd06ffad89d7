/- Layer 6 (bus): any step of a script, of both buses (what BusPlays' walk stands on). -/
import Derived.Test.YtbfhohcimomphaaBusBothB
import Derived.Test.YtbfhohcimomphaaBusFar
import Derived.Test.YtbfhohcimomphaaArgN
namespace Go.Proofs.Ytbfhohcimomphaa
open Go.RowKit
set_option linter.unusedVariables false
set_option linter.unusedSimpArgs false
namespace busPlay
open busBoth
theorem Al.good {L : List Mp} {ph T T' : Int} {n : Nat} {B : Bu} {M : Nat → Ms} {c : Nat → Int} {H : List (Int × Int)} (h : Al L ph n T B M c H) (hT : T ≤ T') : GoodB L ph n T' B :=
  ⟨⟨h.g.at_.ok, h.g.at_.l16, h.g.at_.lm, h.g.at_.st, h.g.at_.row, h.g.at_.last, fun hb => by have := h.g.at_.next hb; omega, by have := h.g.at_.ph; omega, h.g.at_.n0⟩, h.g.hL, h.g.hp, fun i m hm => by
    obtain ⟨s, e1, e2⟩ := h.g.met i m hm
    exact ⟨s, e1, e2.later hT⟩⟩
theorem Al.first {L : List Mp} {ph : Int} (ok : ∀ m ∈ L, m.ok) (h16 : L.length ≤ 16) (p0 : 0 ≤ ph) (p1 : ph < 4611686018427387904) : Al L ph 0 ph (newB L ph L.length) (ML L ph) (fun _ => 0) [] := by
  have ht : L.take L.length = L := List.take_length
  refine ⟨⟨newB_at ok h16 p0 p1, by simp [newB], rfl, fun i m hm => ?_⟩, p0, .inl ⟨rfl, rfl, rfl, rfl, rfl⟩, fun i m hm => ?_, fun id => ?_, (fun e he => by cases he), rfl, fun k hk => ?_, fun _ => rfl⟩
  · have okm := ok m (List.mem_of_getElem? hm)
    exact ⟨⟨m.b, m.p, ph, ph, 0, 0⟩, by simp only [newB, ht, List.getElem?_map, hm]; rfl, NowM.new okm.may p0 p1⟩
  · have okm := ok m (List.mem_of_getElem? hm)
    have e : ML L ph i = m0 m ph := by unfold ML; rw [hm]
    exact ⟨m0 m ph, by simp only [newB, ht, List.getElem?_map, hm]; rfl, by rw [e]; exact NowM.new okm.may p0 p1, fun T' _ => by rw [e]⟩
  · show (0 : Int) = if (id : Int) = -1 then 0 else 0
    split <;> rfl
  · show (List.replicate 16 (0 : Int))[k]? = some 0
    rw [List.getElem?_replicate, if_pos (by omega)]
theorem best_is (can : Nat → Bool) (pri : Nat → Int) (n : Nat) : ∃ b, BestR can pri n b := by
  induction n with
  | zero => exact ⟨-1, .inl ⟨rfl, fun j h => by omega⟩⟩
  | succ n ih =>
    obtain ⟨b, h⟩ := ih
    cases hc : can n with
    | false => exact ⟨b, h.no hc⟩
    | true =>
      by_cases h1 : b < 0 ∨ pri n < pri b.toNat
      · exact ⟨n, h.first hc h1⟩
      · exact ⟨b, h.keep (by omega) (fun h2 => h1 (.inr h2))⟩
/-- What the program's slot does. -/
def P1 (A : Bl) (x y : Int) (B' : Bu) (W : World) (e : Ending) (w' : World) : Prop :=
  e = .returned (.tuple #[.int .i64 x, .int .i64 y]) ∧ IsB w' A B' ∧ Only A.own W w'
/-- What the reference's slot does. -/
def P2 (R : Rl) (L : List Mp) (ph : Int) (n : Nat) (B' : Bu) (x y : Int) (W : World) (e : Ending) (w' : World) : Prop :=
  e = .returned (.tuple #[.int .i64 x, .int .i64 y]) ∧ ∃ (R' : Rl) (n' : Nat) (T' : Int) (M' : Nat → Ms) (c' : Nat → Int) (H' : List (Int × Int)), n' ≤ n + 1 ∧ R'.p = R.p ∧ R'.av = R.av ∧ IsRB w' R' L.length M' c' H' ph ∧ Al L ph n' T' B' M' c' H' ∧ (∀ e ∈ H', 0 ≤ e.1 ∧ e.1 < 4611686018427387904) ∧ Only (R.all L.length) W w' ∧ (∀ a, R'.all L.length a → R.all L.length a ∨ W.heap.size ≤ a)
theorem step_any {L : List Mp} {ph T : Int} {n : Nat} {A : Bl} {B : Bu} {R : Rl} {M : Nat → Ms} {c : Nat → Int} {H : List (Int × Int)} (h : Al L ph n T B M c H) (hH : ∀ e ∈ H, 0 ≤ e.1 ∧ e.1 < 4611686018427387904) (ok : ∀ m ∈ L, m.ok) (n16 : L.length ≤ 16) (p0 : 0 ≤ ph) (p1 : ph < 4611686018427387904) (hn : n ≤ 120)
    (w : World) (A0 : Option Addr) (cap : Nat) (hA : Mps w A0 L) (hav : R.av = .slice A0 L.length cap) (hR : ∀ a, R.all L.length a → w.heap.size ≤ a)
    (N : Int) (N0 : 0 ≤ N) (N1 : N ≤ 18446744073709551615) (l : List Int) (hl : l.length ≤ 40) (Aw : Option Addr) (cw : Nat) (hs : Src w 1 Aw l.length (intCells l)) :
    ∃ (x y : Int) (B' : Bu), (∀ W, Below w.heap.size w W → IsB W A B → Calls Try.prog 12 #[.pointer (some ⟨A.p, 0, none⟩), .int .u64 N, .slice Aw l.length cw] W (P1 A x y B' W)) ∧
      (∀ W, Below w.heap.size w W → IsRB W R L.length M c H ph → Calls Try.prog 18 #[.pointer (some ⟨R.p, 0, none⟩), .int .u64 N, .slice Aw l.length cw] W (P2 R L ph n B' x y W)) := by
  have hBL := h.g.hL
  have hBp := h.g.hp
  have hlH := h.hl
  by_cases hok : N < 4611686018427387904 ∧ okWants l L.length = true ∧ T ≤ N
  · obtain ⟨h1, h2, h3⟩ := hok
    have T0 := h.T0
    obtain ⟨b, hb⟩ := best_is (canR N (wants l) L M H) (priR L) L.length
    obtain ⟨B', e1, -⟩ := h.step ok h3 h1 _ hb (M' := fun j => if (j : Int) = b then tk N (M j) else onS N (M j)) (fun j _ => rfl)
    refine ⟨if b < 0 then 0 else b, if b < 0 then 5 else 0, B', fun W be k => ?_, fun W be k => ?_⟩
    · have c0 := slot_run k (h.good h3).at_ (by omega) (by omega) h1 l Aw cw (hs.below be) (by omega) (by rw [hBL]; exact h2)
      rw [e1] at c0
      exact Calls.mono c0 fun e w' ⟨q1, q2, q3, q4⟩ => ⟨q1, q2, q4⟩
    · have c2 := rslot_ok (T := N) k A0 cap hav (Lib.hid fun W' o => hA.below (Below.onlyF be o hR)) (Lib.hid ok)
        (Lib.hid ⟨fun i m hm => by obtain ⟨s, -, nw, -⟩ := h.m i m hm; exact nw.later h3⟩) n16 (by omega) h1 p0 (by have := (h.good h3).at_.ph; rw [hBp] at this; exact this) (Lib.hid fun e he => by have := h.hH e he; omega) (by omega)
        (Lib.hid fun k hk => by have := h.g.at_.st _ (List.mem_of_getElem? (h.c k hk)); omega) l Aw cw (Lib.hid (hs.below be)) (by omega) (Lib.hid h2)
      refine Calls.mono c2 fun e w' ⟨b3, R3, M3, q1, he, q2, q3, q4, q5, q6, q7⟩ => ?_
      obtain rfl := q1.uniq hb
      obtain ⟨B4, e4, al4⟩ := h.step ok h3 h1 _ hb q5
      rw [e1] at e4
      cases e4
      refine ⟨he, R3, n + 1, N + 1, M3, _, _, Nat.le_refl _, q2, q3, q4, al4, fun e he => ?_, q6, q7⟩
      have := al4.hH e he
      omega
  · have hx : 4611686018427387904 ≤ N ∨ okWants l L.length = false ∨ (N < ph ∨ (B.beg = true ∧ N ≤ B.last ∧ ∃ e, H[H.length - 1]? = some e ∧ N ≤ e.1)) := by
      by_cases h1 : 4611686018427387904 ≤ N
      · exact .inl h1
      · cases h2 : okWants l L.length with
        | false => exact .inr (.inl rfl)
        | true =>
          refine .inr (.inr ?_)
          have h3 : ¬ T ≤ N := fun h3 => hok ⟨by omega, h2, h3⟩
          rcases h.hb with ⟨e1, e2, e3, e4, e5⟩ | ⟨e1, e2, b, r, e3, e4, e5⟩
          · left; omega
          · right
            refine ⟨e1, by omega, (B.last, b), ?_, by show N ≤ B.last; omega⟩
            have hh : H = r.reverse ++ [(B.last, b)] := by
              have := congrArg List.reverse e3
              rw [List.reverse_reverse] at this
              rw [this, List.reverse_cons]
            rw [hh]
            simp
    refine ⟨0, codeB N, B, fun W be k => ?_, fun W be k => ?_⟩
    · have c0 := slot_err k N N0 N1 (by rw [hBL]; exact n16) l Aw cw (hs.below be) (by omega) (by
        rw [hBL, hBp]
        rcases hx with hx | hx | hx | ⟨hx1, hx2, -⟩
        · exact .inl hx
        · exact .inr (.inl hx)
        · exact .inr (.inr (.inl hx))
        · exact .inr (.inr (.inr ⟨hx1, hx2⟩)))
      exact Calls.mono c0 fun e w' ⟨q1, q2⟩ => ⟨q1, k.below q2, Only.of_below q2⟩
    · have c2 := rslot_err k A0 cap hav N0 N1 n16 p0 (by omega) (Lib.hid hH) (by omega) l Aw cw (Lib.hid (hs.below be)) (by omega) (Lib.hid (by
        rcases hx with hx | hx | hx | ⟨-, -, hx⟩
        · exact .inl hx
        · exact .inr (.inl hx)
        · exact .inr (.inr (.inl hx))
        · exact .inr (.inr (.inr hx))))
      exact Calls.mono c2 fun e w' ⟨q1, q2⟩ => ⟨q1, R, n, T, M, c, H, by omega, rfl, rfl, k.below q2, h, hH, Only.of_below q2, fun a ha => .inl ha⟩
/-- A new bus, whatever it is asked of. -/
def NewP (w : World) (L : List Mp) (ph : Int) (e : Ending) (w' : World) : Prop :=
  ∃ (pv : Value) (y : Int), e = .returned (.tuple #[pv, .int .i64 y]) ∧ Below w.heap.size w w' ∧ (¬ allB L → pv = .pointer none ∧ y = 1) ∧ (allB L → 4611686018427387904 ≤ ph → pv = .pointer none ∧ y = 2) ∧
    (allB L → ph < 4611686018427387904 → ∃ A : Bl, pv = .pointer (some ⟨A.p, 0, none⟩) ∧ y = 0 ∧ IsB w' A (newB L ph L.length) ∧ ∀ a, A.all a → w.heap.size ≤ a)
theorem new_play (w : World) (Aa : Option Addr) (cap : Nat) (L : List Mp) (ph : Int) (hA : Mps w Aa L) (hL : ∀ m ∈ L, m.rng) (hn : L.length ≤ 40) (p0 : 0 ≤ ph) (p1 : ph ≤ 18446744073709551615) :
    Calls Try.prog 10 #[.slice Aa L.length cap, .int .u64 ph] w (NewP w L ph) := by
  by_cases ha : allB L
  · by_cases hp : ph < 4611686018427387904
    · exact Calls.mono (newb_any w Aa cap L ph (Lib.hid hA) (Lib.hid ha.2.2) ha.1 ha.2.1 p0 hp) fun e w' ⟨A, q1, q2, q3, q4⟩ => ⟨_, _, q1, q4, fun h => absurd ha h, fun _ h => by omega, fun _ _ => ⟨A, rfl, rfl, q2, q3⟩⟩
    · exact Calls.mono (newb_far w Aa cap L ph (Lib.hid hA) (Lib.hid ha.2.2) ha.1 ha.2.1 (by omega) p1) fun e w' ⟨q1, q2⟩ => ⟨_, _, q1, q2, fun h => absurd ha h, fun _ _ => ⟨rfl, rfl⟩, fun _ h => absurd h hp⟩
  · exact Calls.mono (newb_no w Aa cap L ph (Lib.hid hA) (Lib.hid hL) (by omega) p0 p1 (Lib.hid ha)) fun e w' ⟨q1, q2⟩ => ⟨_, _, q1, q2, fun _ => ⟨rfl, rfl⟩, fun h => absurd h ha, fun h => absurd h ha⟩
/-- The script: of each step how much later, and the wants. -/
def Script (w : World) (A : Option Addr) (n : Nat) (Wt : Nat → Int) (Ws : Nat → List Int) : Prop :=
  ∀ i, i < n → ∃ b off Aw cw, A = some ⟨b, off, none⟩ ∧ b < w.heap.size ∧ w.cell? ⟨b, off + i * 2, none⟩ = some (.int .u64 (Wt i)) ∧ w.cell? ⟨b, off + i * 2 + 1, none⟩ = some (.slice Aw (Ws i).length cw) ∧ 0 ≤ Wt i ∧ Wt i ≤ 18446744073709551615 ∧ Src w 1 Aw (Ws i).length (intCells (Ws i)) ∧ (Ws i).length ≤ maxLen
theorem ints_list {w : World} {A : Option Addr} {n : Nat} {D : Nat → List Value} (h : Elems w [some .i64] A n D) : ∃ l : List Int, l.length = n ∧ Src w 1 A n (intCells l) := by
  obtain ⟨U, hU, -⟩ := ints_of h
  refine ⟨(List.range n).map U, by simp, by simp [intCells], ?_⟩
  by_cases hn : n = 0
  · exact .inl hn
  · obtain ⟨b, off, e, hb, -⟩ := hU 0 (by omega)
    refine .inr ⟨_, e, fun j u hu => ?_⟩
    obtain ⟨b', off', e', -, hc⟩ := hU 0 (by omega)
    rw [e] at e'
    cases e'
    have hj : j < n := by
      have := (List.getElem?_eq_some_iff.1 hu).1
      simpa [intCells] using this
    have hv : u = .int .i64 (U j) := by
      simp [intCells, hj] at hu
      exact hu.symm
    rw [Go.WideShapes.add_plain, hc j hj, hv]
theorem script_of {w : World} {A : Option Addr} {n : Nat} {D : Nat → List Value} (h : ElemsN w [.int .u64, .sl [some .i64]] A n D) : ∃ Wt Ws, Script w A n Wt Ws := by
  have key : ∀ i, ∃ (t : Int × List Int × Option Addr × Nat), i < n → D i = [.int .u64 t.1, .slice t.2.2.1 t.2.1.length t.2.2.2] ∧ (Lit.int .u64 t.1).wf = true ∧ Src w 1 t.2.2.1 t.2.1.length (intCells t.2.1) ∧ t.2.1.length ≤ maxLen := by
    intro i
    by_cases hi : i < n
    · obtain ⟨hok, _⟩ := h i hi
      obtain ⟨x, r, e, ⟨a, rfl, ha⟩, hr⟩ := allN_cons hok
      obtain ⟨y, r2, e2, ⟨Ab, len, cap, Db, rfl, hb, hlen⟩, hr2⟩ := allN_cons hr
      obtain rfl := allN_nil hr2
      obtain ⟨l, rfl, hl⟩ := ints_list hb
      exact ⟨(a, l, Ab, cap), fun _ => ⟨by rw [e, e2], ha, hl, hlen⟩⟩
    · exact ⟨(0, [], none, 0), fun h => absurd h hi⟩
  refine ⟨fun i => (key i).choose.1, fun i => (key i).choose.2.1, fun i hi => ?_⟩
  obtain ⟨hD, h1, h2, h3⟩ := (key i).choose_spec hi
  obtain ⟨b, off, e, hb, hc⟩ := rowsN_of h (by simp) i hi
  refine ⟨b, off, (key i).choose.2.2.1, (key i).choose.2.2.2, e, hb, ?_, ?_, (bounds_u64 h1).1, (bounds_u64 h1).2, h2, h3⟩
  · have := hc i 0 hi (by simp)
    rw [hD] at this
    simpa using this
  · have := hc i 1 hi (by simp)
    rw [hD] at this
    simpa [Nat.add_assoc] using this
end busPlay
end Go.Proofs.Ytbfhohcimomphaa
