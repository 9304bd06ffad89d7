/- The first line of each law of layer 14: what 'awake' asks of closed numbers is so. -/
import Derived.Test.YthfnaeppolgpaaaSporB
namespace Go.Proofs.Ythfnaeppolgpaaa
open Go.RowKit
set_option linter.unusedVariables false
set_option linter.unusedSimpArgs false

theorem useB_ok {s : Bs} (ok : s.ok) (now : Int) (hn : 0 ≤ now) : (useB now s).2.ok := by
  have ok1 := leftB_ok ok now hn
  unfold useB
  split
  · exact ok1
  · rename_i z
    have he := leftB_err (now := now) (s := s)
    have hl := leftB_len (now := now) (s := s)
    have e0 : (leftB now s).1.2 = 0 := by
      rcases Int.lt_trichotomy (leftB now s).1.2 0 with h | h | h
      · exact absurd (he (by omega)) z
      · exact h
      · exact absurd (he (by omega)) z
    have hl' := hl e0
    have hu1 : (leftB now s).2.u = s.u := by unfold leftB; split <;> (try split) <;> rfl
    have hp1 := leftB_p now s
    have hnow : (leftB now s).2.now = now := by
      unfold leftB at e0 ⊢
      split
      · rename_i q; rw [if_pos q] at e0; simp at e0
      · split
        · rename_i q q2; rw [if_neg q, if_pos q2] at e0; simp at e0
        · rfl
    have hlen := ok1.len
    have h2 := ok1.p0
    have h3 := ok1.u0
    refine ⟨ok1.u0, ok1.u1, ok1.p0, ok1.p1, by simp; omega, ok1.n0, ok1.n1, fun x hx => ?_, ?_⟩
    · simp only [List.mem_append, List.mem_singleton] at hx
      rcases hx with hx | hx
      · exact ok1.el x hx
      · subst hx; simp only; omega
    · rw [List.pairwise_append]
      refine ⟨ok1.sorted, by simp, fun x hx y hy => ?_⟩
      simp at hy; subst hy
      have := ok1.el x hx
      omega

theorem IsB.weak {w : World} {b : Nat} {s : Bs} {t : Bool} (h : IsB w b s t) : IsB w b s false := by
  obtain ⟨v, h1, h2, _⟩ := h
  exact ⟨v, h1, h2, fun h => by cases h⟩

set_option maxRecDepth 100000 in
set_option maxHeartbeats 4000000 in
theorem awake_any (w : World) : Calls Try.prog 7 #[] w fun e w' => e = .returned (.bool true) ∧ Below w.heap.size w w' := by
  have m1 : mayS 2 10 = true := by decide
  have o1 : Bs.ok ⟨2, 10, [], 0⟩ := b0_ok m1
  have e1 : useB 0 ⟨2, 10, [], 0⟩ = ((true, 0), ⟨2, 10, [10], 0⟩) := by simp [useB, leftB]
  have o2 : Bs.ok ⟨2, 10, [10], 0⟩ := by have := useB_ok o1 0 (by omega); rw [e1] at this; exact this
  have e2 : useB 3 ⟨2, 10, [10], 0⟩ = ((true, 0), ⟨2, 10, [10, 13], 3⟩) := by simp [useB, leftB]
  have o3 : Bs.ok ⟨2, 10, [10, 13], 3⟩ := by have := useB_ok o2 3 (by omega); rw [e2] at this; exact this
  have e3 : useB 9 ⟨2, 10, [10, 13], 3⟩ = ((false, 0), ⟨2, 10, [10, 13], 9⟩) := by simp [useB, leftB]
  have o4 : Bs.ok ⟨2, 10, [10, 13], 9⟩ := by have := useB_ok o3 9 (by omega); rw [e3] at this; exact this
  have e4 : nextB 9 ⟨2, 10, [10, 13], 9⟩ = ((10, 0), ⟨2, 10, [10, 13], 9⟩) := by simp [nextB, leftB]
  have e5 : leftB 10 ⟨2, 10, [10, 13], 9⟩ = ((1, 0), ⟨2, 10, [13], 10⟩) := by simp [leftB]
  have o5 : Bs.ok ⟨2, 10, [13], 10⟩ := by have := leftB_ok o4 10 (by omega); rw [e5] at this; exact this
  have e6 : leftB 13 ⟨2, 10, [13], 10⟩ = ((2, 0), ⟨2, 10, [], 13⟩) := by simp [leftB]
  have e7 : mostS 2 10 11 = 4 := by decide
  have c1 := fun (W : World) (b : Nat) (t : Bool) (k : IsB W b ⟨2, 10, [], 0⟩ t) => use_any k o1 0 (by omega) (by omega)
  have c2 := fun (W : World) (b : Nat) (t : Bool) (k : IsB W b ⟨2, 10, [10], 0⟩ t) => use_any k o2 3 (by omega) (by omega)
  have c3 := fun (W : World) (b : Nat) (t : Bool) (k : IsB W b ⟨2, 10, [10, 13], 3⟩ t) => use_any k o3 9 (by omega) (by omega)
  have c4 := fun (W : World) (b : Nat) (t : Bool) (k : IsB W b ⟨2, 10, [10, 13], 9⟩ t) => nextB_any k o4 9 (by omega) (by omega)
  have c5 := fun (W : World) (b : Nat) (t : Bool) (k : IsB W b ⟨2, 10, [10, 13], 9⟩ t) => left_any k o4 10 (by omega) (by omega)
  have c6 := fun (W : World) (b : Nat) (t : Bool) (k : IsB W b ⟨2, 10, [13], 10⟩ t) => left_any k o5 13 (by omega) (by omega)
  have c7 := fun W => mostS_any 2 10 11 W (by omega) (by omega) (by omega) (by omega) (by omega) (by omega)
  simp only [e1] at c1
  simp only [e2] at c2
  simp only [e3] at c3
  simp only [e4] at c4
  simp only [e5] at c5
  simp only [e6] at c6
  rw [e7] at c7
  have C0 := fun W => Lib.hid (newB_any 2 10 W (by omega) (by omega) (by omega) (by omega) m1)
  have C1 := fun W b t k => Lib.hid (c1 W b t k)
  have C2 := fun W b t k => Lib.hid (c2 W b t k)
  have C3 := fun W b t k => Lib.hid (c3 W b t k)
  have C4 := fun W b t k => Lib.hid (c4 W b t k)
  have C5 := fun W b t k => Lib.hid (c5 W b t k)
  have C6 := fun W b t k => Lib.hid (c6 W b t k)
  have C7 := fun W => Lib.hid (c7 W)
  clear c1 c2 c3 c4 c5 c6 c7 e1 e2 e3 e4 e5 e6 e7 o1 o2 o3 o4 o5 m1
  go_enter Try.func7, Try.ntmps7
  go_wp2_with (first
    | (go_at_call 8; (with_reducible refine Calls.mono (C0 _).out ?_); rintro e w1 ⟨b, rfl, hb, k1, bel1⟩)
    | (go_at_call 10; (with_reducible refine Calls.mono (C1 _ _ _ k1).out ?_); rintro e w2 ⟨rfl, k2, on2⟩)
    | (go_at_call 10; (with_reducible refine Calls.mono (C2 _ _ _ k2).out ?_); rintro e w3 ⟨rfl, k3, on3⟩)
    | (go_at_call 10; (with_reducible refine Calls.mono (C3 _ _ _ k3).out ?_); rintro e w4 ⟨rfl, k4, on4⟩)
    | (go_at_call 13; (with_reducible refine Calls.mono (C4 _ _ _ k4).out ?_); rintro e w5 ⟨rfl, k5, on5⟩)
    | (go_at_call 14; (with_reducible refine Calls.mono (C5 _ _ _ k5).out ?_); rintro e w6 ⟨rfl, k6, on6⟩)
    | (go_at_call 14; (with_reducible refine Calls.mono (C6 _ _ _ k6).out ?_); rintro e w7 ⟨rfl, k7, on7⟩)
    | (go_at_call 11; (with_reducible refine Calls.mono (C7 _).out ?_); rintro e w8 ⟨rfl, bel8⟩))
  go_ret
  have b7 := Below.only (Below.only (Below.only (Below.only (Below.only (Below.only bel1 on2 hb) on3 hb) on4 hb) on5 hb) on6 hb) on7 hb
  exact ⟨rfl, Below.next b7 bel8⟩
end Go.Proofs.Ythfnaeppolgpaaa
