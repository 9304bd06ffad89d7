/- The first line of each law of layer 11: what 'awake' asks of closed numbers is so. -/
import Derived.Test.YtppkpelpdmkgjaaCoal
namespace Go.Proofs.Ytppkpelpdmkgjaa
open Go.RowKit
set_option linter.unusedVariables false
set_option linter.unusedSimpArgs false

theorem g0_ok (c h : Int) (h1 : 1 ≤ c) (h2 : c ≤ 1000) (h3 : 0 ≤ h) (h4 : h ≤ 1099511627776) : Gs.ok ⟨c, h, 0, 0, 0⟩ := by constructor <;> simp only <;> omega
theorem raiseF_ok {g : Gs} (ok : g.ok) (now : Int) (h : 0 ≤ now) : (raiseF now g).2.ok := by
  unfold raiseF
  split
  · exact ok
  · split
    · exact ok
    · exact doF_ok (lateF_ok (g := { g with t := now }) ⟨ok.c0, ok.c1, ok.h0, ok.h1, ok.n0, ok.n1, ok.f0, ok.f1, h, by simp only; omega⟩) now h (by omega)
theorem goF_ok {g : Gs} (ok : g.ok) (now : Int) (h : 0 ≤ now) : (goF now g).2.ok := by
  unfold goF
  split
  · exact ok
  · split
    · exact ok
    · exact lateF_ok (g := { g with t := now }) ⟨ok.c0, ok.c1, ok.h0, ok.h1, ok.n0, ok.n1, ok.f0, ok.f1, h, by simp only; omega⟩

set_option maxHeartbeats 2000000 in
theorem awake_any (w : World) : Calls Try.prog 8 #[] w fun e w' => e = .returned (.bool true) ∧ Below w.heap.size w w' := by
  have e1 : raiseF 5 ⟨3, 10, 0, 0, 0⟩ = ((0, 0), ⟨3, 10, 1, 5, 5⟩) := by simp [raiseF, lateF, doF]
  have e2 : raiseF 6 ⟨3, 10, 1, 5, 5⟩ = ((0, 0), ⟨3, 10, 2, 5, 6⟩) := by simp [raiseF, lateF, doF]
  have e3 : dueF ⟨3, 10, 2, 5, 6⟩ = (15, true) := by simp [dueF]
  have e4 : goF 15 ⟨3, 10, 2, 5, 6⟩ = ((2, 0), ⟨3, 10, 0, 5, 15⟩) := by simp [goF, lateF]
  have o1 : Gs.ok ⟨3, 10, 0, 0, 0⟩ := by constructor <;> simp
  have o2 : Gs.ok ⟨3, 10, 1, 5, 5⟩ := by constructor <;> simp
  have o3 : Gs.ok ⟨3, 10, 2, 5, 6⟩ := by constructor <;> simp
  have c1 := fun (W : World) (b : Nat) (k : IsG W b ⟨3, 10, 0, 0, 0⟩) => raise_any k o1 5 (by omega) (by omega)
  have c2 := fun (W : World) (b : Nat) (k : IsG W b ⟨3, 10, 1, 5, 5⟩) => raise_any k o2 6 (by omega) (by omega)
  have c3 := fun (W : World) (b : Nat) (k : IsG W b ⟨3, 10, 2, 5, 6⟩) => due_any k o3
  have c4 := fun (W : World) (b : Nat) (k : IsG W b ⟨3, 10, 2, 5, 6⟩) => go_any k o3 15 (by omega) (by omega)
  rw [e1] at c1
  rw [e2] at c2
  rw [e3] at c3
  rw [e4] at c4
  have C1 := fun W b k => Lib.hid (c1 W b k)
  have C2 := fun W b k => Lib.hid (c2 W b k)
  have C3 := fun W b k => Lib.hid (c3 W b k)
  have C4 := fun W b k => Lib.hid (c4 W b k)
  clear c1 c2 c3 c4 e1 e2 e3 e4 o1 o2 o3
  go_enter Try.func8, Try.ntmps8
  go_wp2_with (first
    | (go_at_call 9; (with_reducible refine Calls.mono (new_any 3 10 _ (by omega) (by omega) (by omega) (by omega)) ?_); rintro e w1 ⟨b, rfl, hb, k1, bel1⟩)
    | (go_at_call 9; (with_reducible refine Calls.mono (new_no 0 1 _ (by omega)) ?_); rintro e w' ⟨rfl, rfl⟩)
    | (go_at_call 11; (with_reducible refine Calls.mono (C1 _ _ k1).out ?_); rintro e w2 ⟨rfl, k2, on2⟩)
    | (go_at_call 11; (with_reducible refine Calls.mono (C2 _ _ k2).out ?_); rintro e w3 ⟨rfl, k3, on3⟩)
    | (go_at_call 15; (with_reducible refine Calls.mono (C3 _ _ k3).out ?_); rintro e w' ⟨rfl, m, rfl⟩)
    | (go_at_call 13; (with_reducible refine Calls.mono (C4 _ _ (Blk.drewN k3 _)).out ?_); rintro e w5 ⟨rfl, k5, on5⟩)
    | (go_at_call 17; (with_reducible refine Calls.mono (has_any k5) ?_); rintro e w' ⟨rfl, rfl⟩))
  go_ret
  exact ⟨rfl, Below.only (Below.drewN' (Below.only (Below.only bel1 on2 hb) on3 hb) m) on5 hb⟩
end Go.Proofs.Ytppkpelpdmkgjaa
