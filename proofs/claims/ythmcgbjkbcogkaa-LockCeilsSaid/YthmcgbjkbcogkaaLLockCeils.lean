/- LockCeils: if only the most urgent member acts, as its urgency is now (of alike ones who holds a lock, then the least number), nobody is ever refused because another one holds a lock; a member's urgency is never less than its own. No condition. -/
import Derived.Test.YthmcgbjkbcogkaaCeils
import Derived.Test.YthmcgbjkbcogkaaArg
import Derived.Test.YthmcgbjkbcogkaaRows
import Derived.ProofKit
import Derived.OpenShut
import Derived.ShutString
import Derived.ChangeOld
import Derived.Below
import Derived.SizedLaws
import Derived.Test.YthmcgbjkbcogkaaArgs
import Derived.Test.YthmcgbjkbcogkaaCounts
import Derived.Deep.OwnRows
namespace Go.Proofs.Ythmcgbjkbcogkaa
open Go.ChangeShapes Go.WideShapes Go.ChangeAt Go.RowKit
open Go.ChangeMaps (open_string shut_string)
set_option linter.unusedVariables false
set_option linter.unusedSimpArgs false
namespace lockCeils
def FirstPost (w : World) (p N base kb : Nat) (cs : List Int) (M : Nat) (ms : Int → Option Mm) (kn : Nat → Bool) (e : Ending) (w' : World) : Prop :=
  ((e = .returned (.int .i64 (-1)) ∧ ∀ i, i < M → kn i = false) ∨ ∃ b : Nat, e = .returned (.int .i64 b) ∧ Best cs M ms kn M b) ∧ Kept w' p N base (fun g => g = kb) cs ms ∧ Below w.heap.size w w'
def RelF (w : World) (p N base kb : Nat) (cs : List Int) (M : Nat) (ms : Int → Option Mm) (kn : Nat → Bool) (bv iv : Value) (wr : World) : Prop :=
  ∃ i : Nat, iv = .int .i64 i ∧ i ≤ M ∧ ((bv = .int .i64 (-1) ∧ ∀ j, j < i → kn j = false) ∨ ∃ b : Nat, bv = .int .i64 b ∧ Best cs M ms kn i b) ∧ Kept wr p N base (fun g => g = kb) cs ms ∧ Below w.heap.size w wr
set_option maxRecDepth 100000 in
set_option maxHeartbeats 4000000 in
theorem first_any (w : World) (p N base kb : Nat) (cs : List Int) (M : Nat) (hM : M ≤ 16) (q : Nat → Int) (ms : Int → Option Mm) (kn : Nat → Bool) (kp : Kept w p N base (fun g => g = kb) cs ms) (hb : Blk w kb 4 (bl M kn)) (ci : CI cs M q ms kn) :
    Calls Try.prog 12 #[.pointer (some ⟨p, 0, none⟩), .slice (some ⟨kb, 0, none⟩) M M] w (FirstPost w p N base kb cs M ms kn) := by
  have KP := Lib.hid kp
  have HB := Lib.hid hb
  have hkb := hb.lt
  have CI := Lib.hid ci
  clear kp hb ci
  go_enter Try.func12, Try.ntmps12
  go_wp2_with fail
  go_loopw [5, 6] (fun bv iv wr => Hid (RelF w p N base kb cs M ms kn bv iv wr)) (fun _ iv _ => (M - intOf iv).toNat)
  case atStart => exact ⟨0, rfl, by omega, .inl ⟨rfl, fun j hj => by omega⟩, KP.out, Below.refl _ _⟩
  case round =>
    obtain ⟨i, rfl, hi, hbest, kr, br⟩ := hrel
    have KR := Lib.hid kr
    have BR := Lib.hid br
    clear kr br KP
    by_cases hin : i < M
    · have hin2 : (i : Int) < M := by omega
      have c0 : wr.cell? ⟨kb, i, none⟩ = some (.bool (kn i)) := (BR.out.cell (p := ⟨kb, i, none⟩) hkb).trans ((HB.out.cell i).trans (bl_at kn hin))
      cases hk : kn i with
      | false =>
        rw [hk] at c0
        have HBE : Hid (∀ bv : Value, ((bv = .int .i64 (-1) ∧ ∀ j, j < i → kn j = false) ∨ ∃ b : Nat, bv = .int .i64 b ∧ Best cs M ms kn i b) → ((bv = .int .i64 (-1) ∧ ∀ j, j < i + 1 → kn j = false) ∨ ∃ b : Nat, bv = .int .i64 b ∧ Best cs M ms kn (i + 1) b)) := fun bv h => by
          rcases h with ⟨h1, h2⟩ | ⟨b, h1, h2⟩
          · exact .inl ⟨h1, fun j hj => by
              by_cases e : j = i
              · rw [e]; exact hk
              · exact h2 j (by omega)⟩
          · exact .inr ⟨b, h1, by have := h2.lt; omega, h2.live, fun j hj hkj hne => by
              by_cases e : j = i
              · rw [e, hk] at hkj; cases hkj
              · exact h2.bet j (by omega) hkj hne⟩
        have HB0 := Lib.hid hbest
        clear hbest hk
        go_wp2_with fail
        go_roundw
        case rel => exact ⟨i + 1, by go_num, by omega, HBE.out _ HB0.out, KR.out, BR.out⟩
        case measure => simp [intOf]; omega
      | true =>
        rw [hk] at c0
        rcases hbest with ⟨rfl, hno⟩ | ⟨b, rfl, hb⟩
        · have HN := Lib.hid hno
          have HK := Lib.hid hk
          clear hno hk
          go_wp2_with fail
          go_roundw
          case rel => exact ⟨i + 1, by go_num, by omega, .inr ⟨i, rfl, by omega, HK.out, fun j hj hkj hne => by have := HN.out j (by omega); rw [this] at hkj; cases hkj⟩, KR.out, BR.out⟩
          case measure => simp [intOf]; omega
        · have hbi := hb.lt
          have BST := Lib.hid hb
          have HK := Lib.hid hk
          have hb0 : decide ((b : Int) < 0) = false := decide_eq_false (by omega)
          have P1 := Lib.hid (prio_k KR.out i (by omega))
          have P2 := Lib.hid (prio_k KR.out b (by omega))
          have H1 := fun W (k : Kept W p N base (fun g => g = kb) cs ms) => Lib.hid (held_k k i (by omega))
          have H2 := fun W (k : Kept W p N base (fun g => g = kb) cs ms) => Lib.hid (held_k k b (by omega))
          obtain ⟨x, hx⟩ : ∃ x, pr cs ms i = x := ⟨_, rfl⟩
          obtain ⟨y, hy⟩ : ∃ y, pr cs ms b = y := ⟨_, rfl⟩
          obtain ⟨m, hm⟩ : ∃ m, (heldM (ms i)).length = m := ⟨_, rfl⟩
          obtain ⟨n, hn⟩ : ∃ n, (heldM (ms b)).length = n := ⟨_, rfl⟩
          have HX := Lib.hid hx
          have HY := Lib.hid hy
          have HM := Lib.hid hm
          have HN := Lib.hid hn
          rw [show (prioM cs (ms i)).1 = x from hx] at P1
          rw [show (prioM cs (ms b)).1 = y from hy] at P2
          rw [hm] at H1
          rw [hn] at H2
          generalize (prioM cs (ms i)).2 = e1 at P1
          generalize (prioM cs (ms b)).2 = e2 at P2
          -- what follows when i is better, and when it isn't
          have YES : Hid (Bet cs ms i b → Best cs M ms kn (i + 1) i) := fun h => ⟨by omega, HK.out, fun j hj hkj hne => by
            by_cases e : j = b
            · rw [e]; exact h
            · exact h.trans (BST.out.bet j (by omega) hkj e)⟩
          have NO : Hid (Bet cs ms b i → Best cs M ms kn (i + 1) b) := fun h => ⟨by omega, BST.out.live, fun j hj hkj hne => by
            by_cases e : j = i
            · rw [e]; exact h
            · exact BST.out.bet j (by omega) hkj hne⟩
          clear hb hk hx hy hm hn
          by_cases z1 : x < y
          · have d1 : decide (x < y) = true := decide_eq_true z1
            have BB := Lib.hid (YES.out (.inl (by rw [HX.out, HY.out]; exact z1)))
            go_wp2_with (first
              | (go_at_call 13; (with_reducible refine Calls.mono P1.out ?_); rintro e w1 ⟨rfl, rfl⟩)
              | (go_at_call 13; (with_reducible refine Calls.mono P2.out ?_); rintro e w1 ⟨rfl, rfl⟩))
            go_roundw
            case rel => exact ⟨i + 1, by go_num, by omega, .inr ⟨i, rfl, BB.out⟩, KR.out, BR.out⟩
            case measure => simp [intOf]; omega
          · have d1 : decide (x < y) = false := decide_eq_false z1
            by_cases z2 : x = y
            · have d2 : (x == y) = true := beq_iff_eq.2 z2
              by_cases z3 : 0 < m
              · have d3 : decide (0 < m) = true := decide_eq_true z3
                have d3' : decide (0 < (m : Int)) = true := decide_eq_true (by omega)
                by_cases z4 : n = 0
                · have d4 : ((n : Int) == 0) = true := beq_iff_eq.2 (by omega)
                  have d4' : (n == 0) = true := beq_iff_eq.2 (by omega)
                  have BB := Lib.hid (YES.out (.inr ⟨by rw [HX.out, HY.out]; exact z2, .inl (fun e => by have := HM.out; rw [e] at this; simp at this; omega)⟩))
                  clear z4
                  go_wp2_with (first
                    | (go_at_call 13; (with_reducible refine Calls.mono P1.out ?_); rintro e w1 ⟨rfl, rfl⟩)
                    | (go_at_call 13; (with_reducible refine Calls.mono P2.out ?_); rintro e w1 ⟨rfl, rfl⟩)
                    | (go_at_call 10; (with_reducible refine Calls.mono (H1 _ KR.out).out ?_); rintro e w1 ⟨A1, c1, rfl, -, k1, b1⟩
                       have K1 := Lib.hid k1
                       have B1 := Lib.hid (Below.next BR.out b1)
                       clear k1 b1)
                    | (go_at_call 10; (with_reducible refine Calls.mono (H2 _ K1.out).out ?_); rintro e w2 ⟨A2, c2, rfl, -, k2, b2⟩
                       have K2 := Lib.hid k2
                       have B2 := Lib.hid (Below.next B1.out b2)
                       clear k2 b2))
                  go_roundw
                  case rel => exact ⟨i + 1, by go_num, by omega, .inr ⟨i, rfl, BB.out⟩, K2.out, B2.out⟩
                  case measure => simp [intOf]; omega
                · have d4 : ((n : Int) == 0) = false := beq_eq_false_iff_ne.2 (by omega)
                  have d4' : (n == 0) = false := beq_eq_false_iff_ne.2 (by omega)
                  have BB := Lib.hid (NO.out (.inr ⟨by rw [HX.out, HY.out]; exact z2.symm, .inl (fun e => by have := HN.out; rw [e] at this; simp at this; omega)⟩))
                  clear z4
                  go_wp2_with (first
                    | (go_at_call 13; (with_reducible refine Calls.mono P1.out ?_); rintro e w1 ⟨rfl, rfl⟩)
                    | (go_at_call 13; (with_reducible refine Calls.mono P2.out ?_); rintro e w1 ⟨rfl, rfl⟩)
                    | (go_at_call 10; (with_reducible refine Calls.mono (H1 _ KR.out).out ?_); rintro e w1 ⟨A1, c1, rfl, -, k1, b1⟩
                       have K1 := Lib.hid k1
                       have B1 := Lib.hid (Below.next BR.out b1)
                       clear k1 b1)
                    | (go_at_call 10; (with_reducible refine Calls.mono (H2 _ K1.out).out ?_); rintro e w2 ⟨A2, c2, rfl, -, k2, b2⟩
                       have K2 := Lib.hid k2
                       have B2 := Lib.hid (Below.next B1.out b2)
                       clear k2 b2))
                  go_roundw
                  case rel => exact ⟨i + 1, by go_num, by omega, .inr ⟨b, rfl, BB.out⟩, K2.out, B2.out⟩
                  case measure => simp [intOf]; omega
              · have d3 : decide (0 < m) = false := decide_eq_false z3
                have d3' : decide (0 < (m : Int)) = false := decide_eq_false (by omega)
                have BB := Lib.hid (NO.out (.inr ⟨by rw [HX.out, HY.out]; exact z2.symm, .inr (List.eq_nil_of_length_eq_zero (by rw [HM.out]; omega))⟩))
                go_wp2_with (first
                  | (go_at_call 13; (with_reducible refine Calls.mono P1.out ?_); rintro e w1 ⟨rfl, rfl⟩)
                  | (go_at_call 13; (with_reducible refine Calls.mono P2.out ?_); rintro e w1 ⟨rfl, rfl⟩)
                  | (go_at_call 10; (with_reducible refine Calls.mono (H1 _ KR.out).out ?_); rintro e w1 ⟨A1, c1, rfl, -, k1, b1⟩
                     have K1 := Lib.hid k1
                     have B1 := Lib.hid (Below.next BR.out b1)
                     clear k1 b1))
                go_roundw
                case rel => exact ⟨i + 1, by go_num, by omega, .inr ⟨b, rfl, BB.out⟩, K1.out, B1.out⟩
                case measure => simp [intOf]; omega
            · have d2 : (x == y) = false := beq_eq_false_iff_ne.2 z2
              have BB := Lib.hid (NO.out (.inl (by rw [HX.out, HY.out]; omega)))
              clear z2
              go_wp2_with (first
                | (go_at_call 13; (with_reducible refine Calls.mono P1.out ?_); rintro e w1 ⟨rfl, rfl⟩)
                | (go_at_call 13; (with_reducible refine Calls.mono P2.out ?_); rintro e w1 ⟨rfl, rfl⟩))
              go_roundw
              case rel => exact ⟨i + 1, by go_num, by omega, .inr ⟨b, rfl, BB.out⟩, KR.out, BR.out⟩
              case measure => simp [intOf]; omega
    · obtain rfl : i = M := by omega
      have hin2 : ¬ (i : Int) < i := by omega
      have HB0 := Lib.hid hbest
      clear hbest
      go_wp2_with fail
      go_ret
      refine ⟨?_, KR.out, BR.out⟩
      rcases HB0.out with ⟨h1, h2⟩ | ⟨b, h1, h2⟩
      · exact .inl ⟨by rw [← h1]; rfl, h2⟩
      · exact .inr ⟨b, by rw [← h1]; rfl, h2⟩
theorem Kept.nd {w : World} {p N base : Nat} {F : Nat → Prop} {cs : List Int} {ms : Int → Option Mm} (h : Kept w p N base F cs ms) {i : Int} {m : Mm} (hm : ms i = some m) : m.held.Nodup ∧ (∀ l ∈ m.held, 0 ≤ l ∧ l < cs.length) ∧ m.held.length ≤ N := by
  obtain ⟨K, k, e, hN, r⟩ := h
  exact ⟨k.nd i m hm, fun l hl => k.inr i m l hm hl, Nat.le_trans (k.len i m hm) hN⟩
/-- A step: what is asked, of whom, with what number. -/
structure St where
  kd : Int
  id : Int
  n : Int
def Script (w : World) (A : Option Addr) (n : Nat) (X : Nat → St) : Prop :=
  ∀ i, i < n → ∃ b off, A = some ⟨b, off, none⟩ ∧ b < w.heap.size ∧ w.cell? ⟨b, off + i * 3, none⟩ = some (.int .i64 (X i).kd) ∧ w.cell? ⟨b, off + i * 3 + 1, none⟩ = some (.int .i64 (X i).id) ∧ w.cell? ⟨b, off + i * 3 + 2, none⟩ = some (.int .i64 (X i).n)
theorem three_of {a b c : Option IntKind} {cs : List Value} (h : AllOk [a, b, c] cs) : ∃ x y z, cs = [x, y, z] ∧ CellOk a x ∧ CellOk b y ∧ CellOk c z := by
  match cs, h with
  | [x, y, z], ⟨hx, hy, hz, _⟩ => exact ⟨x, y, z, rfl, hx, hy, hz⟩
theorem script_of {w : World} {A : Option Addr} {n : Nat} {D : Nat → List Value} (h : Elems w [some .i64, some .i64, some .i64] A n D) : ∃ X, Script w A n X := by
  have key : ∀ i, ∃ t : St, i < n → D i = [.int .i64 t.kd, .int .i64 t.id, .int .i64 t.n] := by
    intro i
    by_cases hi : i < n
    · obtain ⟨hok, _⟩ := h i hi
      obtain ⟨x, y, z, e, ⟨a, rfl, ha⟩, ⟨b, rfl, hb⟩, ⟨c, rfl, hc⟩⟩ := three_of hok
      exact ⟨⟨a, b, c⟩, fun _ => e⟩
    · exact ⟨⟨0, 0, 0⟩, fun h => absurd h hi⟩
  refine ⟨fun i => (key i).choose, fun i hi => ?_⟩
  have hD := (key i).choose_spec hi
  obtain ⟨b, off, e, hb, hc⟩ := rows_of h (by simp) i hi
  refine ⟨b, off, e, hb, ?_, ?_, ?_⟩
  · have := hc i 0 hi (by simp)
    rw [hD] at this
    simpa using this
  · have := hc i 1 hi (by simp)
    rw [hD] at this
    simpa [Nat.add_assoc] using this
  · have := hc i 2 hi (by simp)
    rw [hD] at this
    simpa [Nat.add_assoc] using this
theorem infoBool : (Try.prog.info? 4).map (fun i => (i.zero, i.size, i.bytes)) = some (some (.bool false), 1, 1) := by kernel_rfl
theorem made_bl (M : Nat) : madeCells #[.bool false] M = ⟨bl M (fun _ => false)⟩ := by
  apply Array.ext'
  rw [toList_madeCells_one]
  show _ = (List.range M).map (fun _ => (.bool false : Value))
  apply List.ext_getElem?
  intro j
  by_cases h : j < M
  · simp [h]
  · simp [h]
/-- How a number that came in is one of M. -/
theorem rem_of (x : Int) {M : Nat} (h : 0 < M) : -(M : Int) < x.tmod M ∧ x.tmod M < M := by
  have h1 := Int.tmod_lt_of_pos x (show (0 : Int) < M by omega)
  have h2 := Int.lt_tmod_of_pos x (show (0 : Int) < M by omega)
  omega
def Rel (w : World) (p base kb : Nat) (cs : List Int) (M : Nat) (q : Nat → Int) (iv : Value) (wr : World) : Prop :=
  ∃ (i : Nat) (ms : Int → Option Mm) (kn : Nat → Bool), iv = .int .i64 i ∧ i ≤ 120 ∧ Kept wr p i base (fun g => g = kb) cs ms ∧ Blk wr kb 4 (bl M kn) ∧ CI cs M q ms kn ∧ base ≤ wr.heap.size ∧ Below w.heap.size w wr
set_option maxRecDepth 100000 in
set_option maxHeartbeats 4000000 in
theorem walk2 (w : World) (A : Option Addr) (n c : Nat) (U : Nat → Int) (hs : Hid (IntsAt w .i64 A n U)) (hn : n ≤ 140737488351232) (B : Option Addr) (M d : Nat) (X : Nat → Int) (hv : Hid (IntsAt w .u8 B M X)) (hX : Hid (∀ i, i < M → 0 ≤ X i ∧ X i ≤ 255)) (hM : M ≤ 140737488351232)
    (C : Option Addr) (ns cap : Nat) (Y : Nat → St) (hY : Hid (Script w C ns Y)) (hns : ns ≤ 140737488351232) :
    Calls Try.prog 3 #[.slice A n c, .slice B M d, .slice C ns cap] w fun e w' => e = .returned (.bool true) ∧ Below w.heap.size w w' := by
  have IB := fun W (b : Below w.heap.size w W) => Lib.hid (hs.out.below b)
  have MY := fun W h => Lib.hid (rmay23_any W A n c U h hn)
  go_enter Try.func3, Try.ntmps3
  go_wp2_with (first
    | (go_at_call 7; (with_reducible refine Calls.mono (awake_any _) ?_); rintro e w0 ⟨rfl, bel0⟩; have HB := Lib.hid bel0; clear bel0))
  go_at_call 8
  (with_reducible refine Calls.mono (MY _ (IB _ HB.out).out).out ?_); rintro e w1 ⟨r, rfl, hr, rfl⟩
  have HR := Lib.hid hr
  clear hr MY
  cases r with
  | false =>
    go_wp2_with fail
    go_ret
    exact ⟨rfl, HB.out⟩
  | true =>
    have G := Lib.hid (HR.out.1 rfl)
    have n16 := G.out.2.1
    by_cases hM0 : M = 0
    · have d0 : ((M : Int) == 0) = true := beq_iff_eq.2 (by omega)
      have d0' : (M == 0) = true := beq_iff_eq.2 hM0
      clear hM0
      go_wp2_with fail
      go_ret
      exact ⟨rfl, HB.out⟩
    · have d0 : ((M : Int) == 0) = false := beq_eq_false_iff_ne.2 (by omega)
      have d0' : (M == 0) = false := beq_eq_false_iff_ne.2 hM0
      by_cases hm16 : M ≤ 16
      · have d1 : decide (16 < (M : Int)) = false := decide_eq_false (by omega)
        have d1' : decide (16 < M) = false := decide_eq_false (by omega)
        have hM1 : (0 : Int) < M := by omega
        have NW := fun W h => Lib.hid (new_k W A n c U h G.out)
        have hmk : ∀ W, (Instr.makeSlice 31 (.int .i64 M) (.int .i64 M)).run Try.prog W = .ok (.slice (some ⟨W.heap.size, 0, none⟩) M M) (W.alloc (.cells ⟨bl M (fun _ => false)⟩ 4)) := fun W => by
          rw [← made_bl]
          exact run_make_row' 31 4 (.bool false) 1 Try.underlying31 infoBool rfl .i64 .i64 M (by omega) (by omega) W
        have HM0 := Lib.hid hM0
        clear hM0
        go_wp2_with (first
          | (go_at_call 9; (with_reducible refine Calls.mono (NW _ (IB _ HB.out).out).out ?_); rintro e w2 ⟨p, rfl, k2, b2, hp⟩
             have KA := Lib.hid (show Kept w2 p 0 w0.heap.size NF (lst n U) m0 from k2)
             have SA := Lib.hid b2.size
             have HA := Lib.hid (Below.next HB.out b2)
             clear k2 b2 hp))
        go_loopw [10] (fun iv wr => Hid (Rel w p w0.heap.size w2.heap.size (lst n U) M (fun j => X j % 101) iv wr)) (fun iv _ => (120 - intOf iv).toNat)
        case atStart =>
          refine ⟨0, m0, fun _ => false, rfl, by omega, ?_, Blk.new w2 4 _, CI.start _ _ _, by have := SA.out; simp; omega, HA.out.alloc HA.out.size _⟩
          exact (KA.out.re (Far' := fun g => g = w2.heap.size) (fun g hg e => by omega)).below ((Below.refl _ _).alloc (Nat.le_refl _) _)
        case round =>
          clear NW hmk KA
          obtain ⟨i, ms, kn, rfl, hi, ki, bi, ci, zi, beli⟩ := hrel
          have KI := Lib.hid ki
          have BK := Lib.hid bi
          have CIi := Lib.hid ci
          have ZI := Lib.hid zi
          have BI := Lib.hid beli
          have hkb := bi.lt
          clear ki bi ci zi beli
          by_cases hin : i < ns ∧ i < 120
          · obtain ⟨h1, h2⟩ := hin
            have h3 : (i : Int) < ns := by omega
            have h4 : (i : Int) < 120 := by omega
            obtain ⟨b, off, rfl, hb, c0, c1, c2⟩ := hY.out i h1
            generalize Y i = t at c0 c1 c2
            obtain ⟨kd, id, nn⟩ := t
            simp only at c0 c1 c2
            have c0 := (BI.out.cell (p := ⟨b, _, none⟩) hb).trans c0
            have c1 := (BI.out.cell (p := ⟨b, _, none⟩) hb).trans c1
            have c2 := (BI.out.cell (p := ⟨b, _, none⟩) hb).trans c2
            by_cases hk0 : kd = 0
            · subst hk0
              have hrm := rem_of id (M := M) (by omega)
              have bd := Lib.hid ((Below.refl wr.heap.size wr).alloc (Nat.le_refl _) (.cells #[.int .i64 0, .int .i64 id, .int .i64 nn] 33))
              have BD := Lib.hid (Below.next BI.out bd.out)
              have KD := Lib.hid (KI.out.below bd.out)
              have BKD := Lib.hid (BK.out.below bd.out hkb)
              have hz : (id.tmod M < 0 ∧ ∃ u : Nat, u < M ∧ -(id.tmod M) = u) ∨ (¬ id.tmod M < 0 ∧ ∃ u : Nat, u < M ∧ id.tmod M = u) := by
                by_cases z : id.tmod M < 0
                · exact .inl ⟨z, (-(id.tmod M)).toNat, by omega, by omega⟩
                · exact .inr ⟨z, (id.tmod M).toNat, by omega, by omega⟩
              obtain ⟨hr1, hr2⟩ := hrm
              rcases hz with ⟨z, u, hu, e⟩ | ⟨z, u, hu, e⟩
              all_goals
                have EU := Lib.hid e
                clear e
                have hu2 : (u : Int) < M := by omega
                obtain ⟨bx, ox, rfl, hbx, hcx⟩ := hv.out.at_ hu
                obtain ⟨x0, x1⟩ := hX.out u hu
                have CXU := Lib.hid hcx
                have HE := Lib.hid (held_k KD.out u (by omega))
                obtain ⟨hl, hhl⟩ : ∃ hl, (heldM (ms u)).length = hl := ⟨_, rfl⟩
                have HHL := Lib.hid hhl
                rw [hhl] at HE
                clear hcx hhl
                go_wp2_with fail
                rw [EU.out]
                by_cases hl0 : hl = 0
                · have f1 : ((hl : Int) == 0) = true := beq_iff_eq.2 (by omega)
                  have f1' : (hl == 0) = true := beq_iff_eq.2 hl0
                  obtain ⟨t1, t2⟩ := CIi.out.know hu (List.eq_nil_of_length_eq_zero (HHL.out.trans hl0))
                  have KN := fun W (k : Kept W p i w0.heap.size (fun g => g = w2.heap.size) (lst n U) ms) (hF : ∀ g, g = w2.heap.size → g < W.heap.size) (hb : w0.heap.size ≤ W.heap.size) => Lib.hid (t1 ▸ know_k k hF hb u (X u % 101) (by omega) (by omega) (by omega))
                  have T2 := Lib.hid t2
                  clear t1 t2 hl0
                  go_wp2_with (first
                    | (go_at_call 10; (with_reducible refine Calls.mono HE.out ?_); rintro e w5 ⟨A5, c5, rfl, -, k5, b5⟩
                       have K5 := Lib.hid k5
                       have B5 := Lib.hid (Below.next BD.out b5)
                       have BK5 := Lib.hid (BKD.out.below b5 (by simp; omega))
                       have F5 := Lib.hid (fun g (e : g = w2.heap.size) => show g < w5.heap.size from by have := BK5.out.lt; omega)
                       have Z5 := Lib.hid (show w0.heap.size ≤ w5.heap.size from by have := b5.size; have := ZI.out; simp only [World.size_alloc] at *; omega)
                       have cx := (B5.out.cell (p := ⟨bx, ox + u, none⟩) hbx).trans CXU.out
                       have lx := Nat.lt_of_lt_of_le hbx B5.out.size
                       clear k5 b5)
                    | (go_at_call 11; (with_reducible refine Calls.mono (KN _ K5.out F5.out Z5.out).out ?_); rintro e w6 ⟨rfl, k6, o6⟩
                       have K6 := Lib.hid k6
                       have B6 := Lib.hid (Below.onlyF B5.out o6 (fun i h => by have := h.1; have := HB.out.size; omega))
                       have bk6 := BK5.out.only o6 (fun h => h.2 rfl)
                       have g0 := bk6.cell u
                       rw [bl_at kn hu] at g0
                       have f6 := bk6.free u
                       have BK6 := Lib.hid bk6
                       have Z6 := Lib.hid (Nat.le_trans Z5.out o6.size)
                       clear k6 o6 bk6))
                  go_roundw
                  case rel =>
                    have bk := BK6.out.put u (.bool true)
                    rw [bl_set kn hu] at bk
                    exact ⟨i + 1, _, _, by go_num, by omega, K6.out.only (Only.setCell (Only.refl (fun g => g = w2.heap.size) w6) (p := ⟨w2.heap.size, u, none⟩) (fun _ => rfl) (.bool true)) (fun g e => .inl e), bk, T2.out, Nat.le_trans Z6.out (Only.setCell (Only.refl (fun g => g = w2.heap.size) w6) (p := ⟨w2.heap.size, u, none⟩) (fun _ => rfl) (.bool true)).size, Below.onlyF B6.out (Only.setCell (Only.refl (fun g => g = w2.heap.size) w6) (p := ⟨w2.heap.size, u, none⟩) (fun _ => rfl) (.bool true)) (fun g e => by have := HA.out.size; omega)⟩
                  case measure => simp [intOf]; omega
                · have f1 : ((hl : Int) == 0) = false := beq_eq_false_iff_ne.2 (by omega)
                  have f1' : (hl == 0) = false := beq_eq_false_iff_ne.2 hl0
                  clear hl0
                  go_wp2_with (first
                    | (go_at_call 10; (with_reducible refine Calls.mono HE.out ?_); rintro e w5 ⟨A5, c5, rfl, -, k5, b5⟩
                       have K5 := Lib.hid k5
                       have B5 := Lib.hid (Below.next BD.out b5)
                       have BK5 := Lib.hid (BKD.out.below b5 (by simp; omega))
                       have Z5 := Lib.hid (show w0.heap.size ≤ w5.heap.size from by have := b5.size; have := ZI.out; simp only [World.size_alloc] at *; omega)
                       clear k5 b5))
                  go_roundw
                  case rel => exact ⟨i + 1, ms, kn, by go_num, by omega, K5.out.more (by omega), BK5.out, CIi.out, Z5.out, B5.out⟩
                  case measure => simp [intOf]; omega
            · have e0 : (kd == 0) = false := beq_eq_false_iff_ne.2 hk0
              have bd := Lib.hid ((Below.refl wr.heap.size wr).alloc (Nat.le_refl _) (.cells #[.int .i64 kd, .int .i64 id, .int .i64 nn] 33))
              have BD := Lib.hid (Below.next BI.out bd.out)
              have KD := Lib.hid (KI.out.below bd.out)
              have BKD := Lib.hid (BK.out.below bd.out hkb)
              have DB := Lib.hid (Blk.new wr 33 [.int .i64 kd, .int .i64 id, .int .i64 nn])
              have ND := Lib.hid (fun e : wr.heap.size = w2.heap.size => Nat.lt_irrefl _ (e ▸ hkb))
              have ZD := Lib.hid (show w0.heap.size ≤ (wr.alloc (.cells #[.int .i64 kd, .int .i64 id, .int .i64 nn] 33)).heap.size from Nat.le_trans ZI.out bd.out.size)
              have F1 := Lib.hid (first_any _ p i w0.heap.size w2.heap.size (lst n U) M (by omega) (fun j => X j % 101) ms kn KD.out BKD.out CIi.out)
              go_wp2_with fail
              go_at_call 12
              (with_reducible refine Calls.mono F1.out ?_); rintro e w5 ⟨hf, k5, b5⟩
              have K5 := Lib.hid k5
              have B5 := Lib.hid (Below.next BD.out b5)
              have BK5 := Lib.hid (BKD.out.below b5 BKD.out.lt)
              have DB5 := Lib.hid (DB.out.below b5 DB.out.lt)
              have Z5 := Lib.hid (Nat.le_trans ZD.out b5.size)
              have dl := DB5.out.lt
              have d0 : w5.cell? ⟨wr.heap.size, 0, none⟩ = some (.int .i64 kd) := DB5.out.cell 0
              have d2 : w5.cell? ⟨wr.heap.size, 2, none⟩ = some (.int .i64 nn) := DB5.out.cell 2
              clear k5 b5 bd BD KD DB F1
              rcases hf with ⟨rfl, hno⟩ | ⟨bb, rfl, hbest⟩
              · clear hno
                go_wp2_with fail
                go_roundw
                case rel => exact ⟨i + 1, ms, kn, by go_num, by omega, K5.out.more (by omega), BK5.out, CIi.out, Z5.out, B5.out⟩
                case measure => simp [intOf]; omega
              · have BST := Lib.hid hbest
                have hbM := hbest.lt
                obtain ⟨mb, hm, hq⟩ := CIi.out.has hbest
                have HM := Lib.hid hm
                have hb0 : decide ((bb : Int) < 0) = false := decide_eq_false (by omega)
                have hb2 : (bb : Int) < M := by omega
                obtain ⟨bx, ox, rfl, hbx, hcx⟩ := hv.out.at_ hbM
                obtain ⟨x0, x1⟩ := hX.out bb hbM
                have cx := (B5.out.cell (p := ⟨bx, ox + bb, none⟩) hbx).trans hcx
                have lx := Nat.lt_of_lt_of_le hbx B5.out.size
                have PR := Lib.hid (prio_k K5.out bb (by omega))
                have hpq : (prioM (lst n U) (ms bb)).1 ≤ X bb % 101 := by rw [hm]; show prioL _ mb.prio mb.held ≤ _; rw [show X bb % 101 = mb.prio from hq.symm]; exact prioL_le _ _ _
                generalize (prioM (lst n U) (ms bb)).1 = pv at PR hpq
                generalize (prioM (lst n U) (ms bb)).2 = pc at PR
                have f1 : decide (X bb % 101 < pv) = false := decide_eq_false (by omega)
                have FK := Lib.hid (fun g (e : g = w2.heap.size) => show g < w5.heap.size from by have := BK5.out.lt; omega)
                clear hbest hm hq hcx hpq
                by_cases hk1 : kd = 1
                · subst hk1
                  obtain ⟨t1, t2⟩ := CIi.out.take BST.out nn
                  have TK := Lib.hid (take_k K5.out FK.out Z5.out bb nn (by omega) (by omega))
                  have T2 := Lib.hid t2
                  generalize (takeF (lst n U) ms bb nn).1 = cc at TK t1
                  generalize (takeF (lst n U) ms bb nn).2 = ms2 at TK T2
                  have g1 : (cc == 10) = false := beq_eq_false_iff_ne.2 t1
                  clear t1 t2
                  go_wp2_with (first
                    | (go_at_call 13; (with_reducible refine Calls.mono PR.out ?_); rintro e w6 ⟨rfl, rfl⟩)
                    | (go_at_call 14; (with_reducible refine Calls.mono TK.out ?_); rintro e w7 ⟨rfl, k7, o7⟩
                       have K7 := Lib.hid k7
                       have B7 := Lib.hid (Below.onlyF B5.out o7 (fun i h => by have := h.1; have := HB.out.size; omega))
                       have BK7 := Lib.hid (BK5.out.only o7 (fun h => h.2 rfl))
                       have Z7 := Lib.hid (Nat.le_trans Z5.out o7.size)
                       clear k7 o7))
                  go_roundw
                  case rel => exact ⟨i + 1, ms2, kn, by go_num, by omega, K7.out, BK7.out, T2.out, Z7.out, B7.out⟩
                  case measure => simp [intOf]; omega
                · have e1 : (kd == 1) = false := beq_eq_false_iff_ne.2 hk1
                  have HE := Lib.hid (held_k K5.out bb (by omega))
                  have eh : heldM (ms bb) = mb.held := by rw [HM.out]; rfl
                  rw [eh] at HE
                  obtain ⟨hl, hhl⟩ : ∃ hl, mb.held.length = hl := ⟨_, rfl⟩
                  have HHL := Lib.hid hhl
                  have hl9 : hl ≤ 1000 := by have := (Kept.nd K5.out HM.out).2.2; omega
                  rw [hhl] at HE
                  clear eh hhl
                  by_cases hl0 : hl = 0
                  · subst hl0
                    have GN := fun W (k : Kept W p i w0.heap.size (fun g => g = w2.heap.size) (lst n U) ms) (hF : ∀ g, g = w2.heap.size → g < W.heap.size) (hb : w0.heap.size ≤ W.heap.size) => Lib.hid (gone_k k hF hb bb (by omega))
                    have T2 := Lib.hid (CIi.out.gone (b := bb))
                    by_cases hk2 : kd = 2
                    all_goals
                      first
                        | (have e2 : (kd == 2) = true := beq_iff_eq.2 hk2)
                        | (have e2 : (kd == 2) = false := beq_eq_false_iff_ne.2 hk2)
                      clear hk2
                      go_wp2_with (first
                        | (go_at_call 13; (with_reducible refine Calls.mono PR.out ?_); rintro e w6 ⟨rfl, rfl⟩)
                        | (go_at_call 10; (with_reducible refine Calls.mono HE.out ?_); rintro e w7 ⟨A7, c7, rfl, -, k7, b7⟩
                           have K7 := Lib.hid k7
                           have B7 := Lib.hid (Below.next B5.out b7)
                           have BK7 := Lib.hid (BK5.out.below b7 BK5.out.lt)
                           have Z7 := Lib.hid (Nat.le_trans Z5.out b7.size)
                           have F7 := Lib.hid (fun g (e : g = w2.heap.size) => show g < w7.heap.size from by have := BK7.out.lt; omega)
                           have d7 := (b7.cell (p := ⟨wr.heap.size, 0, none⟩) dl).trans d0
                           have dl7 := Nat.lt_of_lt_of_le dl b7.size
                           clear k7 b7)
                        | (go_at_call 16; (with_reducible refine Calls.mono (GN _ K7.out F7.out Z7.out).out ?_); rintro e w8 ⟨A8, c8, rfl, -, -, k8, o8⟩
                           have K8 := Lib.hid k8
                           have B8 := Lib.hid (Below.onlyF B7.out o8 (fun i h => by have := h.1; have := HB.out.size; omega))
                           have bk8 := BK7.out.only o8 (fun h => h.2 rfl)
                           have g0 := bk8.cell bb
                           rw [bl_at kn hbM] at g0
                           have f8 := bk8.free bb
                           have BK8 := Lib.hid bk8
                           have Z8 := Lib.hid (Nat.le_trans Z7.out o8.size)
                           clear k8 o8 bk8))
                      go_roundw
                      case rel =>
                        have bk := BK8.out.put bb (.bool false)
                        rw [bl_set kn hbM] at bk
                        exact ⟨i + 1, _, _, by go_num, by omega, K8.out.only (Only.setCell (Only.refl (fun g => g = w2.heap.size) w8) (p := ⟨w2.heap.size, bb, none⟩) (fun _ => rfl) (.bool false)) (fun g e => .inl e), bk, T2.out, Nat.le_trans Z8.out (Only.setCell (Only.refl (fun g => g = w2.heap.size) w8) (p := ⟨w2.heap.size, bb, none⟩) (fun _ => rfl) (.bool false)).size, Below.onlyF B8.out (Only.setCell (Only.refl (fun g => g = w2.heap.size) w8) (p := ⟨w2.heap.size, bb, none⟩) (fun _ => rfl) (.bool false)) (fun g e => by have := HA.out.size; omega)⟩
                      case measure => simp [intOf]; omega
                  · obtain ⟨pp, rfl⟩ : ∃ pp, hl = pp + 1 := ⟨hl - 1, by omega⟩
                    by_cases hk2 : kd = 2
                    · subst hk2
                      obtain ⟨x, hx⟩ : ∃ x, mb.held[pp]? = some x := ⟨_, List.getElem?_eq_getElem (by rw [HHL.out]; omega)⟩
                      obtain ⟨nd1, nd2, nd3⟩ := Kept.nd K5.out HM.out
                      obtain ⟨t1, t2⟩ := CIi.out.back BST.out HM.out nd1 nd2 HHL.out hx
                      have BQ := fun W (k : Kept W p i w0.heap.size (fun g => g = w2.heap.size) (lst n U) ms) (hF : ∀ g, g = w2.heap.size → g < W.heap.size) (hb : w0.heap.size ≤ W.heap.size) => Lib.hid (t1 ▸ back_k k hF hb bb x (by omega) (by omega))
                      have T2 := Lib.hid t2
                      have HX := Lib.hid hx
                      clear t1 t2 nd1 nd2 nd3 hx hl0
                      go_wp2_with (first
                        | (go_at_call 13; (with_reducible refine Calls.mono PR.out ?_); rintro e w6 ⟨rfl, rfl⟩)
                        | (go_at_call 10; (with_reducible refine Calls.mono HE.out ?_); rintro e w7 ⟨A7, c7, rfl, s7, k7, b7⟩
                           obtain ⟨g7, o7, x7, e7, -, -, l7, h7, -⟩ := s7.at_ (by omega)
                           simp only [Value.slice.injEq] at e7
                           obtain ⟨rfl, -, -⟩ := e7
                           have y0 := h7 pp _ (ints_at HX.out)
                           have K7 := Lib.hid k7
                           have B7 := Lib.hid (Below.next B5.out b7)
                           have BK7 := Lib.hid (BK5.out.below b7 BK5.out.lt)
                           have Z7 := Lib.hid (Nat.le_trans Z5.out b7.size)
                           have F7 := Lib.hid (fun g (e : g = w2.heap.size) => show g < w7.heap.size from by have := BK7.out.lt; omega)
                           have d7 := (b7.cell (p := ⟨wr.heap.size, 0, none⟩) dl).trans d0
                           have dl7 := Nat.lt_of_lt_of_le dl b7.size
                           clear k7 b7 s7 h7)
                        | (go_at_call 15; (with_reducible refine Calls.mono (BQ _ K7.out F7.out Z7.out).out ?_); rintro e w8 ⟨rfl, k8, o8⟩
                           have K8 := Lib.hid k8
                           have B8 := Lib.hid (Below.onlyF B7.out o8 (fun i h => by have := h.1; have := HB.out.size; omega))
                           have BK8 := Lib.hid (BK7.out.only o8 (fun h => h.2 rfl))
                           have Z8 := Lib.hid (Nat.le_trans Z7.out o8.size)
                           clear k8 o8))
                      go_roundw
                      case rel => exact ⟨i + 1, _, kn, by go_num, by omega, K8.out, BK8.out, T2.out, Z8.out, B8.out⟩
                      case measure => simp [intOf]; omega
                    · have e2 : (kd == 2) = false := beq_eq_false_iff_ne.2 hk2
                      clear hl0
                      go_wp2_with (first
                        | (go_at_call 13; (with_reducible refine Calls.mono PR.out ?_); rintro e w6 ⟨rfl, rfl⟩)
                        | (go_at_call 10; (with_reducible refine Calls.mono HE.out ?_); rintro e w7 ⟨A7, c7, rfl, -, k7, b7⟩
                           have K7 := Lib.hid k7
                           have B7 := Lib.hid (Below.next B5.out b7)
                           have BK7 := Lib.hid (BK5.out.below b7 BK5.out.lt)
                           have Z7 := Lib.hid (Nat.le_trans Z5.out b7.size)
                           have d7 := (b7.cell (p := ⟨wr.heap.size, 0, none⟩) dl).trans d0
                           have dl7 := Nat.lt_of_lt_of_le dl b7.size
                           clear k7 b7))
                      go_roundw
                      case rel => exact ⟨i + 1, ms, kn, by go_num, by omega, K7.out.more (by omega), BK7.out, CIi.out, Z7.out, B7.out⟩
                      case measure => simp [intOf]; omega
          · rcases (show ¬ (i < ns) ∨ (i < ns ∧ ¬ (i < 120)) by omega) with h1 | ⟨h1, h2⟩
            · have h3 : ¬ (i : Int) < ns := by omega
              go_wp2_with fail
              go_ret
              exact ⟨rfl, BI.out⟩
            · have h3 : (i : Int) < ns := by omega
              have h4 : ¬ (i : Int) < 120 := by omega
              go_wp2_with fail
              go_ret
              exact ⟨rfl, BI.out⟩
      · have d1 : decide (16 < (M : Int)) = true := decide_eq_true (by omega)
        have d1' : decide (16 < M) = true := decide_eq_true (by omega)
        clear hM0
        go_wp2_with fail
        go_ret
        exact ⟨rfl, HB.out⟩
theorem walk (w : World) (A0 : Option Addr) (n0 cap0 : Nat) (D0 : Nat → List Value) (w0 : Elems w [some .i64] A0 n0 D0) (l0 : n0 * 8 ≤ 140737488351232) (A1 : Option Addr) (n1 cap1 : Nat) (D1 : Nat → List Value) (w1 : Elems w [some .u8] A1 n1 D1) (l1 : n1 * 1 ≤ 140737488351232)
    (A2 : Option Addr) (n2 cap2 : Nat) (D2 : Nat → List Value) (w2 : Elems w [some .i64, some .i64, some .i64] A2 n2 D2) (l2 : n2 * 24 ≤ 140737488351232) :
    Calls Try.prog 3 #[.slice A0 n0 cap0, .slice A1 n1 cap1, .slice A2 n2 cap2] w fun e w' => e = .returned (.bool true) ∧ Below w.heap.size w w' := by
  obtain ⟨U, hU, -⟩ := ints_of w0
  obtain ⟨X, hX, hw⟩ := ints_of w1
  obtain ⟨Y, hY⟩ := script_of w2
  exact walk2 w A0 n0 cap0 U (Lib.hid hU) (by omega) A1 n1 cap1 X (Lib.hid hX) (Lib.hid fun i hi => bounds_u8 (hw i hi)) (by omega) A2 n2 cap2 Y (Lib.hid hY) (by omega)
end lockCeils
namespace lockCeils
theorem own : ownKnob Try.prog.godebug = none := by kernel_rfl
set_option maxRecDepth 100000 in
theorem lifted (os : Os) (started : os.Started) (H : Type) (enc : TypeId × Value → H) :
    ReturnsInHanded {} Try.checked os 3 .any (Rows.lockCeilsSpec.pre6 enc Try.prog Try.f3 Rows.lockCeilsRow.domain false) (Rows.lockCeilsSpec.post enc Try.prog Try.f3 false true false false) := by
  refine returnsInHanded_of_change_sized (C := Try.checked) own started (by kernel_rfl) Try.func3
    (ChangeSpec.witness6 (enc := enc) (C := Try.checked) false ⟨#[], #[.slice none 0 0, .slice none 0 0, .slice none 0 0], []⟩ 8 (by kernel_rfl) (by kernel_rfl) (by kernel_rfl) (by kernel_rfl)) ?_
  intro W base args ds gs before hval0 hW hcnd hsz0 _
  have hsz : (DataW.weightsEach Try.prog (Try.f3.params.toList ++ Rows.lockCeilsSpec.plain.varTypes Try.prog) (ds ++ gs)).all (· ≤ reachBytes) = true := hsz0
  have hval : ∀ (j : Nat) t v, Try.f3.params[j]? = some t → args[j]? = some v → Value.okWide Try.prog W .any base t v := hval0
  have hW' := hW
  obtain ⟨p, q, hA0, hV, rfl, hfz, hnd⟩ := hW
  have hA : DataW.TrodAll enc Try.prog W 0 (fun _ => true) true Try.f3.params.toList args.toList ds p := hA0
  rw [Try.params3] at hA hval hsz
  obtain ⟨v0, vs0, d0, ds0, p0, q0, hargs, rfl, rfl, h0, r0⟩ := trodAll_cons hA
  obtain ⟨v1, vs1, d1, ds1, p1, q1, rfl, rfl, rfl, h1, r1⟩ := trodAll_cons r0
  obtain ⟨v2, vs2, d2, ds2, p2, q2, rfl, rfl, rfl, h2, r2⟩ := trodAll_cons r1
  obtain ⟨rfl, rfl, rfl⟩ := trodAll_nil r2
  obtain rfl : args = #[v0, v1, v2] := by cases args; simp_all
  obtain ⟨rfl, rfl⟩ := trodVars_none hV
  obtain ⟨A0, n0, cap0, D0, rfl, w0, m0, z0⟩ := arg_slice [some .i64] Try.underlying22 6 (by kernel_rfl) (by kernel_rfl) (hval 0 22 v0 rfl rfl) h0
  have l0 : n0 * Try.prog.bytesOf 42 ≤ reachBytes := by
    rcases z0 with ⟨_, e⟩ | ⟨es, sp, e, el⟩
    · subst e; simp
    · subst e; subst el; exact Nat.le_trans (Nat.mul_le_mul_right _ (Nat.le_add_right _ _)) (sized_slice hsz (j := 0) (t := 22) (e := 42) rfl rfl Try.underlying22)
  have b0 : Try.prog.bytesOf 42 = 8 := by kernel_rfl
  rw [b0] at l0
  simp only [reachBytes] at l0
  clear z0 b0
  obtain ⟨A1, n1, cap1, D1, rfl, w1, m1, z1⟩ := arg_slice [some .u8] Try.underlying23 6 (by kernel_rfl) (by kernel_rfl) (hval 1 23 v1 rfl rfl) h1
  have l1 : n1 * Try.prog.bytesOf 5 ≤ reachBytes := by
    rcases z1 with ⟨_, e⟩ | ⟨es, sp, e, el⟩
    · subst e; simp
    · subst e; subst el; exact Nat.le_trans (Nat.mul_le_mul_right _ (Nat.le_add_right _ _)) (sized_slice hsz (j := 1) (t := 23) (e := 5) rfl rfl Try.underlying23)
  have b1 : Try.prog.bytesOf 5 = 1 := by kernel_rfl
  rw [b1] at l1
  simp only [reachBytes] at l1
  clear z1 b1
  obtain ⟨A2, n2, cap2, D2, rfl, w2, m2, z2⟩ := arg_slice [some .i64, some .i64, some .i64] Try.underlying24 6 (by kernel_rfl) (by kernel_rfl) (hval 2 24 v2 rfl rfl) h2
  have l2 : n2 * Try.prog.bytesOf 33 ≤ reachBytes := by
    rcases z2 with ⟨_, e⟩ | ⟨es, sp, e, el⟩
    · subst e; simp
    · subst e; subst el; exact Nat.le_trans (Nat.mul_le_mul_right _ (Nat.le_add_right _ _)) (sized_slice hsz (j := 2) (t := 24) (e := 33) rfl rfl Try.underlying24)
  have b2 : Try.prog.bytesOf 33 = 24 := by kernel_rfl
  rw [b2] at l2
  simp only [reachBytes] at l2
  clear z2 b2
  clear hA0 hval0 hsz0 hsz
  refine (walk W A0 n0 cap0 D0 w0 l0 A1 n1 cap1 D1 w1 l1 A2 n2 cap2 D2 w2 l2).mono fun e W' ⟨he, bel⟩ => ?_
  subst he
  exact ⟨_, rfl, _, _, _, [], _, [], hW', trodAll_mk1 (shut_bool Try.underlying4 _), (trodAll_cons_mk (Below.trod laidOut (by kernel_rfl) (of_decide_eq_true (by kernel_rfl)) h0 bel (fun x hx => by simpa using hW'.lt x (by simp [hx]))) (trodAll_cons_mk (Below.trod laidOut (by kernel_rfl) (of_decide_eq_true (by kernel_rfl)) h1 bel (fun x hx => by simpa using hW'.lt x (by simp [hx]))) (trodAll_cons_mk (Below.trod laidOut (by kernel_rfl) (of_decide_eq_true (by kernel_rfl)) h2 bel (fun x hx => by simpa using hW'.lt x (by simp [hx]))) trodAll_mk0))), rfl, bel.frame _, fun h => by cases h⟩
theorem over : Rows.lockCeilsRow.holds Try.pinned (OpenSpec.ofChange Rows.lockCeilsSpec) :=
  OpenClaim.holds_of_wide 3 Try.f3 rfl rfl rfl rfl rfl rfl rfl ⟨rfl, rfl, rfl, rfl, rfl⟩ rfl rfl rfl rfl rfl (by kernel_rfl) Try.func3 (by kernel_rfl)
    (of_decide_eq_true (by kernel_rfl)) (by unfold Func.isWrapper; first | (rw [if_pos (by decide +kernel)]; kernel_rfl) | (rw [if_neg (by decide +kernel)]; exact ⟨rfl, rfl⟩))
    (fun os started H enc _ => lifted os started H enc)
end lockCeils
theorem lockCeils_holds : Rows.LockCeilsSaid := lockCeils.over
#print axioms lockCeils_holds
end Go.Proofs.Ythmcgbjkbcogkaa
