/- The reference of layer 7 (pool): May and Small; the law's small. -/
import Derived.Test.YtbhpdljfkcdnbaaPoolReturn
import Derived.Test.YtbhpdljfkcdnbaaArgN
namespace Go.Proofs.Ytbhpdljfkcdnbaa
open Go.RowKit
set_option linter.unusedVariables false
set_option linter.unusedSimpArgs false
namespace poolReturn
/-- The script: kind, handle, two numbers, bytes. -/
structure St where
  k : Int
  s : Int
  g : Int
  a : Int
  b : Int
  w : List Int
  A : Option Addr
  c : Nat
def Script (w : World) (A : Option Addr) (n : Nat) (X : Nat → St) : Prop :=
  ∀ i, i < n → ∃ b off, A = some ⟨b, off, none⟩ ∧ b < w.heap.size ∧ w.cell? ⟨b, off + i * 6, none⟩ = some (.int .i64 (X i).k) ∧ w.cell? ⟨b, off + i * 6 + 1, none⟩ = some (.int .i64 (X i).s) ∧ w.cell? ⟨b, off + i * 6 + 2, none⟩ = some (.int .u64 (X i).g) ∧
    w.cell? ⟨b, off + i * 6 + 3, none⟩ = some (.int .i64 (X i).a) ∧ w.cell? ⟨b, off + i * 6 + 4, none⟩ = some (.int .i64 (X i).b) ∧ w.cell? ⟨b, off + i * 6 + 5, none⟩ = some (.slice (X i).A (X i).w.length (X i).c) ∧
    (-9223372036854775808 ≤ (X i).b ∧ (X i).b ≤ 9223372036854775807) ∧ Src w 1 (X i).A (X i).w.length (byteCells (X i).w) ∧ (X i).w.length ≤ maxLen ∧ ∀ x ∈ (X i).w, 0 ≤ x ∧ x ≤ 255
theorem bytes_list {w : World} {A : Option Addr} {n : Nat} {D : Nat → List Value} (h : Elems w [some .u8] A n D) : ∃ l : List Int, l.length = n ∧ Src w 1 A n (byteCells l) ∧ ∀ x ∈ l, 0 ≤ x ∧ x ≤ 255 := by
  obtain ⟨U, hU, hw⟩ := ints_of h
  refine ⟨(List.range n).map U, by simp, ⟨by simp [byteCells], ?_⟩, fun x hx => ?_⟩
  · by_cases hn : n = 0
    · exact .inl hn
    · obtain ⟨b, off, e, hb, -⟩ := hU 0 (by omega)
      refine .inr ⟨_, e, fun j u hu => ?_⟩
      obtain ⟨b', off', e', -, hc⟩ := hU 0 (by omega)
      rw [e] at e'
      cases e'
      have hj : j < n := by
        have := (List.getElem?_eq_some_iff.1 hu).1
        simpa [byteCells] using this
      have hv : u = .int .u8 (U j) := by
        simp [byteCells, hj] at hu
        exact hu.symm
      rw [Go.WideShapes.add_plain, hc j hj, hv]
  · obtain ⟨j, hj, rfl⟩ := List.mem_map.1 hx
    exact bounds_u8 (hw j (List.mem_range.1 hj))
theorem script_of {w : World} {A : Option Addr} {n : Nat} {D : Nat → List Value} (h : ElemsN w [.int .i64, .int .i64, .int .u64, .int .i64, .int .i64, .sl [some .u8]] A n D) : ∃ X, Script w A n X := by
  have key : ∀ i, ∃ t : St, i < n → D i = [.int .i64 t.k, .int .i64 t.s, .int .u64 t.g, .int .i64 t.a, .int .i64 t.b, .slice t.A t.w.length t.c] ∧ (Lit.int .i64 t.b).wf = true ∧ Src w 1 t.A t.w.length (byteCells t.w) ∧ t.w.length ≤ maxLen ∧ ∀ x ∈ t.w, 0 ≤ x ∧ x ≤ 255 := by
    intro i
    by_cases hi : i < n
    · obtain ⟨hok, _⟩ := h i hi
      obtain ⟨x1, r1, e1, ⟨k, rfl, -⟩, hr1⟩ := allN_cons hok
      obtain ⟨x2, r2, e2, ⟨s, rfl, -⟩, hr2⟩ := allN_cons hr1
      obtain ⟨x3, r3, e3, ⟨g, rfl, -⟩, hr3⟩ := allN_cons hr2
      obtain ⟨x4, r4, e4, ⟨a, rfl, -⟩, hr4⟩ := allN_cons hr3
      obtain ⟨x5, r5, e5, ⟨b, rfl, hb⟩, hr5⟩ := allN_cons hr4
      obtain ⟨x6, r6, e6, ⟨Ab, len, cap, Db, rfl, hw, hlen⟩, hr6⟩ := allN_cons hr5
      obtain rfl := allN_nil hr6
      obtain ⟨l, rfl, hl, hl2⟩ := bytes_list hw
      exact ⟨⟨k, s, g, a, b, l, Ab, cap⟩, fun _ => ⟨by rw [e1, e2, e3, e4, e5, e6], hb, hl, hlen, hl2⟩⟩
    · exact ⟨⟨0, 0, 0, 0, 0, [], none, 0⟩, fun h => absurd h hi⟩
  refine ⟨fun i => (key i).choose, fun i hi => ?_⟩
  obtain ⟨hD, h1, h2, h3, h4⟩ := (key i).choose_spec hi
  show ∃ b off, A = some ⟨b, off, none⟩ ∧ b < w.heap.size ∧ w.cell? ⟨b, off + i * 6, none⟩ = some (.int .i64 (key i).choose.k) ∧ w.cell? ⟨b, off + i * 6 + 1, none⟩ = some (.int .i64 (key i).choose.s) ∧ w.cell? ⟨b, off + i * 6 + 2, none⟩ = some (.int .u64 (key i).choose.g) ∧
    w.cell? ⟨b, off + i * 6 + 3, none⟩ = some (.int .i64 (key i).choose.a) ∧ w.cell? ⟨b, off + i * 6 + 4, none⟩ = some (.int .i64 (key i).choose.b) ∧ w.cell? ⟨b, off + i * 6 + 5, none⟩ = some (.slice (key i).choose.A (key i).choose.w.length (key i).choose.c) ∧
    (-9223372036854775808 ≤ (key i).choose.b ∧ (key i).choose.b ≤ 9223372036854775807) ∧ Src w 1 (key i).choose.A (key i).choose.w.length (byteCells (key i).choose.w) ∧ (key i).choose.w.length ≤ maxLen ∧ ∀ x ∈ (key i).choose.w, 0 ≤ x ∧ x ≤ 255
  generalize (key i).choose = t at *
  obtain ⟨bb, off, e, hb, hc⟩ := rowsN_of h (by simp) i hi
  refine ⟨bb, off, e, hb, ?_, ?_, ?_, ?_, ?_, ?_, bounds_i64 h1, h2, h3, h4⟩
  · have := hc i 0 hi (by simp); rw [hD] at this; simpa using this
  · have := hc i 1 hi (by simp); rw [hD] at this; simpa [Nat.add_assoc] using this
  · have := hc i 2 hi (by simp); rw [hD] at this; simpa [Nat.add_assoc] using this
  · have := hc i 3 hi (by simp); rw [hD] at this; simpa [Nat.add_assoc] using this
  · have := hc i 4 hi (by simp); rw [hD] at this; simpa [Nat.add_assoc] using this
  · have := hc i 5 hi (by simp); rw [hD] at this; simpa [Nat.add_assoc] using this
def RelMay7 (w : World) (n : Nat) (S C : Nat → Int) (iv : Value) (wr : World) : Prop := ∃ i : Nat, iv = .int .i64 i ∧ i ≤ n ∧ (∀ j, j < i → okC S C j) ∧ Below w.heap.size w wr
set_option maxRecDepth 100000 in
set_option maxHeartbeats 2000000 in
theorem rmay07_any (w : World) (A : Option Addr) (n cap : Nat) (S C : Nat → Int) (hA : Hid (Cls w A n S C)) (hS : Hid (∀ i, i < n → -9223372036854775808 ≤ S i ∧ S i ≤ 9223372036854775807 ∧ -9223372036854775808 ≤ C i ∧ C i ≤ 9223372036854775807)) (hn : n ≤ 140737488351232) :
    Calls Try.prog 23 #[.slice A n cap] w (MayPost w n S C) := by
  by_cases n1 : 1 ≤ n
  · have d1 : decide ((n : Int) < 1) = false := decide_eq_false (by omega)
    by_cases n8 : n ≤ 8
    · have d2 : decide (8 < (n : Int)) = false := decide_eq_false (by omega)
      go_enter Try.func23, Try.ntmps23
      go_wp2_with fail
      go_loopw [3] (fun iv wr => Hid (RelMay7 w n S C iv wr)) (fun iv _ => n - (intOf iv).toNat)
      case atStart => exact ⟨0, rfl, by omega, fun j h => by omega, Below.refl _ _⟩
      case round =>
        obtain ⟨i, rfl, hi, hok, hbel⟩ := hrel
        have HOK := Lib.hid hok
        have BEL := Lib.hid hbel
        clear hok hbel
        by_cases hil : i < n
        · have hi2 : (i : Int) < n := by omega
          obtain ⟨b, off, rfl, hb, c0, c1⟩ := hA.out.below BEL.out i hil
          by_cases z1 : S i < 1
          · have dz1 : decide (S i < 1) = true := decide_eq_true z1
            have HNO := Lib.hid (show ¬ mayC n S C from fun h => by have h0 := h.2.2 i hil; have := size_pos h i hil; unfold okC at h0; omega)
            clear z1
            go_wp2_with fail
            go_quiet (fail)
            go_wp2_with fail
            go_ret
            exact MayPost.no rfl HNO.out (Below.drewN' BEL.out _)
          have dz1 : decide (S i < 1) = false := decide_eq_false z1
          by_cases z2 : 65536 < S i
          · have dz2 : decide (65536 < S i) = true := decide_eq_true z2
            have HNO := Lib.hid (show ¬ mayC n S C from fun h => by have h0 := h.2.2 i hil; have := size_pos h i hil; unfold okC at h0; omega)
            clear z2
            go_wp2_with fail
            go_quiet (fail)
            go_wp2_with fail
            go_ret
            exact MayPost.no rfl HNO.out (Below.drewN' BEL.out _)
          have dz2 : decide (65536 < S i) = false := decide_eq_false z2
          by_cases z3 : C i < 1
          · have dz3 : decide (C i < 1) = true := decide_eq_true z3
            have HNO := Lib.hid (show ¬ mayC n S C from fun h => by have h0 := h.2.2 i hil; have := size_pos h i hil; unfold okC at h0; omega)
            clear z3
            go_wp2_with fail
            go_quiet (fail)
            go_wp2_with fail
            go_ret
            exact MayPost.no rfl HNO.out (Below.drewN' BEL.out _)
          have dz3 : decide (C i < 1) = false := decide_eq_false z3
          by_cases z4 : 100 < C i
          · have dz4 : decide (100 < C i) = true := decide_eq_true z4
            have HNO := Lib.hid (show ¬ mayC n S C from fun h => by have h0 := h.2.2 i hil; have := size_pos h i hil; unfold okC at h0; omega)
            clear z4
            go_wp2_with fail
            go_quiet (fail)
            go_wp2_with fail
            go_ret
            exact MayPost.no rfl HNO.out (Below.drewN' BEL.out _)
          have dz4 : decide (100 < C i) = false := decide_eq_false z4
          by_cases h0 : i = 0
          · have OK1 := Lib.hid (show okC S C i from by subst h0; exact ⟨by simp only [lastC]; omega, by omega, by omega, by omega⟩)
            have d0 : decide (0 < (i : Int)) = false := decide_eq_false (by omega)
            have d0n : decide (0 < i) = false := decide_eq_false (by omega)
            clear z1 z2 z3 z4 h0
            go_wp2_with fail
            go_quiet (fail)
            go_wp2_with fail
            go_roundw
            case rel => exact ⟨i + 1, by go_num, by omega, (fun k hk => by
              rcases (show k < i ∨ k = i by omega) with h | rfl
              · exact HOK.out k h
              · exact OK1.out), Below.drewN' BEL.out _⟩
            case measure => simp [intOf]; omega
          · obtain ⟨j, hij⟩ : ∃ j, i = j + 1 := ⟨i - 1, by omega⟩
            obtain ⟨b2, off2, e2, -, c2, -⟩ := hA.out.below BEL.out j (by omega)
            cases e2
            have hj1 : (i : Int) - 1 = j := by omega
            have hjn : (j : Int) < n := by omega
            have d0 : decide (0 < (i : Int)) = true := decide_eq_true (by omega)
            have d0n : decide (0 < i) = true := decide_eq_true (by omega)
            have hl : lastC S i = S j := by subst hij; rfl
            by_cases z5 : S i ≤ S j
            · have dz5 : decide (S i ≤ S j) = true := decide_eq_true z5
              have HNO := Lib.hid (show ¬ mayC n S C from fun h => by have h0 := (h.2.2 i hil).1; rw [hl] at h0; omega)
              clear z1 z2 z3 z4 z5 hl hij h0
              go_wp2_with fail
              go_quiet (fail)
              go_wp2_with fail
              go_ret
              exact MayPost.no rfl HNO.out (Below.drewN' BEL.out _)
            · have dz5 : decide (S i ≤ S j) = false := decide_eq_false z5
              have OK1 := Lib.hid (show okC S C i from ⟨by rw [hl]; omega, by omega, by omega, by omega⟩)
              clear z1 z2 z3 z4 z5 hl hij h0
              go_wp2_with fail
              go_quiet (fail)
              go_wp2_with fail
              go_roundw
              case rel => exact ⟨i + 1, by go_num, by omega, (fun k hk => by
                rcases (show k < i ∨ k = i by omega) with h | rfl
                · exact HOK.out k h
                · exact OK1.out), Below.drewN' BEL.out _⟩
              case measure => simp [intOf]; omega
        · have hi2 : ¬ (i : Int) < n := by omega
          obtain rfl : i = n := by omega
          go_wp2_with fail
          go_ret
          exact MayPost.yes rfl ⟨n1, n8, HOK.out⟩ BEL.out
    · have d2 : decide (8 < (n : Int)) = true := decide_eq_true (by omega)
      go_enter Try.func23, Try.ntmps23
      go_wp2_with fail
      go_ret
      exact MayPost.no rfl (fun h => by have := h.2.1; omega) (Below.refl _ _)
  · have d1 : decide ((n : Int) < 1) = true := decide_eq_true (by omega)
    go_enter Try.func23, Try.ntmps23
    go_wp2_with fail
    go_ret
    exact MayPost.no rfl (fun h => by have := h.1; omega) (Below.refl _ _)
def SmPost (w : World) (e : Ending) (w' : World) : Prop := ∃ r, e = .returned (.bool r) ∧ Below w.heap.size w w'
def ScPost (w : World) (n : Nat) (X : Nat → St) (e : Ending) (w' : World) : Prop := ∃ r, e = .returned (.bool r) ∧ (r = true → ∀ i, i < n → i < 120 → (X i).w.length ≤ 2000) ∧ Below w.heap.size w w'
def RelSmall (w : World) (n : Nat) (nv iv : Value) (wr : World) : Prop := ∃ (i : Nat) (m : Int), nv = .int .i64 m ∧ iv = .int .i64 i ∧ i ≤ n ∧ Below w.heap.size w wr
set_option maxRecDepth 100000 in
set_option maxHeartbeats 2000000 in
theorem small07_any (w : World) (A : Option Addr) (n cap : Nat) (S C : Nat → Int) (hA : Hid (Cls w A n S C)) (hS : Hid (∀ i, i < n → -9223372036854775808 ≤ S i ∧ S i ≤ 9223372036854775807 ∧ -9223372036854775808 ≤ C i ∧ C i ≤ 9223372036854775807)) (hn : n ≤ 140737488351232) :
    Calls Try.prog 21 #[.slice A n cap] w (SmPost w) := by
  go_enter Try.func21, Try.ntmps21
  go_wp2_with fail
  go_loopw [3, 4] (fun nv iv wr => Hid (RelSmall w n nv iv wr)) (fun _ iv _ => n - (intOf iv).toNat)
  case atStart => exact ⟨0, 0, rfl, rfl, by omega, Below.refl _ _⟩
  case round =>
    obtain ⟨i, m, rfl, rfl, hi, hbel⟩ := hrel
    have BEL := Lib.hid hbel
    clear hbel
    by_cases hil : i < n
    · have hi2 : (i : Int) < n := by omega
      obtain ⟨b, off, rfl, hb, c0, c1⟩ := hA.out.below BEL.out i hil
      obtain ⟨x0, x1, y0, y1⟩ := hS.out i hil
      cases e1 : decide (2000 < S i) <;> cases e2 : decide (S i ≤ 65536) <;> cases e3 : decide (20 < C i) <;> cases e4 : decide (C i ≤ 100) <;> cases e5 : decide (20 < (i : Int))
      all_goals
        go_wp2_with fail
        first
          | (go_ret; exact ⟨_, rfl, BEL.out⟩)
          | (go_roundw; (case rel => exact ⟨i + 1, _, rfl, by go_num, by omega, BEL.out⟩); (case measure => simp [intOf]; omega))
    · have hi2 : ¬ (i : Int) < n := by omega
      go_wp2_with fail
      go_ret
      exact ⟨_, rfl, BEL.out⟩
def RelSc (w : World) (n : Nat) (X : Nat → St) (iv : Value) (wr : World) : Prop := ∃ i : Nat, iv = .int .i64 i ∧ i ≤ n ∧ i ≤ 120 ∧ (∀ j, j < i → (X j).w.length ≤ 2000) ∧ Below w.heap.size w wr
set_option maxRecDepth 100000 in
set_option maxHeartbeats 2000000 in
theorem smallS_any (w : World) (A : Option Addr) (n cap : Nat) (X : Nat → St) (hA : Hid (Script w A n X)) (hn : n ≤ 140737488351232) :
    Calls Try.prog 22 #[.slice A n cap] w (ScPost w n X) := by
  go_enter Try.func22, Try.ntmps22
  go_wp2_with fail
  go_loopw [3] (fun iv wr => Hid (RelSc w n X iv wr)) (fun iv _ => 120 - (intOf iv).toNat)
  case atStart => exact ⟨0, rfl, by omega, by omega, fun j h => by omega, Below.refl _ _⟩
  case round =>
    obtain ⟨i, rfl, hi, h120, hok, hbel⟩ := hrel
    have HOK := Lib.hid hok
    have BEL := Lib.hid hbel
    clear hok hbel
    by_cases hin : i < n ∧ i < 120
    · obtain ⟨h1, h2⟩ := hin
      have h3 : (i : Int) < n := by omega
      have h4 : (i : Int) < 120 := by omega
      obtain ⟨b, off, rfl, hb, -, -, -, -, -, c5, -, -, hlen, -⟩ := hA.out i h1
      have c5 := (BEL.out.cell (p := ⟨b, off + i * 6 + 5, none⟩) hb).trans c5
      simp only [maxLen] at hlen
      by_cases hl : (X i).w.length ≤ 2000
      · have d1 : decide (2000 < ((X i).w.length : Int)) = false := decide_eq_false (by omega)
        have HL := Lib.hid (show ∀ j, j = i → (X j).w.length ≤ 2000 from fun j e => e ▸ hl)
        generalize (X i).w.length = m at *
        generalize (X i).A = Aw at *
        generalize (X i).c = cw at *
        go_wp2_with fail
        go_roundw
        case rel => exact ⟨i + 1, by go_num, by omega, by omega, (fun j hj => by
          rcases (show j < i ∨ j = i by omega) with h | rfl
          · exact HOK.out j h
          · exact HL.out _ rfl), BEL.out⟩
        case measure => simp [intOf]; omega
      · have d1 : decide (2000 < ((X i).w.length : Int)) = true := decide_eq_true (by omega)
        go_wp2_with fail
        go_ret
        exact ⟨false, rfl, (fun h => by cases h), BEL.out⟩
    · rcases (show ¬ (i < n) ∨ (i < n ∧ ¬ (i < 120)) by omega) with h1 | ⟨h1, h2⟩
      · have h3 : ¬ (i : Int) < n := by omega
        go_wp2_with fail
        go_ret
        exact ⟨true, rfl, fun _ j hj _ => HOK.out j (by omega), BEL.out⟩
      · have h3 : (i : Int) < n := by omega
        have h4 : ¬ (i : Int) < 120 := by omega
        go_wp2_with fail
        go_ret
        exact ⟨true, rfl, fun _ j _ hj => HOK.out j (by omega), BEL.out⟩
end poolReturn
end Go.Proofs.Ytbhpdljfkcdnbaa
