/- Layer 8 (pieces): what a test tells of a list (ContainsFunc); May. -/
import Derived.Test.YtajcjepolfmhmaaPieces
namespace Go.Proofs.Ytajcjepolfmhmaa
open Go.RowKit
set_option linter.unusedVariables false
set_option linter.unusedSimpArgs false
/-- Whether one of them is so. -/
def anyB (T : Pc → Bool) (l : List Pc) : Bool := l.any T
def RelC (w : World) (n : Nat) (T : Pc → Bool) (l : List Pc) (iv : Value) (wr : World) : Prop := ∃ i : Nat, iv = .int .i64 i ∧ i ≤ n ∧ (∀ (j : Nat) y, j < i → l[j]? = some y → T y = false) ∧ Below w.heap.size w wr
set_option maxHeartbeats 1000000 in
theorem index_may (w : World) (A : Option Addr) (n c : Nat) (l : List Pc) (hs : PsAt w A l) (hl : l.length = n) (hn : n ≤ 1000) (T : Pc → Bool) (cap : Array Value)
    (H : ∀ W x, x ∈ l → Below w.heap.size w W → Calls Try.prog 25 (#[pcv x] ++ cap) W fun e w' => e = .returned (.bool (T x)) ∧ Below W.heap.size W w') :
    Calls Try.prog 39 #[.slice A n c, .func (.func 25) #[] cap] w fun e w' => (∃ k : Int, e = .returned (.int .i64 k) ∧ (0 ≤ k ↔ anyB T l = true)) ∧ Below w.heap.size w w' := by
  have HS := Lib.hid hs
  have HL := Lib.hid hl
  have HH := Lib.hid H
  clear hs H hl
  go_enter Try.func39, Try.ntmps39
  go_wp2_with fail
  go_loopw [8] (fun iv wr => Hid (RelC w n T l iv wr)) (fun iv _ => (n - intOf iv).toNat)
  case atStart => exact ⟨0, rfl, by omega, fun j y hj => by omega, Below.refl _ _⟩
  case round =>
    obtain ⟨i, rfl, hi, hno, hb⟩ := hrel
    have NO := Lib.hid hno
    have HB := Lib.hid hb
    clear hno hb
    by_cases hin : i < n
    · have hin2 : (i : Int) < n := by omega
      obtain ⟨x, hx⟩ : ∃ x, l[i]? = some x := ⟨_, List.getElem?_eq_getElem (by have := HL.out; omega)⟩
      obtain ⟨b, off, rfl, hlt, c0, c1, c2, c3⟩ := HS.out i x hx
      have c0 := (HB.out.cell (p := ⟨b, off + i * 4, none⟩) hlt).trans c0
      have c1 := (HB.out.cell (p := ⟨b, off + i * 4 + 1, none⟩) hlt).trans c1
      have c2 := (HB.out.cell (p := ⟨b, off + i * 4 + 2, none⟩) hlt).trans c2
      have c3 := (HB.out.cell (p := ⟨b, off + i * 4 + 3, none⟩) hlt).trans c3
      have hli := Nat.lt_of_lt_of_le hlt HB.out.size
      have g1 : IntKind.i64.wrap ((i : Int) + 1) = i + 1 := IntWalk.i64_in _ (by omega)
      have CL := Lib.hid (HH.out wr x (List.mem_of_getElem? hx) HB.out)
      have HX := Lib.hid hx
      clear hx
      cases hp : T x with
      | true =>
        have AN := Lib.hid (show anyB T l = true from List.any_eq_true.2 ⟨x, List.mem_of_getElem? HX.out, hp⟩)
        rw [hp] at CL
        unfold pcv at CL
        clear hp
        go_wp2_with (go_at_call 25; (with_reducible refine Calls.mono CL.out ?_); rintro e w' ⟨rfl, b1⟩; have B1 := Lib.hid (Below.next HB.out b1); clear b1)
        go_ret
        exact ⟨⟨_, rfl, ⟨fun _ => AN.out, fun _ => by omega⟩⟩, B1.out⟩
      | false =>
        have NO2 := Lib.hid (fun (j : Nat) (y : Pc) (hj : j < i + 1) (hy : l[j]? = some y) => show T y = false from by
          by_cases e : j = i
          · subst e
            have := HX.out
            rw [hy] at this
            injection this with this
            rw [this]; exact hp
          · exact NO.out j y (by omega) hy)
        rw [hp] at CL
        unfold pcv at CL
        clear hp
        go_wp2_with (go_at_call 25; (with_reducible refine Calls.mono CL.out ?_); rintro e w' ⟨rfl, b1⟩; have B1 := Lib.hid (Below.next HB.out b1); clear b1)
        go_roundw
        case rel => exact ⟨i + 1, by go_num, by omega, NO2.out, B1.out⟩
        case measure => simp [intOf]; omega
    · obtain rfl : i = n := by omega
      have hin2 : ¬ (i : Int) < i := by omega
      have AN := Lib.hid (show anyB T l = false by
        cases h : anyB T l with
        | false => rfl
        | true =>
          obtain ⟨x, hx, hp⟩ := List.any_eq_true.1 h
          obtain ⟨j, hj, e⟩ := List.mem_iff_getElem.1 hx
          rw [NO.out j x (by have := HL.out; omega) (by rw [← e]; exact List.getElem?_eq_getElem hj)] at hp
          cases hp)
      go_wp2_with fail
      go_ret
      exact ⟨⟨_, rfl, ⟨fun h => by omega, fun h => by rw [AN.out] at h; cases h⟩⟩, HB.out⟩
theorem contains_may (w : World) (A : Option Addr) (n c : Nat) (l : List Pc) (hs : PsAt w A l) (hl : l.length = n) (hn : n ≤ 1000) (T : Pc → Bool) (cap : Array Value)
    (H : ∀ W x, x ∈ l → Below w.heap.size w W → Calls Try.prog 25 (#[pcv x] ++ cap) W fun e w' => e = .returned (.bool (T x)) ∧ Below W.heap.size W w') :
    Calls Try.prog 24 #[.slice A n c, .func (.func 25) #[] cap] w fun e w' => e = .returned (.bool (anyB T l)) ∧ Below w.heap.size w w' := by
  have C := Lib.hid (index_may w A n c l hs hl hn T cap H)
  obtain ⟨m, hm⟩ : ∃ m, anyB T l = m := ⟨_, rfl⟩
  rw [hm] at C ⊢
  clear hs hl H hm
  go_enter Try.func24, Try.ntmps24
  go_wp2_with fail
  go_at_call 39
  (with_reducible refine Calls.mono C.out ?_)
  rintro e w1 ⟨⟨k, rfl, hk⟩, b1⟩
  have B1 := Lib.hid b1
  have e1 : decide (0 ≤ k) = m := by
    cases m with
    | true => exact decide_eq_true (hk.2 rfl)
    | false => exact decide_eq_false (fun h => by have := hk.1 h; cases this)
  clear hk b1
  go_wp2_with fail
  go_ret
  exact ⟨rfl, B1.out⟩

set_option maxHeartbeats 1000000 in
theorem index_all (w : World) (A : Option Addr) (n c : Nat) (l : List Pc) (hs : PsAt w A l) (hl : l.length = n) (hn : n ≤ 1000) (T : Pc → Bool) (cap : Array Value)
    (H : ∀ W x, x ∈ l → Below w.heap.size w W → Calls Try.prog 40 (#[pcv x] ++ cap) W fun e w' => e = .returned (.bool (T x)) ∧ Below W.heap.size W w') :
    Calls Try.prog 39 #[.slice A n c, .func (.func 40) #[] cap] w fun e w' => (∃ k : Int, e = .returned (.int .i64 k) ∧ (0 ≤ k ↔ anyB T l = true)) ∧ Below w.heap.size w w' := by
  have HS := Lib.hid hs
  have HL := Lib.hid hl
  have HH := Lib.hid H
  clear hs H hl
  go_enter Try.func39, Try.ntmps39
  go_wp2_with fail
  go_loopw [8] (fun iv wr => Hid (RelC w n T l iv wr)) (fun iv _ => (n - intOf iv).toNat)
  case atStart => exact ⟨0, rfl, by omega, fun j y hj => by omega, Below.refl _ _⟩
  case round =>
    obtain ⟨i, rfl, hi, hno, hb⟩ := hrel
    have NO := Lib.hid hno
    have HB := Lib.hid hb
    clear hno hb
    by_cases hin : i < n
    · have hin2 : (i : Int) < n := by omega
      obtain ⟨x, hx⟩ : ∃ x, l[i]? = some x := ⟨_, List.getElem?_eq_getElem (by have := HL.out; omega)⟩
      obtain ⟨b, off, rfl, hlt, c0, c1, c2, c3⟩ := HS.out i x hx
      have c0 := (HB.out.cell (p := ⟨b, off + i * 4, none⟩) hlt).trans c0
      have c1 := (HB.out.cell (p := ⟨b, off + i * 4 + 1, none⟩) hlt).trans c1
      have c2 := (HB.out.cell (p := ⟨b, off + i * 4 + 2, none⟩) hlt).trans c2
      have c3 := (HB.out.cell (p := ⟨b, off + i * 4 + 3, none⟩) hlt).trans c3
      have hli := Nat.lt_of_lt_of_le hlt HB.out.size
      have g1 : IntKind.i64.wrap ((i : Int) + 1) = i + 1 := IntWalk.i64_in _ (by omega)
      have CL := Lib.hid (HH.out wr x (List.mem_of_getElem? hx) HB.out)
      have HX := Lib.hid hx
      clear hx
      cases hp : T x with
      | true =>
        have AN := Lib.hid (show anyB T l = true from List.any_eq_true.2 ⟨x, List.mem_of_getElem? HX.out, hp⟩)
        rw [hp] at CL
        unfold pcv at CL
        clear hp
        go_wp2_with (go_at_call 40; (with_reducible refine Calls.mono CL.out ?_); rintro e w' ⟨rfl, b1⟩; have B1 := Lib.hid (Below.next HB.out b1); clear b1)
        go_ret
        exact ⟨⟨_, rfl, ⟨fun _ => AN.out, fun _ => by omega⟩⟩, B1.out⟩
      | false =>
        have NO2 := Lib.hid (fun (j : Nat) (y : Pc) (hj : j < i + 1) (hy : l[j]? = some y) => show T y = false from by
          by_cases e : j = i
          · subst e
            have := HX.out
            rw [hy] at this
            injection this with this
            rw [this]; exact hp
          · exact NO.out j y (by omega) hy)
        rw [hp] at CL
        unfold pcv at CL
        clear hp
        go_wp2_with (go_at_call 40; (with_reducible refine Calls.mono CL.out ?_); rintro e w' ⟨rfl, b1⟩; have B1 := Lib.hid (Below.next HB.out b1); clear b1)
        go_roundw
        case rel => exact ⟨i + 1, by go_num, by omega, NO2.out, B1.out⟩
        case measure => simp [intOf]; omega
    · obtain rfl : i = n := by omega
      have hin2 : ¬ (i : Int) < i := by omega
      have AN := Lib.hid (show anyB T l = false by
        cases h : anyB T l with
        | false => rfl
        | true =>
          obtain ⟨x, hx, hp⟩ := List.any_eq_true.1 h
          obtain ⟨j, hj, e⟩ := List.mem_iff_getElem.1 hx
          rw [NO.out j x (by have := HL.out; omega) (by rw [← e]; exact List.getElem?_eq_getElem hj)] at hp
          cases hp)
      go_wp2_with fail
      go_ret
      exact ⟨⟨_, rfl, ⟨fun h => by omega, fun h => by rw [AN.out] at h; cases h⟩⟩, HB.out⟩
theorem contains_all (w : World) (A : Option Addr) (n c : Nat) (l : List Pc) (hs : PsAt w A l) (hl : l.length = n) (hn : n ≤ 1000) (T : Pc → Bool) (cap : Array Value)
    (H : ∀ W x, x ∈ l → Below w.heap.size w W → Calls Try.prog 40 (#[pcv x] ++ cap) W fun e w' => e = .returned (.bool (T x)) ∧ Below W.heap.size W w') :
    Calls Try.prog 24 #[.slice A n c, .func (.func 40) #[] cap] w fun e w' => e = .returned (.bool (anyB T l)) ∧ Below w.heap.size w w' := by
  have C := Lib.hid (index_all w A n c l hs hl hn T cap H)
  obtain ⟨m, hm⟩ : ∃ m, anyB T l = m := ⟨_, rfl⟩
  rw [hm] at C ⊢
  clear hs hl H hm
  go_enter Try.func24, Try.ntmps24
  go_wp2_with fail
  go_at_call 39
  (with_reducible refine Calls.mono C.out ?_)
  rintro e w1 ⟨⟨k, rfl, hk⟩, b1⟩
  have B1 := Lib.hid b1
  have e1 : decide (0 ≤ k) = m := by
    cases m with
    | true => exact decide_eq_true (hk.2 rfl)
    | false => exact decide_eq_false (fun h => by have := hk.1 h; cases this)
  clear hk b1
  go_wp2_with fail
  go_ret
  exact ⟨rfl, B1.out⟩

theorem may1c_any {w : World} {B : Nat} {x : Pc} (hB : Blk w B 42 (pcc x)) (y : Pc) : Calls Try.prog 25 #[pcv y, .pointer (some ⟨B, 0, none⟩)] w fun e w' => e = .returned (.bool (meetF x y)) ∧ Below w.heap.size w w' := by
  have bw : Below w.heap.size w (w.alloc (.cells ⟨pcc y⟩ 42)) := (Below.refl _ _).alloc (Nat.le_refl _) _
  have BW := Lib.hid bw
  have M := fun W => Lib.hid (meets_any x y W)
  obtain ⟨m, hm⟩ : ∃ m, meetF x y = m := ⟨_, rfl⟩
  rw [hm] at M
  rw [hm]
  obtain ⟨a1, a2, a3, a4⟩ := x
  obtain ⟨b1, b2, b3, b4⟩ := y
  unfold pcv at *
  unfold pcc at *
  simp only at M hB BW ⊢
  have c0 := hB.cell 0
  have c1 := hB.cell 1
  have c2 := hB.cell 2
  have c3 := hB.cell 3
  have cl := hB.lt
  clear hm bw
  go_enter Try.func25, Try.ntmps25
  go_wp2_with (go_at_call 26; (with_reducible refine Calls.mono (M _).out ?_); rintro e w1 ⟨rfl, b1⟩; have B1 := Lib.hid (Below.next BW.out b1); clear b1)
  go_ret
  exact ⟨rfl, B1.out⟩
/-- Whether a list may be, with these buffers. -/
def mayUp (bs : List Bf) (l : List Pc) (i : Nat) : Prop := ∀ (j : Nat) x, j < i → l[j]? = some x → may1 bs x = true ∧ anyB (meetF x) (l.take j) = false
def mayL (bs : List Bf) (l : List Pc) : Prop := mayUp bs l l.length ∧ 1 ≤ l.length ∧ l.length ≤ 16
def RelM (w : World) (bs : List Bf) (l : List Pc) (n : Nat) (iv : Value) (wr : World) : Prop := ∃ i : Nat, iv = .int .i64 i ∧ i ≤ n ∧ mayUp bs l i ∧ Below w.heap.size w wr
theorem PsAt.take {w : World} {A : Option Addr} {l : List Pc} (h : PsAt w A l) (i : Nat) : PsAt w A (l.take i) := fun j x hx => h j x (by
  rw [List.getElem?_take] at hx
  split at hx
  · exact hx
  · cases hx)
def MayQ (w : World) (bs : List Bf) (l : List Pc) (e : Ending) (w' : World) : Prop := ∃ r, e = .returned (.bool r) ∧ (r = true ↔ mayL bs l) ∧ Below w.heap.size w w'
set_option maxRecDepth 100000 in
set_option maxHeartbeats 2000000 in
theorem mayl_any {w : World} {P : Pl} {bs : List Bf} (k : IsP w P bs) (hl : ∀ b ∈ bs, b.bytes.length ≤ 65536) (A : Option Addr) (n c : Nat) (l : List Pc) (hs : PsAt w A l) (hn : l.length = n) (hn16 : n ≤ 16) (hnc : n ≤ c) (hA : n = 0 → A = none ∨ ∃ b off, A = some ⟨b, off, none⟩) :
    Calls Try.prog 9 #[.pointer (some ⟨P.p, 0, none⟩), .slice A n c] w (MayQ w bs l) := by
  have HS := Lib.hid hs
  have HN := Lib.hid hn
  have KP := Lib.hid k
  have M1 := fun W (b : Below w.heap.size w W) x => Lib.hid (may1_any (k.below b) hl x)
  have hmf : ∀ (fn : Fn) (first cap : Array Value) (w : World), (Instr.makeFunc fn first cap).run Try.prog w = .ok (.func fn first cap) w := fun _ _ _ _ => rfl
  clear k hs hn hA
  go_enter Try.func9, Try.ntmps9
  go_wp2_with fail
  go_loopw [9] (fun iv wr => Hid (RelM w bs l n iv wr)) (fun iv _ => (n - intOf iv).toNat)
  case atStart => exact ⟨0, rfl, by omega, fun j x hj => by omega, Below.refl _ _⟩
  case round =>
    obtain ⟨i, rfl, hi, hup, hb⟩ := hrel
    have UP := Lib.hid hup
    have HB := Lib.hid hb
    clear hup hb
    by_cases hin : i < n
    · have hin2 : (i : Int) < n := by omega
      obtain ⟨x, hx⟩ : ∃ x, l[i]? = some x := ⟨_, List.getElem?_eq_getElem (by have := HN.out; omega)⟩
      obtain ⟨b, off, rfl, hlt, c0, c1, c2, c3⟩ := HS.out i x hx
      have c0 := (HB.out.cell (p := ⟨b, off + i * 4, none⟩) hlt).trans c0
      have c1 := (HB.out.cell (p := ⟨b, off + i * 4 + 1, none⟩) hlt).trans c1
      have c2 := (HB.out.cell (p := ⟨b, off + i * 4 + 2, none⟩) hlt).trans c2
      have c3 := (HB.out.cell (p := ⟨b, off + i * 4 + 3, none⟩) hlt).trans c3
      have hli := Nat.lt_of_lt_of_le hlt HB.out.size
      have g1 : IntKind.i64.wrap ((i : Int) + 1) = i + 1 := IntWalk.i64_in _ (by omega)
      have hic : (i : Int) ≤ (c : Int) := by omega
      have hin3 : (i : Int) ≤ (n : Int) := by omega
      have HX := Lib.hid hx
      have BX := Lib.hid (Blk.new wr 42 (pcc x))
      have BB := Lib.hid (HB.out.alloc HB.out.size (.cells ⟨pcc x⟩ 42))
      have M := M1 _ BB.out x
      have CT := fun W (bb : Below (wr.alloc (.cells ⟨pcc x⟩ 42)).heap.size (wr.alloc (.cells ⟨pcc x⟩ 42)) W) => Lib.hid (contains_may W (some ⟨b, off, none⟩) i c (l.take i) ((HS.out.below (Below.next BB.out bb)).take i) (by rw [List.length_take]; have := HN.out; omega) (by omega) (meetF x) #[.pointer (some ⟨wr.heap.size, 0, none⟩)]
        (fun W2 y _ o => may1c_any ((BX.out.below bb BX.out.lt).below o (BX.out.below bb BX.out.lt).lt) y))
      clear M1 hx
      have step : may1 bs x = true → anyB (meetF x) (l.take i) = false → Hid (mayUp bs l (i + 1)) := fun h1 h2 j y hj hy => by
        by_cases e : j = i
        · subst e
          have := HX.out
          rw [hy] at this
          injection this with this
          subst this
          exact ⟨h1, h2⟩
        · exact UP.out j y (by omega) hy
      have bad : ¬ (may1 bs x = true ∧ anyB (meetF x) (l.take i) = false) → Hid (¬ mayL bs l) := fun h1 h2 => h1 (h2.1 i x (by have := HN.out; omega) HX.out)
      obtain ⟨m1, hm1⟩ : ∃ m, may1 bs x = m := ⟨_, rfl⟩
      obtain ⟨m2, hm2⟩ : ∃ m, anyB (meetF x) (l.take i) = m := ⟨_, rfl⟩
      rw [hm1] at M step bad
      rw [hm2] at CT step bad
      obtain ⟨x1, x2, x3, x4⟩ := x
      unfold pcv at M
      unfold pcc at *
      simp only at c0 c1 c2 c3 M CT BX BB
      clear hm1 hm2
      cases m1 with
      | false =>
        have BD := bad (fun h => by simp at h)
        clear step bad
        go_wp2_with (go_at_call 23; (with_reducible refine Calls.mono M.out ?_); rintro e w1 ⟨rfl, b1⟩; have B1 := Lib.hid (Below.next BB.out b1); clear b1)
        go_ret
        exact ⟨false, rfl, ⟨fun h => (by cases h), fun h => absurd h BD.out⟩, B1.out⟩
      | true =>
        cases m2 with
        | true =>
          have BD := bad (fun h => by simp at h)
          clear step bad
          go_wp2_with (first
            | (go_at_call 23; (with_reducible refine Calls.mono M.out ?_); rintro e w1 ⟨rfl, b1⟩; have B1 := Lib.hid b1; clear b1)
            | (go_at_call 24; (with_reducible refine Calls.mono (CT _ B1.out).out ?_); rintro e w2 ⟨rfl, b2⟩; have B2 := Lib.hid (Below.next BB.out (Below.next B1.out b2)); clear b2))
          go_ret
          exact ⟨false, rfl, ⟨fun h => (by cases h), fun h => absurd h BD.out⟩, B2.out⟩
        | false =>
          have UP2 := step rfl rfl
          clear step bad
          go_wp2_with (first
            | (go_at_call 23; (with_reducible refine Calls.mono M.out ?_); rintro e w1 ⟨rfl, b1⟩; have B1 := Lib.hid b1; clear b1)
            | (go_at_call 24; (with_reducible refine Calls.mono (CT _ B1.out).out ?_); rintro e w2 ⟨rfl, b2⟩; have B2 := Lib.hid (Below.next BB.out (Below.next B1.out b2)); clear b2))
          go_roundw
          case rel => exact ⟨i + 1, by go_num, by omega, UP2.out, B2.out⟩
          case measure => simp [intOf]; omega
    · obtain rfl : i = n := by omega
      have hin2 : ¬ (i : Int) < i := by omega
      have hi16 : decide ((i : Int) ≤ 16) = true := decide_eq_true (by omega)
      have hi16' : (i : Int) ≤ 16 := by omega
      by_cases h1 : 1 ≤ i
      · have e1 : decide (1 ≤ (i : Int)) = true := decide_eq_true (by omega)
        have e1' : 1 ≤ (i : Int) := by omega
        go_wp2_with fail
        go_ret
        exact ⟨true, rfl, ⟨fun _ => ⟨by rw [HN.out]; exact UP.out, by rw [HN.out]; exact h1, by rw [HN.out]; exact hn16⟩, fun _ => rfl⟩, HB.out⟩
      · have e1 : decide (1 ≤ (i : Int)) = false := decide_eq_false (by omega)
        have H1 := Lib.hid h1
        clear h1
        go_wp2_with fail
        go_ret
        exact ⟨false, rfl, ⟨fun h => (by cases h), fun h => absurd (HN.out ▸ h.2.1) H1.out⟩, HB.out⟩
end Go.Proofs.Ytajcjepolfmhmaa
