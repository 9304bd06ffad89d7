/- PoolGets: as many are got as are great enough, the least numbers of the first classes first, and then none; a greater one than any isn't there. No condition. -/
import Derived.Test.YtbhpdljfkcdnbaaPoolLaw
import Derived.Test.YtbhpdljfkcdnbaaArgs
import Derived.Test.YtbhpdljfkcdnbaaArg
import Derived.Test.YtbhpdljfkcdnbaaRows
import Derived.ProofKit
import Derived.OpenShut
import Derived.ShutString
import Derived.ChangeOld
import Derived.Below
import Derived.SizedLaws
namespace Go.Proofs.Ytbhpdljfkcdnbaa
open Go.ChangeShapes Go.WideShapes Go.ChangeAt Go.RowKit
open Go.ChangeMaps (open_string shut_string)
set_option linter.unusedVariables false
set_option linter.unusedSimpArgs false
namespace poolGets
theorem pair_of {a b : Option IntKind} {cs : List Value} (h : AllOk [a, b] cs) : ∃ x y, cs = [x, y] ∧ CellOk a x ∧ CellOk b y := by
  match cs, h with
  | [x, y], ⟨hx, hy, _⟩ => exact ⟨x, y, rfl, hx, hy⟩
theorem cls_of {w : World} {A : Option Addr} {n : Nat} {D : Nat → List Value} (h : Elems w [some .i64, some .i64] A n D) :
    ∃ S C : Nat → Int, Cls w A n S C ∧ ∀ i, i < n → -9223372036854775808 ≤ S i ∧ S i ≤ 9223372036854775807 ∧ -9223372036854775808 ≤ C i ∧ C i ≤ 9223372036854775807 := by
  have key : ∀ i, ∃ (t : Int × Int), i < n → D i = [.int .i64 t.1, .int .i64 t.2] ∧ (Lit.int .i64 t.1).wf = true ∧ (Lit.int .i64 t.2).wf = true := by
    intro i
    by_cases hi : i < n
    · obtain ⟨hok, _⟩ := h i hi
      obtain ⟨x, y, e, ⟨a, rfl, ha⟩, ⟨b, rfl, hb⟩⟩ := pair_of hok
      exact ⟨(a, b), fun _ => ⟨e, ha, hb⟩⟩
    · exact ⟨(0, 0), fun h => absurd h hi⟩
  refine ⟨fun i => (key i).choose.1, fun i => (key i).choose.2, fun i hi => ?_, fun i hi => ?_⟩
  · have hD := (key i).choose_spec hi
    obtain ⟨b, off, e, hb, hc⟩ := rows_of h (by simp) i hi
    refine ⟨b, off, e, hb, ?_, ?_⟩
    · have := hc i 0 hi (by simp)
      rw [hD.1] at this
      simpa using this
    · have := hc i 1 hi (by simp)
      rw [hD.1] at this
      simpa [Nat.add_assoc] using this
  · have hD := (key i).choose_spec hi
    exact ⟨(bounds_i64 hD.2.1).1, (bounds_i64 hD.2.1).2, (bounds_i64 hD.2.2).1, (bounds_i64 hD.2.2).2⟩
/-- What the first loop knows of the first i classes. -/
structure G1 (size : Int) (S C : Nat → Int) (i N T : Nat) (F : Int) : Prop where
  len : (bufsOf S C i).length = T
  all : ∀ (j : Nat) (b : Bf), (bufsOf S C i)[j]? = some b → b.gen = 1 ∧ b.own = 0 ∧ b.bytes.length ≤ 65536 ∧ (size ≤ (b.bytes.length : Int) ↔ (0 ≤ F ∧ F ≤ j))
  lo : -1 ≤ F ∧ F ≤ T
  no : F < 0 → N = 0
  yes : 0 ≤ F → (N : Int) + F = T ∧ size ≤ lastC S i ∧ 0 < i
  top : T ≤ 20 * i
theorem G1.zero (size : Int) (S C : Nat → Int) : G1 size S C 0 0 0 (-1) := ⟨rfl, fun j b h => by simp [bufsOf] at h, by omega, fun _ => rfl, fun h => absurd h (by omega), by omega⟩
theorem G1.step {size : Int} {S C : Nat → Int} {i N T Cn : Nat} {F : Int} (h : G1 size S C i N T F) (hC : C i = Cn) (hC1 : Cn ≤ 20) (hC0 : 1 ≤ Cn) (ok : lastC S i < S i ∧ S i ≤ 65536) (h0 : 0 ≤ lastC S i) (N' : Nat) (F' : Int)
    (e : (size ≤ S i ∧ N' = N + Cn ∧ (F < 0 ∧ F' = T ∨ 0 ≤ F ∧ F' = F)) ∨ (S i < size ∧ N' = N ∧ F' = F)) : G1 size S C (i + 1) N' (T + Cn) F' := by
  obtain ⟨l, a, b, c, d, t⟩ := h
  have hl : (bufsOf S C (i + 1)).length = T + Cn := by simp only [bufsOf, List.length_append, List.length_replicate, l, hC]; omega
  refine ⟨hl, fun j x hx => ?_, by omega, fun hF => ?_, fun hF => ?_, by omega⟩
  · rcases Nat.lt_or_ge j T with hj | hj
    · simp only [bufsOf] at hx
      rw [List.getElem?_append_left (by omega)] at hx
      obtain ⟨a1, a2, a3, a4⟩ := a j x hx
      refine ⟨a1, a2, a3, a4.trans ?_⟩
      omega
    · simp only [bufsOf] at hx
      rw [List.getElem?_append_right (by omega), l, hC] at hx
      have hm := List.mem_of_getElem? hx
      obtain ⟨-, rfl⟩ := List.mem_replicate.1 hm
      refine ⟨rfl, rfl, by simp only [List.length_replicate]; omega, ?_⟩
      simp only [List.length_replicate]
      have : 0 ≤ F → size ≤ lastC S i := fun h => (d h).2.1
      omega
  · rcases e with e | e
    · omega
    · have := c (by omega); omega
  · simp only [lastC]
    rcases e with ⟨e1, e2, e3 | e3⟩ | e
    · have := c e3.1; omega
    · have := d e3.1; omega
    · have := d (by omega); omega
theorem free_all (bs : List Bf) (h : ∀ (j : Nat) (b : Bf), bs[j]? = some b → b.own = 0) : freeP bs = bs.length := by
  unfold freeP
  rw [List.filter_eq_self.2]
  intro b hb
  obtain ⟨j, hj⟩ := List.mem_iff_getElem?.1 hb
  have := h j b hj
  simp [this]
theorem free_set : ∀ (bs : List Bf) (i : Nat) (b b' : Bf), bs[i]? = some b → b.own = 0 → b'.own ≠ 0 → freeP (bs.set i b') = freeP bs - 1 := by
  intro bs
  induction bs with
  | nil => intro i b b' h; simp at h
  | cons x xs ih =>
    intro i b b' h h1 h2
    cases i with
    | zero =>
      simp at h
      subst h
      simp [freeP, h1, h2]
    | succ i =>
      simp at h
      have := ih i b b' h h1 h2
      simp only [freeP] at this
      simp only [freeP, List.set_cons_succ, List.filter_cons]
      split
      · simp only [List.length_cons]; omega
      · exact this
/-- k of those that are great enough were got. -/
structure G2 (size : Int) (T F k : Nat) (bs : List Bf) : Prop where
  len : bs.length = T
  free : freeP bs = (T : Int) - k
  top : T ≤ 160
  lo : F + k ≤ T
  all : ∀ (j : Nat) (b : Bf), bs[j]? = some b → b.gen = 1 ∧ b.bytes.length ≤ 65536 ∧ (size ≤ (b.bytes.length : Int) ↔ F ≤ j) ∧ (b.own = 0 ↔ ¬ (F ≤ j ∧ j < F + k))
theorem G2.start {size : Int} {S C : Nat → Int} {n N T : Nat} {F : Int} {F' : Nat} (h : G1 size S C n N T F) (hF : F = F') (hn : n ≤ 8) : G2 size T F' 0 (bufsOf S C n) := by
  obtain ⟨l, a, b, c, d, t⟩ := h
  refine ⟨l, ?_, by omega, by omega, fun j x hx => ?_⟩
  · rw [free_all _ fun j b hb => (a j b hb).2.1, l]; simp
  · obtain ⟨a1, a2, a3, a4⟩ := a j x hx
    refine ⟨a1, a3, ?_, ?_⟩
    · rw [a4]; omega
    · omega
theorem last_of {bs : List Bf} {m : Nat} (h : bs.length = m + 1) : ∃ b, bs[m]? = some b ∧ ((bs.getLast?.map fun b => (b.bytes.length : Int)).getD 0) = b.bytes.length := by
  obtain ⟨x, hb⟩ : ∃ x, bs[m]? = some x := ⟨_, List.getElem?_eq_getElem (by omega)⟩
  refine ⟨x, hb, ?_⟩
  rw [List.getLast?_eq_getElem?, h, Nat.add_sub_cancel, hb]; rfl
theorem arg1 {size : Int} {bs : List Bf} (h : size < 1) : getP size bs = ((0, 0, 1), bs) := by unfold getP; rw [if_pos (.inl h)]
theorem arg2 {size : Int} {S C : Nat → Int} {n N T : Nat} {F : Int} (h : G1 size S C n N T F) (hT : 0 < T) (hN : N = 0) : getP size (bufsOf S C n) = ((0, 0, 1), bufsOf S C n) := by
  obtain ⟨l, a, b, c, d, t⟩ := h
  obtain ⟨x, hx, e⟩ := last_of (bs := bufsOf S C n) (m := T - 1) (by omega)
  unfold getP
  rw [if_pos]
  right
  rw [e]
  have := (a _ x hx).2.2.2
  by_cases hF : 0 ≤ F
  · have := (d hF).1
    omega
  · omega
theorem G2.step {size : Int} {T F k : Nat} {bs : List Bf} (h : G2 size T F k bs) (hs : 1 ≤ size) (hk : F + k < T) : ∃ bs', getP size bs = (((F : Int) + k, 1, 0), bs') ∧ G2 size T F (k + 1) bs' := by
  obtain ⟨l, f, t, lo, a⟩ := h
  obtain ⟨x, hx, e⟩ := last_of (bs := bs) (m := T - 1) (by omega)
  have hb : bs[F + k]? = some (bs[F + k]) := List.getElem?_eq_getElem (by omega)
  obtain ⟨b1, b2, b3, b4⟩ := a _ _ hb
  have hfst : firstP size bs = some (F + k) := first_some hb ⟨b4.2 (by omega), b3.2 (by omega)⟩ fun j b hj hjb hh => by
    obtain ⟨c1, c2, c3, c4⟩ := a _ _ hjb
    have := c4.1 hh.1
    have := c3.1 hh.2
    omega
  refine ⟨bs.set (F + k) { bs[F + k] with own := 1, refs := 1, bytes := List.replicate (bs[F + k]).bytes.length 0 }, ?_, ?_⟩
  · unfold getP
    rw [if_neg, hfst]
    · simp only
      rw [hb]
      simp only [b1]
      rfl
    · rw [e]
      have := (a _ x hx).2.2.1
      omega
  · refine ⟨by simp [l], ?_, t, by omega, fun j b hjb => ?_⟩
    · rw [free_set _ _ _ _ hb (b4.2 (by omega)) (by simp), f]; omega
    · by_cases hj : F + k = j
      · subst hj
        rw [List.getElem?_set_self (by omega)] at hjb
        injection hjb with hjb
        subst hjb
        refine ⟨b1, by simpa using b2, by simpa using b3, ?_⟩
        simp only
        omega
      · rw [List.getElem?_set_ne hj] at hjb
        obtain ⟨c1, c2, c3, c4⟩ := a _ _ hjb
        refine ⟨c1, c2, c3, c4.trans ?_⟩
        omega
theorem G2.stop {size : Int} {T F k : Nat} {bs : List Bf} (h : G2 size T F k bs) (hs : 1 ≤ size) (hk : F + k = T) (hk0 : 0 < k) : getP size bs = ((0, 0, 5), bs) := by
  obtain ⟨l, f, t, lo, a⟩ := h
  obtain ⟨x, hx, e⟩ := last_of (bs := bs) (m := T - 1) (by omega)
  have hfst : firstP size bs = none := first_none fun j b hj hjb hh => by
    obtain ⟨c1, c2, c3, c4⟩ := a _ _ hjb
    have := c4.1 hh.1
    have := c3.1 hh.2
    omega
  unfold getP
  rw [if_neg, hfst]
  rw [e]
  have := (a _ x hx).2.2.1
  omega
theorem G2.len5 {size : Int} {T F k : Nat} {bs : List Bf} (h : G2 size T F k bs) : ∀ b ∈ bs, b.bytes.length ≤ 65536 := fun b hb => by
  obtain ⟨j, hj⟩ := List.mem_iff_getElem?.1 hb
  exact (h.all j b hj).2.1
theorem G1.len5 {size : Int} {S C : Nat → Int} {n N T : Nat} {F : Int} (h : G1 size S C n N T F) : ∀ b ∈ bufsOf S C n, b.bytes.length ≤ 65536 := fun b hb => by
  obtain ⟨j, hj⟩ := List.mem_iff_getElem?.1 hb
  exact (h.all j b hj).2.2.1
def Rel (w : World) (size : Int) (S C : Nat → Int) (n : Nat) (nv tv fv iv : Value) (wr : World) : Prop :=
  ∃ (i N T : Nat) (F : Int), nv = .int .i64 N ∧ tv = .int .i64 T ∧ fv = .int .i64 F ∧ iv = .int .i64 i ∧ i ≤ n ∧ G1 size S C i N T F ∧ (0 < i → 0 < T) ∧ Below w.heap.size w wr
def Rel2 (w : World) (base p : Nat) (size : Int) (T F N : Nat) (iv : Value) (wr : World) : Prop :=
  ∃ (k : Nat) (P : Pl) (bs : List Bf), iv = .int .i64 k ∧ k ≤ N ∧ G2 size T F k bs ∧ Pool wr base p P bs ∧ Below w.heap.size w wr
set_option maxRecDepth 100000 in
set_option maxHeartbeats 8000000 in
theorem walk2 (w : World) (A : Option Addr) (n cap : Nat) (S C : Nat → Int) (hA : Hid (Cls w A n S C)) (hS : Hid (∀ i, i < n → -9223372036854775808 ≤ S i ∧ S i ≤ 9223372036854775807 ∧ -9223372036854775808 ≤ C i ∧ C i ≤ 9223372036854775807)) (hn9 : n ≤ 140737488351232) (size : Int) (s0 : -9223372036854775808 ≤ size) (s1 : size ≤ 9223372036854775807) :
    Calls Try.prog 3 #[.slice A n cap, .int .i64 size] w fun e w' => e = .returned (.bool true) ∧ Below w.heap.size w w' := by
  have M1 := fun W hA => Lib.hid (mayc_any W A n cap S C hA hS hn9)
  by_cases hm : mayC n S C
  · have C1 := fun W hA => Lib.hid (newc_any W A n cap S C hA hS hn9 hm)
    have HM := Lib.hid hm
    obtain ⟨m1, m2, m3⟩ := hm
    have M3 := Lib.hid m3
    have hn8 : decide (8 < (n : Int)) = false := decide_eq_false (by omega)
    clear m3
    go_enter Try.func3, Try.ntmps3
    go_wp2_with (first
      | (go_at_call 8; (with_reducible refine Calls.mono (awake_any _) ?_); rintro e w0 ⟨rfl, bel0⟩
         have HB0 := Lib.hid bel0; clear bel0)
      | (go_at_call 9; (with_reducible refine Calls.mono (M1 _ (Lib.hid (hA.out.below HB0.out))).out ?_); rintro e w1 ⟨r, rfl, hr, bel1⟩
         have HB1 := Lib.hid (Below.next HB0.out bel1)
         obtain rfl : r = true := hr.2 HM.out
         clear hr bel1))
    go_loopw [5, 6, 7, 8] (fun nv tv fv iv wr => Hid (Rel w size S C n nv tv fv iv wr)) (fun _ _ _ iv _ => n - (intOf iv).toNat)
    case atStart => exact ⟨0, 0, 0, -1, rfl, rfl, rfl, rfl, by omega, G1.zero _ _ _, fun h => absurd h (by omega), HB1.out⟩
    case round =>
      obtain ⟨i, N, T, F, rfl, rfl, rfl, rfl, hi, hg, hT, hbel⟩ := hrel
      have G := Lib.hid hg
      have BEL := Lib.hid hbel
      have gtop := hg.top
      have glo := hg.lo
      by_cases hin : i < n
      · obtain ⟨ab, ao, rfl, hlt, hc0, hc1⟩ := hA.out i hin
        have hcell0 := (hbel.cell (p := ⟨ab, ao + i * 2, none⟩) hlt).trans hc0
        have hcell1 := (hbel.cell (p := ⟨ab, ao + i * 2 + 1, none⟩) hlt).trans hc1
        obtain ⟨o1, o2, o3, o4⟩ := M3.out i hin
        have hl0 := lastC_nonneg S C M3.out i hi
        obtain ⟨Cn, hC⟩ : ∃ Cn : Nat, C i = Cn := ⟨(C i).toNat, by omega⟩
        rw [hC] at hcell1 o3 o4
        have hin2 : (i : Int) < n := by omega
        have gN : (N : Int) ≤ T := by
          by_cases h : F < 0
          · have := hg.no h; omega
          · have := (hg.yes (by omega)).1; omega
        have HC := Lib.hid hC
        have OK := Lib.hid (And.intro o1 o2)
        have HL0 := Lib.hid hl0
        clear hc0 hc1 hbel hg hC hl0 o1 hT
        by_cases a1 : 2000 < S i
        · have d1 : decide (2000 < S i) = true := decide_eq_true a1
          go_wp2_with fail
          go_ret
          exact ⟨rfl, BEL.out⟩
        · have d1 : decide (2000 < S i) = false := decide_eq_false a1
          by_cases a2 : 20 < Cn
          · have d2 : decide (20 < (Cn : Int)) = true := decide_eq_true (by omega)
            go_wp2_with fail
            go_ret
            exact ⟨rfl, BEL.out⟩
          · have d2 : decide (20 < (Cn : Int)) = false := decide_eq_false (by omega)
            by_cases a3 : size ≤ S i
            · have d3 : decide (size ≤ S i) = true := decide_eq_true a3
              by_cases a4 : F < 0
              · have d4 : decide (F < 0) = true := decide_eq_true a4
                go_wp2_with fail
                go_roundw
                case rel => exact ⟨i + 1, N + Cn, T + Cn, T, by go_num, by go_num, rfl, by go_num, by omega, G.out.step HC.out (by omega) (by omega) OK.out HL0.out _ _ (.inl ⟨a3, rfl, .inl ⟨a4, rfl⟩⟩), fun _ => by omega, BEL.out⟩
                case measure => simp [intOf]; omega
              · have d4 : decide (F < 0) = false := decide_eq_false a4
                go_wp2_with fail
                go_roundw
                case rel => exact ⟨i + 1, N + Cn, T + Cn, F, by go_num, by go_num, rfl, by go_num, by omega, G.out.step HC.out (by omega) (by omega) OK.out HL0.out _ _ (.inl ⟨a3, rfl, .inr ⟨by omega, rfl⟩⟩), fun _ => by omega, BEL.out⟩
                case measure => simp [intOf]; omega
            · have d3 : decide (size ≤ S i) = false := decide_eq_false a3
              go_wp2_with fail
              go_roundw
              case rel => exact ⟨i + 1, N, T + Cn, F, rfl, by go_num, rfl, by go_num, by omega, G.out.step HC.out (by omega) (by omega) OK.out HL0.out _ _ (.inr ⟨by omega, rfl, rfl⟩), fun _ => by omega, BEL.out⟩
              case measure => simp [intOf]; omega
      · have hin2 : ¬ (i : Int) < n := by omega
        obtain rfl : i = n := by omega
        have hT0 := hT (by omega)
        clear hT
        have c2 := fun W P (k : IsP W P (bufsOf S C i)) => count_any k
        rw [hg.len] at c2
        have C2 := fun W P k => Lib.hid (c2 W P k)
        clear c2
        by_cases b1 : size < 1 ∨ N = 0
        · have hget : getP size (bufsOf S C i) = ((0, 0, 1), bufsOf S C i) := by
            rcases b1 with b1 | b1
            · exact arg1 b1
            · exact arg2 hg hT0 b1
          have c3 := fun W P (k : IsP W P (bufsOf S C i)) => getp_any k hg.len5 (by rw [hg.len]; exact hT0) size
          rw [hget] at c3
          have C3 := fun W P k => Lib.hid (c3 W P k)
          clear c3 hget hg hbel
          have HB1 := b1
          clear b1
          by_cases b2 : size < 1
          · have d2 : decide (size < 1) = true := decide_eq_true b2
            go_wp2_with (first
              | (go_at_call 10; (with_reducible refine Calls.mono (C1 _ (Lib.hid (hA.out.below BEL.out))).out ?_); rintro e w2 ⟨p, rfl, hm⟩
                 obtain ⟨P, hP, bel⟩ := Pool.of_made hm
                 obtain rfl := hP.p
                 have K2 := Lib.hid hP.is
                 have HB2 := Lib.hid (Below.next BEL.out bel)
                 have LOW := Lib.hid hP.low
                 have bs2 := BEL.out.size
                 clear hm hP bel)
              | (go_at_call 11; (with_reducible refine Calls.mono (C2 _ _ K2.out).out ?_); rintro e w3 ⟨rfl, n3, rfl⟩)
              | (go_at_call 12; (with_reducible refine Calls.mono (C3 _ _ (K2.out.drewN _)).out ?_); rintro e w4 ⟨rfl, k4, o4⟩
                 have HB4 := Lib.hid (Below.onlyF (Below.drewN' HB2.out _) o4 (fun i h => by have := LOW.out i (.inr (.inr h)); omega))))
            go_ret
            exact ⟨rfl, HB4.out.alloc HB4.out.size _⟩
          · have d2 : decide (size < 1) = false := decide_eq_false b2
            have d3 : ((N : Int) == 0) = true := beq_iff_eq.2 (by omega)
            go_wp2_with (first
              | (go_at_call 10; (with_reducible refine Calls.mono (C1 _ (Lib.hid (hA.out.below BEL.out))).out ?_); rintro e w2 ⟨p, rfl, hm⟩
                 obtain ⟨P, hP, bel⟩ := Pool.of_made hm
                 obtain rfl := hP.p
                 have K2 := Lib.hid hP.is
                 have HB2 := Lib.hid (Below.next BEL.out bel)
                 have LOW := Lib.hid hP.low
                 have bs2 := BEL.out.size
                 clear hm hP bel)
              | (go_at_call 11; (with_reducible refine Calls.mono (C2 _ _ K2.out).out ?_); rintro e w3 ⟨rfl, n3, rfl⟩)
              | (go_at_call 12; (with_reducible refine Calls.mono (C3 _ _ (K2.out.drewN _)).out ?_); rintro e w4 ⟨rfl, k4, o4⟩
                 have HB4 := Lib.hid (Below.onlyF (Below.drewN' HB2.out _) o4 (fun i h => by have := LOW.out i (.inr (.inr h)); omega))))
            go_ret
            exact ⟨rfl, HB4.out.alloc HB4.out.size _⟩
        · have d2 : decide (size < 1) = false := decide_eq_false (by omega)
          have d3 : ((N : Int) == 0) = false := beq_eq_false_iff_ne.2 (by omega)
          have hF : 0 ≤ F := by
            by_cases h : F < 0
            · have := hg.no h; omega
            · omega
          obtain ⟨F', rfl⟩ : ∃ F' : Nat, F = F' := ⟨F.toNat, by omega⟩
          have hsum := (hg.yes hF).1
          have G0 := Lib.hid (G2.start hg rfl m2)
          clear hg hbel
          go_wp2_with (first
            | (go_at_call 10; (with_reducible refine Calls.mono (C1 _ (Lib.hid (hA.out.below BEL.out))).out ?_); rintro e w2 ⟨p, rfl, hm⟩
               obtain ⟨P, hP, bel⟩ := Pool.of_made hm
               have K2 := Lib.hid hP
               have HB2 := Lib.hid (Below.next BEL.out bel)
               have hPp := hP.p
               subst hPp
               have bs2 := BEL.out.size
               clear hm hP bel)
            | (go_at_call 11; (with_reducible refine Calls.mono (C2 _ _ K2.out.is).out ?_); rintro e w3 ⟨rfl, n3, rfl⟩))
          go_loopw [13] (fun iv wx => Hid (Rel2 w wr.heap.size P.p size T F' N iv wx)) (fun iv _ => N - (intOf iv).toNat)
          case atStart => exact ⟨0, P, _, rfl, by omega, G0.out, ⟨K2.out.is.drewN _, K2.out.p, K2.out.low⟩, Below.drewN' HB2.out _⟩
          case round =>
            obtain ⟨k, Q, bs, rfl, hk, hg, ⟨kQ, hQ, hlow⟩, hbel⟩ := hrel
            have GT := hg.top
            have KQ := Lib.hid kQ
            have LOW := Lib.hid hlow
            have BL := Lib.hid hbel
            clear kQ hlow hbel C1 C2 M1
            by_cases hkn : k < N
            · obtain ⟨bs', e1, g2⟩ := hg.step (by omega) (by omega)
              have c3 := fun W (kk : IsP W Q bs) => getp_any kk hg.len5 (by rw [hg.len]; omega) size
              rw [e1, hQ] at c3
              have C3 := fun W kk => Lib.hid (c3 W kk)
              have c4 := fun W (kk : IsP W Q bs') => freep_any kk
              rw [g2.free, hQ] at c4
              have C4 := fun W kk => Lib.hid (c4 W kk)
              have G2' := Lib.hid g2
              clear c3 c4 e1 g2 hg
              have hkn2 : (k : Int) < N := by omega
              go_wp2_with (first
                | (go_at_call 12; (with_reducible refine Calls.mono (C3 _ KQ.out).out ?_); rintro e w4 ⟨rfl, k4, o4⟩
                   have K4 := Lib.hid k4
                   have HB4 := Lib.hid (Below.onlyF BL.out o4 (fun i h => by have := LOW.out i (.inr (.inr h)); omega))
                   clear k4 o4)
                | (go_at_call 13; (with_reducible refine Calls.mono (C4 _ (K4.out.alloc _)).out ?_); rintro e w5 ⟨rfl, rfl⟩))
              go_roundw
              case rel => exact ⟨k + 1, Q, bs', by go_num, by omega, G2'.out, ⟨K4.out.alloc _, hQ, LOW.out⟩, HB4.out.alloc HB4.out.size _⟩
              case measure => simp [intOf]; omega
            · obtain rfl : k = N := by omega
              have e1 := hg.stop (by omega) (by omega) (by omega)
              have c3 := fun W (kk : IsP W Q bs) => getp_any kk hg.len5 (by rw [hg.len]; omega) size
              rw [e1, hQ] at c3
              have C3 := fun W kk => Lib.hid (c3 W kk)
              clear c3 e1 hg
              have hkn2 : ¬ (k : Int) < k := by omega
              go_wp2_with (first
                | (go_at_call 12; (with_reducible refine Calls.mono (C3 _ KQ.out).out ?_); rintro e w4 ⟨rfl, k4, o4⟩
                   have HB4 := Lib.hid (Below.onlyF BL.out o4 (fun i h => by have := LOW.out i (.inr (.inr h)); omega))))
              go_ret
              exact ⟨rfl, HB4.out.alloc HB4.out.size _⟩
  · have HM : Hid (¬ mayC n S C) := hm
    clear hm
    go_enter Try.func3, Try.ntmps3
    go_wp2_with (first
      | (go_at_call 8; (with_reducible refine Calls.mono (awake_any _) ?_); rintro e w0 ⟨rfl, bel0⟩
         have HB0 := Lib.hid bel0; clear bel0)
      | (go_at_call 9; (with_reducible refine Calls.mono (M1 _ (Lib.hid (hA.out.below HB0.out))).out ?_); rintro e w1 ⟨r, rfl, hr, bel1⟩
         have HB1 := Lib.hid (Below.next HB0.out bel1)
         obtain rfl : r = false := by
           cases r
           · rfl
           · exact absurd (hr.1 rfl) HM.out
         clear hr bel1))
    go_ret
    exact ⟨rfl, HB1.out⟩
theorem walk (w : World) (A : Option Addr) (n cap : Nat) (D : Nat → List Value) (w0 : Elems w [some .i64, some .i64] A n D) (hl : n * 16 ≤ 140737488351232) (size : Int) (w1 : (Lit.int .i64 size).wf = true) :
    Calls Try.prog 3 #[.slice A n cap, .int .i64 size] w fun e w' => e = .returned (.bool true) ∧ Below w.heap.size w w' := by
  obtain ⟨S, C, hA, hS⟩ := cls_of w0
  obtain ⟨f0, f1⟩ := bounds_i64 w1
  exact walk2 w A n cap S C hA hS (by omega) size f0 f1
end poolGets
namespace poolGets
theorem own : ownKnob Try.prog.godebug = none := by kernel_rfl
set_option maxRecDepth 100000 in
theorem lifted (os : Os) (started : os.Started) (H : Type) (enc : TypeId × Value → H) :
    ReturnsInHanded {} Try.checked os 3 .any (Rows.poolGetsSpec.pre6 enc Try.prog Try.f3 Rows.poolGetsRow.domain false) (Rows.poolGetsSpec.post enc Try.prog Try.f3 false true false false) := by
  refine returnsInHanded_of_change_sized (C := Try.checked) own started (by kernel_rfl) Try.func3
    (ChangeSpec.witness6 (enc := enc) (C := Try.checked) false ⟨#[], #[.slice none 0 0, .int .i64 0], []⟩ 8 (by kernel_rfl) (by kernel_rfl) (by kernel_rfl) (by kernel_rfl)) ?_
  intro W base args ds gs before hval0 hW hcnd hsz0 _
  have hsz : (DataW.weightsEach Try.prog (Try.f3.params.toList ++ Rows.poolGetsSpec.plain.varTypes Try.prog) (ds ++ gs)).all (· ≤ reachBytes) = true := hsz0
  have hval : ∀ (j : Nat) t v, Try.f3.params[j]? = some t → args[j]? = some v → Value.okWide Try.prog W .any base t v := hval0
  have hW' := hW
  obtain ⟨p, q, hA0, hV, rfl, hfz, hnd⟩ := hW
  have hA : DataW.TrodAll enc Try.prog W 0 (fun _ => true) true Try.f3.params.toList args.toList ds p := hA0
  rw [Try.params3] at hA hval hsz
  obtain ⟨v0, vs0, d0, ds0, p0, q0, hargs, rfl, rfl, h0, r0⟩ := trodAll_cons hA
  obtain ⟨v1, vs1, d1, ds1, p1, q1, rfl, rfl, rfl, h1, r1⟩ := trodAll_cons r0
  obtain ⟨rfl, rfl, rfl⟩ := trodAll_nil r1
  obtain rfl : args = #[v0, v1] := by cases args; simp_all
  obtain ⟨rfl, rfl⟩ := trodVars_none hV
  obtain ⟨A0, n0, cap0, D0, rfl, w0, m0, z0⟩ := arg_slice [some .i64, some .i64] Try.underlying22 6 (by kernel_rfl) (by kernel_rfl) (hval 0 22 v0 rfl rfl) h0
  have l0 : n0 * Try.prog.bytesOf 26 ≤ reachBytes := by
    rcases z0 with ⟨_, e⟩ | ⟨es, sp, e, el⟩
    · subst e; simp
    · subst e; subst el; exact Nat.le_trans (Nat.mul_le_mul_right _ (Nat.le_add_right _ _)) (sized_slice hsz (j := 0) (t := 22) (e := 26) rfl rfl Try.underlying22)
  have b0 : Try.prog.bytesOf 26 = 16 := by kernel_rfl
  rw [b0] at l0
  simp only [reachBytes] at l0
  clear z0 b0
  obtain ⟨a1, rfl, w1⟩ := arg_one Try.underlying3 (hval 1 3 v1 rfl rfl) h1
  clear hA0 hval0 hsz0 hsz
  refine (walk W A0 n0 cap0 D0 w0 l0 a1 w1).mono fun e W' ⟨he, bel⟩ => ?_
  subst he
  exact ⟨_, rfl, _, _, _, [], _, [], hW', trodAll_mk1 (shut_bool Try.underlying4 _), (trodAll_cons_mk (Below.trod laidOut (by kernel_rfl) (of_decide_eq_true (by kernel_rfl)) h0 bel (fun x hx => by simpa using hW'.lt x (by simp [hx]))) (trodAll_cons_mk (Below.trod laidOut (by kernel_rfl) (of_decide_eq_true (by kernel_rfl)) h1 bel (fun x hx => by simpa using hW'.lt x (by simp [hx]))) trodAll_mk0)), rfl, bel.frame _, fun h => by cases h⟩
theorem over : Rows.poolGetsRow.holds Try.pinned (OpenSpec.ofChange Rows.poolGetsSpec) :=
  OpenClaim.holds_of_wide 3 Try.f3 rfl rfl rfl rfl rfl rfl rfl ⟨rfl, rfl, rfl, rfl, rfl⟩ rfl rfl rfl rfl rfl (by kernel_rfl) Try.func3 (by kernel_rfl)
    (of_decide_eq_true (by kernel_rfl)) (by unfold Func.isWrapper; first | (rw [if_pos (by decide +kernel)]; kernel_rfl) | (rw [if_neg (by decide +kernel)]; exact ⟨rfl, rfl⟩))
    (fun os started H enc _ => lifted os started H enc)
end poolGets
theorem poolGets_holds : Rows.PoolGetsSaid := poolGets.over
#print axioms poolGets_holds
end Go.Proofs.Ytbhpdljfkcdnbaa
