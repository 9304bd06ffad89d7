/- Layer 6 (bus): what the first line of each law asks of closed numbers. -/
import Derived.Test.YtbfhohcimomphaaBusF
import Derived.Test.YtbfhohcimomphaaBusSeven
namespace Go.Proofs.Ytbfhohcimomphaa
open Go.RowKit
set_option linter.unusedVariables false
set_option linter.unusedSimpArgs false
/-- A slot whose wants lie in a block of their own, made just before. -/
theorem slot_new {w : World} {A : Bl} {B B' : Bu} {n T x y : Int} {l : List Int} (k : IsB w A B) (h : BuAt B n T) (hn : n ≤ 1000000000) (h0 : 0 ≤ T) (h1 : T < 4611686018427387904) (hl : l.length ≤ 140737488351232) (g1 : okWants l B.L.length = true)
    (hr : winB T (wants l) (freshB T B) = ((x, y), B')) (c : Nat) :
    Calls Try.prog 12 #[.pointer (some ⟨A.p, 0, none⟩), .int .u64 T, .slice (some ⟨w.heap.size, 0, none⟩) l.length c] (w.alloc (.cells ⟨intCells l⟩ 3)) fun e w' =>
      e = .returned (.tuple #[.int .i64 x, .int .i64 y]) ∧ IsB w' A B' ∧ BuAt B' (n + 1) (T + 1) ∧ Only A.own w w' := by
  have a := slot_run (k.alloc (.cells ⟨intCells l⟩ 3)) h hn h0 h1 l (some ⟨w.heap.size, 0, none⟩) c (Src.block (Blk.new w 3 (intCells l)) (by simp [intCells])) hl g1
  rw [hr] at a
  exact Calls.mono a fun e w' ⟨e1, k1, b1, o1⟩ => ⟨e1, k1, b1, Only.trans ((Only.refl _ _).alloc _) o1 fun _ _ h => h⟩
theorem slot_nil {w : World} {A : Bl} {B B' : Bu} {n T x y : Int} (k : IsB w A B) (h : BuAt B n T) (hn : n ≤ 1000000000) (h0 : 0 ≤ T) (h1 : T < 4611686018427387904)
    (hr : winB T (wants []) (freshB T B) = ((x, y), B')) :
    Calls Try.prog 12 #[.pointer (some ⟨A.p, 0, none⟩), .int .u64 T, .slice none 0 0] w fun e w' =>
      e = .returned (.tuple #[.int .i64 x, .int .i64 y]) ∧ IsB w' A B' ∧ BuAt B' (n + 1) (T + 1) ∧ Only A.own w w' := by
  have a := slot_run k h hn h0 h1 [] none 0 ⟨rfl, .inl rfl⟩ (by simp) rfl
  rw [hr] at a
  exact a
theorem newB_at {L : List Mp} {ph : Int} (hL : ∀ m ∈ L, m.ok) (h16 : L.length ≤ 16) (p0 : 0 ≤ ph) (p1 : ph < 4611686018427387904) : BuAt (newB L ph L.length) 0 ph := by
  have ht : L.take L.length = L := List.take_length
  refine ⟨fun s hs => ?_, ?_, ?_, fun x hx => ?_, ⟨by simp [newB], by simp [newB]⟩, ⟨by simp [newB], by simp [newB]⟩, fun h => by simp [newB] at h, by simp [newB], by decide⟩
  · simp only [newB, ht, List.mem_map] at hs
    obtain ⟨m, hm, rfl⟩ := hs
    exact m0_ok (hL m hm).may p0 p1
  · simp only [newB, ht]; exact h16
  · simp [newB]
  · have := List.eq_of_mem_replicate hx
    omega
namespace awake06
def m : Mp := ⟨3, 1, 5, 10⟩
theorem mok : m.ok := by constructor <;> decide
def B0 : Bu := newB [m, m] 0 2
def s1 : (Int × Int) × Bu := winB 0 (wants [0, 1]) (freshB 0 B0)
def s2 : (Int × Int) × Bu := winB 1 (wants [0, 1]) (freshB 1 s1.2)
def s3 : (Int × Int) × Bu := winB 2 (wants [0, 1]) (freshB 2 s2.2)
def s4 : (Int × Int) × Bu := winB 3 (wants []) (freshB 3 s3.2)
theorem r1 : winB 0 (wants [0, 1]) (freshB 0 B0) = ((0, 0), s1.2) := Prod.ext (by decide +kernel) rfl
theorem r2 : winB 1 (wants [0, 1]) (freshB 1 s1.2) = ((1, 0), s2.2) := Prod.ext (by decide +kernel) rfl
theorem r3 : winB 2 (wants [0, 1]) (freshB 2 s2.2) = ((0, 0), s3.2) := Prod.ext (by decide +kernel) rfl
theorem r4 : winB 3 (wants []) (freshB 3 s3.2) = ((0, 5), s4.2) := Prod.ext (by decide +kernel) rfl
theorem a0 : okWants [0, 1] B0.L.length = true := by decide +kernel
theorem a1 : okWants [0, 1] s1.2.L.length = true := by decide +kernel
theorem a2 : okWants [0, 1] s2.2.L.length = true := by decide +kernel
theorem l3 : s3.2.beg = true ∧ (2 : Int) ≤ s3.2.last := by decide +kernel
theorem l4 : s4.2.S[1]? = some 2 ∧ 1 < s4.2.L.length ∧ s4.2.L.length ≤ 16 := by decide +kernel
end awake06
theorem mps2 (m : Mp) (w : World) : Mps (w.alloc (.cells #[.int .i64 m.q, .int .i64 m.u, .int .u64 m.b, .int .u64 m.p, .int .i64 m.q, .int .i64 m.u, .int .u64 m.b, .int .u64 m.p] 41)) (some ⟨w.heap.size, 0, none⟩) [m, m] := by
  have k := Blk.new w 41 [.int .i64 m.q, .int .i64 m.u, .int .u64 m.b, .int .u64 m.p, .int .i64 m.q, .int .i64 m.u, .int .u64 m.b, .int .u64 m.p]
  intro i x hx
  have hi : i < 2 := (List.getElem?_eq_some_iff.1 hx).1
  have h2 : i = 0 ∨ i = 1 := by omega
  rcases h2 with rfl | rfl
  · cases hx
    exact ⟨w.heap.size, 0, rfl, k.lt, k.cell 0, k.cell 1, k.cell 2, k.cell 3⟩
  · cases hx
    exact ⟨w.heap.size, 0, rfl, k.lt, k.cell 4, k.cell 5, k.cell 6, k.cell 7⟩
theorem awake06.mps (w : World) : Mps (w.alloc (.cells #[.int .i64 3, .int .i64 1, .int .u64 5, .int .u64 10, .int .i64 3, .int .i64 1, .int .u64 5, .int .u64 10] 41)) (some ⟨w.heap.size, 0, none⟩) [awake06.m, awake06.m] := mps2 awake06.m w
open awake06 in
set_option maxRecDepth 100000 in
set_option maxHeartbeats 1000000 in
theorem awake_any (w : World) : Calls Try.prog 9 #[] w fun e w' => e = .returned (.bool true) ∧ Below w.heap.size w w' := by
  have mm : ∀ x ∈ [m, m], x.ok := fun x hx => by simp at hx; subst hx; exact mok
  have hsz : (w.alloc (.cells #[.int .i64 3, .int .i64 1, .int .u64 5, .int .u64 10] 41)).heap.size = w.heap.size + 1 := by simp
  have c0 := newb_any ((w.alloc (.cells #[.int .i64 3, .int .i64 1, .int .u64 5, .int .u64 10] 41)).alloc (.cells #[.int .i64 3, .int .i64 1, .int .u64 5, .int .u64 10, .int .i64 3, .int .i64 1, .int .u64 5, .int .u64 10] 41)) (some ⟨(w.alloc (.cells #[.int .i64 3, .int .i64 1, .int .u64 5, .int .u64 10] 41)).heap.size, 0, none⟩) 2 [m, m] 0 (Lib.hid (awake06.mps (w.alloc (.cells #[.int .i64 3, .int .i64 1, .int .u64 5, .int .u64 10] 41)))) (Lib.hid mm) (by decide) (by decide) (by decide) (by decide)
  rw [hsz, show [m, m].length = 2 from rfl] at c0
  have C0 := Lib.hid c0
  clear c0 hsz
  have C1 := fun W A (k : IsB W A B0) (h : BuAt B0 0 0) => Lib.hid (show Calls Try.prog 12 #[.pointer (some ⟨A.p, 0, none⟩), .int .u64 0, .slice (some ⟨W.heap.size, 0, none⟩) 2 2] (W.alloc (.cells #[.int .i64 0, .int .i64 1] 3)) (fun e w' => e = .returned (.tuple #[.int .i64 0, .int .i64 0]) ∧ IsB w' A s1.2 ∧ BuAt s1.2 1 1 ∧ Only A.own W w') from slot_new (l := [0, 1]) k h (by decide) (by decide) (by decide) (by decide) a0 r1 2)
  have C2 := fun W A (k : IsB W A s1.2) (h : BuAt s1.2 1 1) => Lib.hid (show Calls Try.prog 12 #[.pointer (some ⟨A.p, 0, none⟩), .int .u64 1, .slice (some ⟨W.heap.size, 0, none⟩) 2 2] (W.alloc (.cells #[.int .i64 0, .int .i64 1] 3)) (fun e w' => e = .returned (.tuple #[.int .i64 1, .int .i64 0]) ∧ IsB w' A s2.2 ∧ BuAt s2.2 2 2 ∧ Only A.own W w') from slot_new (l := [0, 1]) k h (by decide) (by decide) (by decide) (by decide) a1 r2 2)
  have C3 := fun W A (k : IsB W A s2.2) (h : BuAt s2.2 2 2) => Lib.hid (show Calls Try.prog 12 #[.pointer (some ⟨A.p, 0, none⟩), .int .u64 2, .slice (some ⟨W.heap.size, 0, none⟩) 2 2] (W.alloc (.cells #[.int .i64 0, .int .i64 1] 3)) (fun e w' => e = .returned (.tuple #[.int .i64 0, .int .i64 0]) ∧ IsB w' A s3.2 ∧ BuAt s3.2 3 3 ∧ Only A.own W w') from slot_new (l := [0, 1]) k h (by decide) (by decide) (by decide) (by decide) a2 r3 2)
  have C4 := fun W A (k : IsB W A s3.2) (h : BuAt s3.2 3 3) => Lib.hid (show Calls Try.prog 12 #[.pointer (some ⟨A.p, 0, none⟩), .int .u64 2, .slice (some ⟨W.heap.size, 0, none⟩) 1 1] (W.alloc (.cells #[.int .i64 0] 3)) (fun e w' => e = .returned (.tuple #[.int .i64 0, .int .i64 1]) ∧ IsB w' A s3.2 ∧ Below W.heap.size W w') from by
    have b := (Below.refl W.heap.size W).alloc (Nat.le_refl _) (.cells ⟨intCells [0]⟩ 3)
    have c := slot_err (k.below b) 2 (by decide) (by decide) h.l16 [0] (some ⟨W.heap.size, 0, none⟩) 1 (Src.block (Blk.new W 3 (intCells [0])) rfl) (by decide) (.inr (.inr (.inr l3)))
    exact Calls.mono c fun e w' ⟨e1, b1⟩ => ⟨e1, (k.below b).below b1, Below.next b b1⟩)
  have C5 := fun W A (k : IsB W A s3.2) (h : BuAt s3.2 3 3) => Lib.hid (show Calls Try.prog 12 #[.pointer (some ⟨A.p, 0, none⟩), .int .u64 3, .slice none 0 0] W (fun e w' => e = .returned (.tuple #[.int .i64 0, .int .i64 5]) ∧ IsB w' A s4.2 ∧ BuAt s4.2 4 4 ∧ Only A.own W w') from slot_nil k h (by decide) (by decide) (by decide) r4)
  have C6 := fun W A (k : IsB W A s4.2) => Lib.hid (show Calls Try.prog 16 #[.pointer (some ⟨A.p, 0, none⟩), .int .i64 1] W (fun e w' => e = .returned (.int .i64 2) ∧ W = w') from stalls_any k l4.2.2 l4.2.1 l4.1)
  have H0 := Lib.hid (show BuAt B0 0 0 from newB_at (fun x hx => by simp at hx; subst hx; exact mok) (by decide) (by decide) (by decide))
  go_enter Try.func9, Try.ntmps9
  go_wp2_with (first
    | (go_at_call 10; (with_reducible refine Calls.mono C0.out ?_); rintro e w1 ⟨A, rfl, k1, lo1, b1⟩
       have K1 := Lib.hid (show IsB w1 A B0 from k1)
       have B1 := Lib.hid (Below.mono b1 (show w.heap.size ≤ _ from by simp only [World.alloc, Array.size_push]; omega))
       have LO := Lib.hid (show ∀ a, A.own a → w.heap.size ≤ a from fun a ha => by have := lo1 a (.inl ha); simp only [World.alloc, Array.size_push] at this; omega)
       clear k1 lo1 b1)
    | (go_at_call 12; (with_reducible refine Calls.mono (C1 _ _ K1.out H0.out).out ?_); rintro e w2 ⟨rfl, k2, h2, o2⟩; have K2 := Lib.hid k2; have H2 := Lib.hid h2; have O2 := Lib.hid o2; clear k2 h2 o2)
    | (go_at_call 12; (with_reducible refine Calls.mono (C2 _ _ K2.out H2.out).out ?_); rintro e w3 ⟨rfl, k3, h3, o3⟩; have K3 := Lib.hid k3; have H3 := Lib.hid h3; have O3 := Lib.hid o3; clear k3 h3 o3)
    | (go_at_call 12; (with_reducible refine Calls.mono (C3 _ _ K3.out H3.out).out ?_); rintro e w4 ⟨rfl, k4, h4, o4⟩; have K4 := Lib.hid k4; have H4 := Lib.hid h4; have O4 := Lib.hid o4; clear k4 h4 o4)
    | (go_at_call 12; (with_reducible refine Calls.mono (C4 _ _ K4.out H4.out).out ?_); rintro e w5 ⟨rfl, k5, o5⟩; have K5 := Lib.hid k5; have O5 := Lib.hid o5; clear k5 o5)
    | (go_at_call 12; (with_reducible refine Calls.mono (C5 _ _ K5.out H4.out).out ?_); rintro e w6 ⟨rfl, k6, h6, o6⟩; have K6 := Lib.hid k6; have O6 := Lib.hid o6; clear k6 h6 o6)
    | (go_at_call 16; (with_reducible refine Calls.mono (C6 _ _ K6.out).out ?_); rintro e w7 ⟨rfl, rfl⟩))
  go_ret
  have u0 := Below.trans (((Below.refl w.heap.size w).alloc (Nat.le_refl _) _).alloc (by simp) _) B1.out
  have u1 := Below.onlyF u0 O2.out LO.out
  have u2 := Below.onlyF (Below.onlyF u1 O3.out LO.out) O4.out LO.out
  exact ⟨rfl, Below.onlyF (Below.next u2 O5.out) O6.out LO.out⟩
end Go.Proofs.Ytbfhohcimomphaa
