/- Layer 23 (lock): a keeper as it lies in memory; May, New, Holder, Prio, Held. -/
import Derived.Test.YthmcgbjkbcogkaaLock
import Derived.Test.YthmcgbjkbcogkaaLSlices
import Derived.Test.YthmcgbjkbcogkaaArgs
import Derived.Carry
namespace Go.Proofs.Ythmcgbjkbcogkaa
open Go.RowKit
open Go.Maps (Keyed)
set_option linter.unusedVariables false
set_option linter.unusedSimpArgs false
/-- A member: its own urgency, and what it holds, as it was taken. -/
structure Mm where
  prio : Int
  held : List Int
/-- Member i holds lock l. -/
def holds (ms : Int → Option Mm) (i l : Int) : Prop := ∃ m, ms i = some m ∧ l ∈ m.held
/-- Where a keeper lies: its block, its row of locks, its map; of each number the member's block, and the row of what it holds; N bounds how many things were stored. -/
structure Kp where
  k : Nat
  lv : Value
  mb : Nat
  N : Nat
  f : Int → Option Nat
  hv : Int → Value
/-- All blocks that a keeper has. -/
def Kp.all (K : Kp) (g : Nat) : Prop := g = K.k ∨ g = K.mb ∨ K.lv.ownBlock = some g ∨ ∃ i, K.f i = some g ∨ ((K.f i).isSome ∧ (K.hv i).ownBlock = some g)
structure IsK (w : World) (K : Kp) (cs : List Int) (ms : Int → Option Mm) : Prop where
  blk : Blk w K.k 53 [K.lv, .map (some K.mb)]
  row : Slc w 42 1 K.lv cs.length (ints cs)
  map : MapIs w K.mb K.N K.f
  mem : ∀ i x, K.f i = some x → ∃ m, ms i = some m ∧ Blk w x 58 [.int .i64 m.prio, K.hv i] ∧ Slc w 3 1 (K.hv i) m.held.length (ints m.held)
  non : ∀ i, K.f i = none → ms i = none
  inj : ∀ i j x, K.f i = some x → K.f j = some x → i = j
  hinj : ∀ i j g, (K.f i).isSome → (K.f j).isSome → (K.hv i).ownBlock = some g → (K.hv j).ownBlock = some g → i = j
  len : ∀ i m, ms i = some m → m.held.length ≤ K.N
  cl : cs.length ≤ 16
  cn : 0 < cs.length
  nn : K.N ≤ 1000
  inr : ∀ i m l, ms i = some m → l ∈ m.held → 0 ≤ l ∧ l < cs.length
  ids : ∀ i m, ms i = some m → 0 ≤ i ∧ i ≤ 63
  uniq : ∀ i j l, holds ms i l → holds ms j l → i = j
  nd : ∀ i m, ms i = some m → m.held.Nodup
section
variable {w w' : World} {K : Kp} {cs : List Int} {ms : Int → Option Mm}
theorem IsK.lt (h : IsK w K cs ms) {g : Nat} (hg : K.all g) : g < w.heap.size := by
  rcases hg with rfl | rfl | hg | ⟨i, hg | ⟨h1, hg⟩⟩
  · exact h.blk.lt
  · exact h.map.lt
  · exact h.row.lt hg
  · obtain ⟨m, -, k, -⟩ := h.mem i g hg
    exact k.lt
  · obtain ⟨x, hx⟩ := Option.isSome_iff_exists.1 h1
    obtain ⟨m, -, -, s⟩ := h.mem i x hx
    exact s.lt hg
theorem IsK.only {F : Nat → Prop} (h : IsK w K cs ms) (o : Only F w w') (hF : ∀ g, F g → ¬ K.all g) : IsK w' K cs ms := by
  refine { h with blk := h.blk.only o (fun f => hF _ f (.inl rfl)), row := h.row.only o (fun g hg f => hF _ f (.inr (.inr (.inl hg)))), map := h.map.only o (fun f => hF _ f (.inr (.inl rfl))), mem := fun i x hx => ?_ }
  obtain ⟨m, e, k, s⟩ := h.mem i x hx
  exact ⟨m, e, k.only o (fun f => hF _ f (.inr (.inr (.inr ⟨i, .inl hx⟩)))), s.only o (fun g hg f => hF _ f (.inr (.inr (.inr ⟨i, .inr ⟨by rw [hx]; rfl, hg⟩⟩))))⟩
theorem IsK.below (h : IsK w K cs ms) (o : Below w.heap.size w w') : IsK w' K cs ms := h.only (F := fun g => w.heap.size ≤ g) ⟨o.os, o.tape, o.output, o.size, fun i hi _ => o.block i hi⟩ (fun g hg ha => by have := h.lt ha; omega)
theorem IsK.alloc (h : IsK w K cs ms) (o : Obj) : IsK (w.alloc o) K cs ms := h.below ((Below.refl _ _).alloc (Nat.le_refl _) _)
theorem IsK.drewN (h : IsK w K cs ms) (n : Nat) : IsK (w.drewN n) K cs ms := h.below (Below.drewN' (Below.refl _ _) n)
theorem IsK.kn (h : IsK w K cs ms) {i : Int} {m : Mm} (e : ms i = some m) : ∃ x, K.f i = some x ∧ Blk w x 58 [.int .i64 m.prio, K.hv i] ∧ Slc w 3 1 (K.hv i) m.held.length (ints m.held) := by
  cases hf : K.f i with
  | none => have := h.non i hf; rw [e] at this; cases this
  | some x =>
    obtain ⟨m', e', k, s⟩ := h.mem i x hf
    rw [e] at e'
    injection e' with e'
    subst e'
    exact ⟨x, rfl, k, s⟩
theorem IsK.un (h : IsK w K cs ms) {i : Int} (e : ms i = none) : K.f i = none := by
  cases hf : K.f i with
  | none => rfl
  | some x =>
    obtain ⟨m', e', k, s⟩ := h.mem i x hf
    rw [e] at e'
    cases e'
end
/-- Whether an urgency may be. -/
def mayP (p : Int) : Bool := decide (0 ≤ p ∧ p ≤ 100)
theorem mayPrio_any (p : Int) (w : World) : Calls Try.prog 23 #[.int .i64 p] w fun e w' => e = .returned (.bool (mayP p)) ∧ w = w' := by
  by_cases z1 : 0 ≤ p
  · by_cases z2 : p ≤ 100
    · have e : mayP p = true := decide_eq_true ⟨z1, z2⟩
      rw [e]; clear e
      have d1 : decide (0 ≤ p) = true := decide_eq_true z1
      have d2 : decide (p ≤ 100) = true := decide_eq_true z2
      go_enter Try.func23, Try.ntmps23
      go_wp2_with fail
      go_ret
      exact ⟨rfl, rfl⟩
    · have e : mayP p = false := decide_eq_false (fun h => z2 h.2)
      rw [e]; clear e
      have d1 : decide (0 ≤ p) = true := decide_eq_true z1
      have d2 : decide (p ≤ 100) = false := decide_eq_false z2
      go_enter Try.func23, Try.ntmps23
      go_wp2_with fail
      go_ret
      exact ⟨rfl, rfl⟩
  · have e : mayP p = false := decide_eq_false (fun h => z1 h.1)
    rw [e]; clear e
    have d1 : decide (0 ≤ p) = false := decide_eq_false z1
    go_enter Try.func23, Try.ntmps23
    go_wp2_with fail
    go_ret
    exact ⟨rfl, rfl⟩
theorem mayl_any (p : Int) (w : World) : Calls Try.prog 20 #[.agg #[.int .i64 p]] w fun e w' => e = .returned (.bool (mayP p)) ∧ Below w.heap.size w w' := by
  go_enter Try.func20, Try.ntmps20
  go_wp2_with (go_at_call 23; (with_reducible refine Calls.mono (mayPrio_any _ _) ?_); rintro e w' ⟨rfl, rfl⟩)
  go_ret
  exact ⟨rfl, (Below.refl _ _).alloc (Nat.le_refl _) _⟩
theorem new1_any (p : Int) (w : World) : Calls Try.prog 19 #[.agg #[.int .i64 p]] w fun e w' => e = .returned (.bool (!mayP p)) ∧ Below w.heap.size w w' := by
  go_enter Try.func19, Try.ntmps19
  go_wp2_with (go_at_call 20; (with_reducible refine Calls.mono (mayl_any _ _) ?_); rintro e w' ⟨rfl, hb⟩; have HB := Lib.hid hb; clear hb)
  go_ret
  exact ⟨rfl, Below.next ((Below.refl _ _).alloc (Nat.le_refl _) _) HB.out⟩
def RelI (w : World) (n : Nat) (iv : Value) (wr : World) : Prop := ∃ i : Nat, iv = .int .i64 i ∧ i ≤ n ∧ Below w.heap.size w wr
/-- All may be. -/
def Good (n : Nat) (U : Nat → Int) : Prop := 1 ≤ n ∧ n ≤ 16 ∧ ∀ i, i < n → 0 ≤ U i ∧ U i ≤ 100
def lst (n : Nat) (U : Nat → Int) : List Int := (List.range n).map U
theorem lst_len (n : Nat) (U : Nat → Int) : (lst n U).length = n := by simp [lst]
theorem lst_at {n : Nat} {U : Nat → Int} {i : Nat} (h : i < n) : (lst n U)[i]? = some (U i) := by simp [lst, h]
theorem src_of_ints {w : World} {A : Option Addr} {n : Nat} {U : Nat → Int} (h : IntsAt w .i64 A n U) : Src w 1 A n (ints (lst n U)) := by
  refine ⟨by rw [ints_len, lst_len]; omega, ?_⟩
  rcases Nat.eq_zero_or_pos n with h0 | h0
  · exact .inl h0
  · obtain ⟨b, off, e, -, -⟩ := h.at_ h0
    refine .inr ⟨_, e, fun j u hu => ?_⟩
    have hj : j < n := by
      have := (List.getElem?_eq_some_iff.1 hu).1
      rw [ints_len, lst_len] at this
      exact this
    obtain ⟨b', off', e', -, hc⟩ := h.at_ hj
    rw [e] at e'
    injection e' with e'
    injection e' with e1 e2
    subst e1 e2
    rw [ints_at (lst_at hj)] at hu
    injection hu with hu
    subst hu
    rw [← hc]
    cases j <;> simp [Addr.add]
set_option maxHeartbeats 1000000 in
/-- Of locks that all may be: IndexFunc tells -1, ContainsFunc false. -/
theorem indexf_any (w : World) (A : Option Addr) (n c : Nat) (U : Nat → Int) (hs : IntsAt w .i64 A n U) (hm : Good n U) :
    Calls Try.prog 30 #[.slice A n c, .func (.func 19) #[] #[]] w fun e w' => e = .returned (.int .i64 (-1)) ∧ Below w.heap.size w w' := by
  have HS := Lib.hid hs
  have HM := Lib.hid hm
  have hn16 := hm.2.1
  clear hs hm
  go_enter Try.func30, Try.ntmps30
  go_wp2_with fail
  go_loopw [8] (fun iv wr => Hid (RelI w n iv wr)) (fun iv _ => (n - intOf iv).toNat)
  case atStart => exact ⟨0, rfl, by omega, Below.refl _ _⟩
  case round =>
    obtain ⟨i, rfl, hi, hb⟩ := hrel
    have HB := Lib.hid hb
    clear hb
    by_cases hin : i < n
    · have hin2 : (i : Int) < n := by omega
      obtain ⟨b, off, rfl, hlt, hc⟩ := HS.out.at_ hin
      have c0 := (HB.out.cell (p := ⟨b, off + i, none⟩) hlt).trans hc
      have hmay : mayP (U i) = true := decide_eq_true (HM.out.2.2 i hin)
      have C1 := fun W => Lib.hid (hmay ▸ new1_any (U i) W)
      clear hc hmay
      go_wp2_with (go_at_call 19; (with_reducible refine Calls.mono (C1 _).out ?_); rintro e w' ⟨rfl, hb⟩; have HB1 := Lib.hid (Below.next HB.out hb); clear hb)
      go_roundw
      case rel => exact ⟨i + 1, by go_num, by omega, HB1.out⟩
      case measure => simp [intOf]; omega
    · obtain rfl : i = n := by omega
      have hin2 : ¬ (i : Int) < i := by omega
      go_wp2_with fail
      go_ret
      exact ⟨rfl, HB.out⟩
theorem containsf_any (w : World) (A : Option Addr) (n c : Nat) (U : Nat → Int) (hs : IntsAt w .i64 A n U) (hm : Good n U) :
    Calls Try.prog 18 #[.slice A n c, .func (.func 19) #[] #[]] w fun e w' => e = .returned (.bool false) ∧ Below w.heap.size w w' := by
  have D := Lib.hid (indexf_any w A n c U hs hm)
  clear hs hm
  go_enter Try.func18, Try.ntmps18
  go_wp2_with (go_at_call 30; (with_reducible refine Calls.mono D.out ?_); rintro e w' ⟨rfl, hb⟩; have HB := Lib.hid hb; clear hb)
  go_ret
  exact ⟨rfl, HB.out⟩
/-- A keeper that was made behind base. -/
structure Made (w : World) (base : Nat) (k : Nat) (cs : List Int) (w' : World) (K : Kp) : Prop where
  is : IsK w' K cs (fun _ => none)
  k : K.k = k
  low : ∀ g, K.all g → base ≤ g
  N0 : K.N = 0
  bel : Below base w w'
set_option maxHeartbeats 1000000 in
theorem newk_any (w : World) (A : Option Addr) (n c : Nat) (U : Nat → Int) (hs : IntsAt w .i64 A n U) (hm : Good n U) :
    Calls Try.prog 9 #[.slice A n c] w fun e w' => ∃ k K, e = .returned (.tuple #[.pointer (some ⟨k, 0, none⟩), .int .i64 0]) ∧ Made w w.heap.size k (lst n U) w' K := by
  have D := Lib.hid (containsf_any w A n c U hs hm)
  have HS := Lib.hid hs
  have C := fun W h => Lib.hid (cloneL_any W A c (lst n U) n h hm.1 (by have := hm.2.1; omega))
  obtain ⟨h1, h2, h3⟩ := hm
  have hmm := @run_makeMap Try.prog
  have d1 : decide ((n : Int) < 1) = false := decide_eq_false (by omega)
  have d2 : decide (16 < (n : Int)) = false := decide_eq_false (by omega)
  have H3 := Lib.hid h3
  clear hs h3
  go_enter Try.func9, Try.ntmps9
  go_wp2_with (first
    | (go_at_call 18; (with_reducible refine Calls.mono D.out ?_); rintro e w1 ⟨rfl, hb⟩
       have HB := Lib.hid hb
       have HS1 := Lib.hid (src_of_ints (HS.out.below hb))
       clear hb)
    | (go_at_call 21; (with_reducible refine Calls.mono (C _ HS1.out).out ?_); rintro e w2 ⟨A2, c2, rfl, s2, b2, o2⟩
       have S2 := Lib.hid s2
       have HB2 := Lib.hid (Below.next HB.out b2)
       have O2 := Lib.hid o2
       clear s2 b2 o2))
  go_ret2
  have b2 := HB2.out.size
  have b1 := HB.out.size
  have k := Blk.new (w2.alloc (.map #[] 0)) 53 [.slice A2 n c2, .map (some w2.heap.size)]
  rw [World.size_alloc] at k
  refine ⟨w2.heap.size + 1, ⟨w2.heap.size + 1, .slice A2 n c2, w2.heap.size, 0, fun _ => none, fun _ => .slice none 0 0⟩, rfl, ⟨⟨k, ?_, ?_, fun i x h => (by cases h), fun i _ => rfl, fun i j x h => (by cases h), fun i j g h => (by cases h), fun i m h => (by cases h), by rw [lst_len]; exact h2, by rw [lst_len]; exact h1, (by show 0 ≤ 1000; omega), fun i m l h => (by cases h), fun i m h => (by cases h), fun i j l ⟨m, h, _⟩ => (by cases h), fun i m h => (by cases h)⟩, rfl, ?_, rfl, ?_⟩⟩
  · rw [lst_len]
    exact (S2.out.alloc _).alloc _
  · exact (MapIs.made w2).keep (Below.heap_alloc _ _ _ (by simp))
  · rintro g (rfl | rfl | hg | ⟨i, h | ⟨h, -⟩⟩)
    · show w.heap.size ≤ w2.heap.size + 1
      omega
    · show w.heap.size ≤ w2.heap.size
      omega
    · have := O2.out g hg
      omega
    · cases h
    · cases h
  · exact (HB2.out.alloc (by omega) _).alloc (by simp; omega) _
def HoldPost (ms : Int → Option Mm) (l : Int) (w : World) (e : Ending) (w' : World) : Prop :=
  ((∃ i, holds ms i l ∧ e = .returned (.tuple #[.int .i64 i, .bool true])) ∨ ((∀ i, ¬ holds ms i l) ∧ e = .returned (.tuple #[.int .i64 0, .bool false]))) ∧ Below w.heap.size w w'
def RelH (w : World) (mb r n : Nat) (D : DataW Unit) (ms : Int → Option Mm) (l : Int) (wr : World) : Prop :=
  ∃ left cnt, wr.ranges Try.prog 3 refElem mb r n D left cnt ∧ (∀ i, okKey i → left (.int .i64 i) = false → ¬ holds ms i l) ∧ Below w.heap.size w wr
theorem invK' : ∀ key kl, keyOf Try.prog 3 key = some kl → ∃ x : Int, key = Value.int .i64 x := fun key kl h => by
  obtain ⟨x, rfl, _⟩ := Maps.keyOf_int_inv Try.underlying3 h
  exact ⟨x, rfl⟩
theorem invV' : ∀ v y, refElem v = some y → ∃ c : Option Nat, v = ptrO c := fun v y h => by
  rcases refElem_inv h with ⟨x, rfl, -⟩ | ⟨rfl, -⟩
  · exact ⟨some x, rfl⟩
  · exact ⟨none, rfl⟩
theorem key_inv {x : Int} {kl : Lit} (h : keyOf Try.prog 3 (.int .i64 x) = some kl) : kl = .int .i64 x ∧ okKey x := by
  obtain ⟨y, e, rfl, hw⟩ := Maps.keyOf_int_inv Try.underlying3 h
  injection e with _ e
  subst e
  exact ⟨rfl, bounds_i64 hw⟩
set_option maxHeartbeats 2000000 in
theorem holder_any {w : World} {K : Kp} {cs : List Int} {ms : Int → Option Mm} (k : IsK w K cs ms) (l : Int) :
    Calls Try.prog 17 #[.pointer (some ⟨K.k, 0, none⟩), .int .i64 l] w (HoldPost ms l w) := by
  obtain ⟨n, D, hn, hown, h1, h2⟩ := k.map
  have c1 : w.cell? ⟨K.k, 1, none⟩ = some (.map (some K.mb)) := k.blk.cell 1
  have hkl := k.blk.lt
  have K0 := Lib.hid k
  have OWN := Lib.hid hown
  have H1 := Lib.hid h1
  have H2 := Lib.hid h2
  clear k hown h1 h2
  go_enter Try.func17, Try.ntmps17
  go_wp2_with (first | (at_range; refine wpList_range_own _ rfl _ 51 rfl 3 54 keyed Try.underlying51 refElem K.mb n D rfl OWN.out ?_; intro w0 hrg0 hg0 hs0))
  go_frame
  have RG0 := Lib.hid hrg0
  have B0 : Hid (Below w.heap.size w w0) := ⟨hg0.os, hg0.tape, hg0.output, hg0.size, fun i hi => hg0.block i hi (by simp)⟩
  clear hrg0 hg0 hs0
  go_loopw [13] (fun _ wr => Hid (RelH w K.mb w.heap.size n D ms l wr)) (fun _ wr => wr.rangeLeft K.mb w.heap.size)
  case atStart => exact ⟨_, _, RG0.out, fun i hi hl => (by
    rintro ⟨m, hm, hlm⟩
    rw [H1.out i hi] at hl
    obtain ⟨x, hx, -⟩ := K0.out.kn hm
    rw [hx] at hl
    cases hl), B0.out⟩
  case round =>
    obtain ⟨left, cnt, hrg, hno, hb⟩ := hrel
    have RG := Lib.hid hrg
    have NO := Lib.hid hno
    have HB := Lib.hid hb
    clear hrg hno hb
    go_wp2_with (first
      | (at_next; refine wpList_next_ranges _ rfl _ rfl 3 keyed refElem (Value.int .i64) ptrO invK' invV' K.mb w.heap.size n D left cnt rfl RG.out ?_ ?_))
    · intro hc0 hl0
      have L0 := Lib.hid hl0
      clear hc0 hl0
      go_wp2_with fail
      go_ret2
      refine ⟨.inr ⟨fun i hi => ?_, rfl⟩, HB.out⟩
      obtain ⟨m, hm, hl⟩ := hi
      have hi := K0.out.ids i m hm
      exact NO.out i (by unfold okKey; omega) (L0.out _) ⟨m, hm, hl⟩
    · intro x c kl y yp w1 cnt1 hkey hleft hR hat hrg1 hlt hg1 hs1 hen
      obtain ⟨rfl, hok⟩ := key_inv hkey
      have hh := Maps.has_true_of_atKey hat
      rw [H1.out x hok] at hh
      obtain ⟨b, hb⟩ := Option.isSome_iff_exists.1 hh
      have hz := hat (.lit (.int .i64 0))
      rw [H2.out x b hok hb] at hz
      rcases refElem_inv hR with ⟨b', hc', hy⟩ | ⟨hc', hy⟩
      · injection hy with hy hyp
        rw [hy] at hz
        injection hz with hz
        injection hz with _ hz
        obtain rfl : b' = b := by omega
        rw [hc'] at hen ⊢
        unfold ptr at hen ⊢
        have HB1 : Hid (Below w.heap.size w w1) := ⟨hg1.os.trans HB.out.os, hg1.tape.trans HB.out.tape, hg1.output.trans HB.out.output, Nat.le_trans HB.out.size hg1.size, fun i hi => (hg1.block i (Nat.lt_of_lt_of_le hi HB.out.size) (by simp; omega)).trans (HB.out.block i hi)⟩
        obtain ⟨m, hm, kb, sb⟩ := K0.out.mem x b' hb
        have hln := K0.out.len x m hm
        have hnn := K0.out.nn
        obtain ⟨A, ca, ev, -⟩ := sb.shape
        have c2 := (kb.below HB1.out kb.lt).cell 1
        have s1 := sb.below HB1.out (fun g hg => sb.lt hg)
        simp only [List.getElem?_cons_succ, List.getElem?_cons_zero] at c2
        rw [ev] at c2 s1
        have hbl := kb.lt
        have RG1 := Lib.hid hrg1
        have HM := Lib.hid hm
        have LT := Lib.hid hlt
        have HEN := hen
        have MS := Lib.hid (rfl : m.held.length = m.held.length)
        obtain ⟨hl, hhl⟩ : ∃ hl, m.held.length = hl := ⟨_, rfl⟩
        rw [hhl] at c2 s1
        have S1 := Lib.hid s1
        by_cases hin : l ∈ m.held
        · have CT := Lib.hid (contains_any w1 A hl ca m.held l s1 (by omega) (r := true) (decide_eq_true hin).symm)
          have HIN := Lib.hid hin
          clear hkey hleft hR hat hrg1 hlt hg1 hs1 hh hb hz hy hyp hm kb sb hln hnn ev s1 hc' hhl hin MS
          go_wp2_with (go_at_call 29; (with_reducible refine Calls.mono CT.out ?_); rintro e w' ⟨rfl, rfl⟩)
          go_ret2
          exact ⟨.inl ⟨x, ⟨m, HM.out, HIN.out⟩, rfl⟩, HB1.out⟩
        · have CT := Lib.hid (contains_any w1 A hl ca m.held l s1 (by omega) (r := false) (decide_eq_false hin).symm)
          have HIN := Lib.hid hin
          clear hkey hleft hR hat hrg1 hlt hg1 hs1 hh hb hz hy hyp hm kb sb hln hnn ev s1 hc' hhl hin MS
          go_wp2_with (go_at_call 29; (with_reducible refine Calls.mono CT.out ?_); rintro e w' ⟨rfl, rfl⟩)
          go_roundw
          case rel =>
            refine ⟨_, _, RG1.out, fun i hi hl2 => ?_, HB1.out⟩
            by_cases e : i = x
            · subst e
              rintro ⟨m', hm', hlm⟩
              have := HM.out
              rw [hm'] at this
              injection this with this
              subst this
              exact HIN.out hlm
            · refine NO.out i hi ?_
              have h3 : (Lit.int .i64 i).sameKey (.int .i64 x) = false := Maps.sameKey_ne (by intro e2; injection e2 with _ e2; exact e e2)
              simpa [h3] using hl2
          case measure =>
            rw [RG1.out.left_eq, RG.out.left_eq]
            exact LT.out
      · injection hy with hy hyp
        rw [hy] at hz
        injection hz with hz
        injection hz with _ hz
        omega
end Go.Proofs.Ythmcgbjkbcogkaa
