/- PoolBytes: what is written is read, and no byte beside it is touched; what is told may be written over. No condition. -/
import Derived.Test.YtbhpdljfkcdnbaaPoolLaw
import Derived.Test.YtbhpdljfkcdnbaaPoolReadB
import Derived.Test.YtbhpdljfkcdnbaaPoolSame
import Derived.Test.YtbhpdljfkcdnbaaArgs
import Derived.Test.YtbhpdljfkcdnbaaArg
import Derived.Test.YtbhpdljfkcdnbaaRows
import Derived.ProofKit
import Derived.OpenShut
import Derived.ShutString
import Derived.ChangeOld
import Derived.Below
import Derived.SizedLaws
namespace Go.Proofs.Ytbhpdljfkcdnbaa
open Go.ChangeShapes Go.WideShapes Go.ChangeAt Go.RowKit
open Go.ChangeMaps (open_string shut_string)
set_option linter.unusedVariables false
set_option linter.unusedSimpArgs false
namespace poolBytes
def S2 : Nat → Int := fun _ => 3000
def C2 : Nat → Int := fun _ => 2
def zs : List Int := List.replicate 3000 0
theorem zs_len : zs.length = 3000 := by unfold zs; rw [List.length_replicate]
theorem zs_take (a : Nat) (h : a ≤ 3000) : zs.take a = List.replicate a 0 := by unfold zs; rw [List.take_replicate, Nat.min_eq_left h]
theorem zs_drop (a : Nat) : zs.drop a = List.replicate (3000 - a) 0 := by unfold zs; rw [List.drop_replicate]
theorem zs_all : zs.take 3000 = zs := List.take_of_length_le (by rw [zs_len]; exact Nat.le_refl _)
theorem zs_self : List.replicate 3000 (0 : Int) = zs := rfl
def bz (o r : Int) : Bf := ⟨1, o, r, zs⟩
def bw (l : List Int) : Bf := ⟨1, 1, 1, l⟩
theorem bufs2 : bufsOf S2 C2 1 = [bz 0 0, bz 0 0] := by
  show [] ++ List.replicate 2 (⟨1, 0, 0, zs⟩ : Bf) = _
  rfl
theorem may2 : mayC 1 S2 C2 := ⟨by omega, by omega, fun i hi => by
  obtain rfl : i = 0 := by omega
  decide⟩
theorem cls2 (w : World) : Cls (w.alloc (.cells #[.int .i64 3000, .int .i64 2] 26)) (some ⟨w.heap.size, 0, none⟩) 1 S2 C2 := by
  intro i hi
  have k := Blk.new w 26 [.int .i64 3000, .int .i64 2]
  obtain rfl : i = 0 := by omega
  exact ⟨w.heap.size, 0, rfl, k.lt, k.cell 0, k.cell 1⟩
theorem getg1 (z : List Int) (N : Nat) (h : z.length = N) (hN : 1 ≤ N) : getP 1 [⟨1, 0, 0, z⟩, ⟨1, 0, 0, z⟩] = ((0, 1, 0), [⟨1, 1, 1, List.replicate N 0⟩, ⟨1, 0, 0, z⟩]) := by
  have h1 : ¬ ((N : Int) < 1) := by omega
  have h2 : (1 : Int) ≤ N := by omega
  simp [getP, firstP, h, List.findIdx?, List.findIdx?.go, h1, h2]
  try simp [h]
theorem getg2 (y z : List Int) (N : Nat) (h : z.length = N) (hN : 1 ≤ N) : getP 1 [⟨1, 1, 1, y⟩, ⟨1, 0, 0, z⟩] = ((1, 1, 0), [⟨1, 1, 1, y⟩, ⟨1, 1, 1, List.replicate N 0⟩]) := by
  have h1 : ¬ ((N : Int) < 1) := by omega
  have h2 : (1 : Int) ≤ N := by omega
  simp [getP, firstP, h, List.findIdx?, List.findIdx?.go, h1, h2]
  try simp [h]
theorem get1 : getP 1 [bz 0 0, bz 0 0] = ((0, 1, 0), [bw zs, bz 0 0]) := getg1 zs 3000 zs_len (by omega)
theorem get2 : getP 1 [bw zs, bz 0 0] = ((1, 1, 0), [bw zs, bw zs]) := getg2 zs zs 3000 zs_len (by omega)
theorem len_of {l m : List Int} (hl : l.length = 3000) (hm : m.length = 3000) : ∀ b ∈ [bw l, bw m], b.bytes.length ≤ 65536 := by
  intro b hb
  simp at hb
  rcases hb with rfl | rfl <;> simp [bw, hl, hm]
theorem len0 : ∀ b ∈ [bz 0 0, bz 0 0], b.bytes.length ≤ 65536 := by
  intro b hb
  simp at hb
  subst hb
  simp [bz, zs_len]
theorem len1 : ∀ b ∈ [bw zs, bz 0 0], b.bytes.length ≤ 65536 := by
  intro b hb
  simp at hb
  rcases hb with rfl | rfl <;> simp [bz, bw, zs_len]
theorem mo1 : mayOwn 1 = true := by rfl
def fits (at_ : Int) (n : Nat) : Prop := 0 ≤ at_ ∧ at_ ≤ 3000 ∧ (n : Int) ≤ 3000 - at_
theorem write_no {at_ : Int} {k : List Int} (h : ¬ fits at_ k.length) : writeQ 0 1 1 at_ k [bw zs, bw zs] = (1, [bw zs, bw zs]) := by
  have : at_ < 0 ∨ (3000 : Int) < at_ ∨ (3000 : Int) - at_ < k.length := by unfold fits at h; omega
  simp [writeQ, look, writeB, bw, mo1, zs_len, this]
theorem write_yes {a : Nat} {k : List Int} (h : a + k.length ≤ 3000) : writeQ 0 1 1 a k [bw zs, bw zs] = (0, [bw (over zs a k), bw zs]) := by
  have : ¬ ((a : Int) < 0 ∨ (3000 : Int) < a ∨ (3000 : Int) - a < k.length) := by omega
  simp [writeQ, look, writeB, bw, mo1, zs_len, this]
theorem write_other {l k : List Int} (h : k.length ≤ 2000) : writeQ 1 1 1 0 k [bw l, bw zs] = (0, [bw l, bw (over zs 0 k)]) := by
  have : ¬ ((3000 : Int) < 0 ∨ (3000 : Int) - 0 < k.length) := by omega
  have h2 : ¬ ((3000 : Int) < k.length) := by omega
  simp [writeQ, look, writeB, bw, mo1, zs_len, h2]
theorem read_all : readQ 0 1 0 3000 [bw zs, bw zs] = (some zs, 0) := by
  simp [readQ, look, readB, bw, zs_len, zs_all]
theorem read_other {l : List Int} : readQ 1 1 0 3000 [bw l, bw zs] = (some zs, 0) := by
  simp [readQ, look, readB, bw, zs_len, zs_all]
theorem over_len {a : Nat} {k : List Int} (h : a + k.length ≤ 3000) : (over zs a k).length = 3000 := (over_length zs k a (by rw [zs_len]; exact h)).trans zs_len
theorem read_mid {a : Nat} {k : List Int} (h : a + k.length ≤ 3000) : readQ 0 1 a k.length [bw (over zs a k), bw zs] = (some k, 0) := by
  have hl := over_len h
  have : ¬ ((a : Int) < 0 ∨ (k.length : Int) < 0 ∨ (3000 : Int) < a ∨ (3000 : Int) - a < k.length) := by omega
  simp [readQ, look, readB, bw, hl, this]
  unfold over
  rw [zs_take a (by omega), List.append_assoc, List.drop_append, List.drop_of_length_le (by rw [List.length_replicate]; omega)]
  simp
theorem read_low {a : Nat} {k : List Int} (h : a + k.length ≤ 3000) : readQ 0 1 0 a [bw (over zs a k), bw zs] = (some (List.replicate a 0), 0) := by
  have hl := over_len h
  have : ¬ ((a : Int) < 0 ∨ (3000 : Int) < 0 ∨ (3000 : Int) - 0 < a) := by omega
  simp [readQ, look, readB, bw, hl]
  unfold over
  rw [zs_take a (by omega), List.append_assoc, List.take_append, List.take_of_length_le (by rw [List.length_replicate]; omega)]
  simp
  omega
theorem read_high {a : Nat} {k : List Int} (h : a + k.length ≤ 3000) : readQ 0 1 (a + k.length) (3000 - a - k.length) [bw (over zs a k), bw zs] = (some (List.replicate (3000 - a - k.length) 0), 0) := by
  have hl := over_len h
  have e1 : ((a : Int) + (k.length : Int)).toNat = a + k.length := by omega
  have e2 : ((3000 : Int) - a - k.length).toNat = 3000 - a - k.length := by omega
  have : ¬ ((a : Int) + k.length < 0 ∨ (3000 : Int) - a - k.length < 0 ∨ (3000 : Int) < (a : Int) + k.length ∨ (3000 : Int) - ((a : Int) + k.length) < 3000 - a - k.length) := by omega
  simp [readQ, look, readB, bw, hl, this, e1, e2]
  unfold over
  rw [zs_take a (by omega), zs_drop, List.drop_append, List.drop_of_length_le (by simp)]
  simp [Nat.sub_sub]
/-- What is read, as a source. -/
theorem Rd.told {w : World} {base : Nat} {A : Option Addr} {m c : Nat} {l : List Int} (h : Rd w base (.slice A m c) (some l)) : m = l.length ∧ Src w 1 A m (byteCells l) ∧ Slc w 5 1 (.slice A m c) m (byteCells l) ∧ ∀ g, (Value.slice A m c).ownBlock = some g → base ≤ g := by
  obtain ⟨h1, h2⟩ := h
  obtain ⟨A', c', e, hs⟩ := h1.src
  injection e with e1 e2 e3
  subst e1 e2 e3
  exact ⟨rfl, hs, h1, h2⟩
/-- One element set. -/
theorem Slc.put {w : World} {e : TypeId} {v : Value} {n : Nat} {xs : List Value} (h : Slc w e 1 v n xs) {g off c : Nat} (hv : v = .slice (some ⟨g, off, none⟩) n c) {i : Nat} (hi : i < n) (u : Value) : Slc (w.setCell ⟨g, off + i, none⟩ u) e 1 v n (xs.set i u) := by
  obtain ⟨hl, h⟩ := h
  refine ⟨by simpa using hl, ?_⟩
  rcases h with ⟨h1, h2⟩ | ⟨g', off', c', cs, e1, hh, hc, hm, hsz, hx⟩
  · omega
  · rw [hv] at e1
    injection e1 with e1 e2 e3
    injection e1 with e1
    injection e1 with e4 e5 e6
    subst e4 e5 e3
    refine .inr ⟨g, off, c, cs.set! (off + i) u, hv, ?_, hc, hm, by simpa using hsz, fun j u' hu => ?_⟩
    · simp [World.setCell, Array.getElem?_modify, hh]
    · by_cases ej : i = j
      · subst ej
        rw [List.getElem?_set_self (by omega)] at hu
        simp at hu
        subst hu
        have hlt : off + i < cs.size := by omega
        simp [Array.set!, hlt]
      · rw [List.getElem?_set_ne ej] at hu
        have := hx j u' hu
        rw [Array.set!_eq_setIfInBounds, Array.getElem?_setIfInBounds_ne (by omega)]
        exact this
theorem madeB (N : Nat) : madeCells #[.int .u8 0] N = ⟨byteCells (List.replicate N 0)⟩ := by
  apply Array.ext'
  rw [toList_madeCells_one]
  simp [byteCells]
theorem loc {w : World} {B : Nat} {A : Option Addr} {m c : Nat} {l : List Int} (h : Slc w 5 1 (.slice A m c) m (byteCells l)) {w' : World} (o : Below w.heap.size w w') : Slc w' 5 1 (.slice A m c) m (byteCells l) := h.below o fun g hg => h.lt hg
theorem src_of {w : World} {A : Option Addr} {m c : Nat} {l : List Int} (h : Slc w 5 1 (.slice A m c) m (byteCells l)) : Src w 1 A m (byteCells l) := by
  obtain ⟨A', c', e, hs⟩ := h.src
  injection e with e1 e2 e3
  subst e1
  exact hs
theorem src_made (W : World) (N : Nat) : Src (W.alloc (.cells (madeCells #[.int .u8 0] N) 5)) 1 (some ⟨W.heap.size, 0, none⟩) N (byteCells (List.replicate N 0)) := by
  rw [madeB]
  have k := Blk.new W 5 (byteCells (List.replicate N 0))
  refine ⟨by simp [byteCells], .inr ⟨_, rfl, fun j u hu => ?_⟩⟩
  have e : (⟨W.heap.size, 0, none⟩ : Addr).add j = ⟨W.heap.size, j, none⟩ := by cases j <;> simp [Addr.add]
  rw [e, k.cell j]
  exact hu
theorem read_is {w : World} {P : Pl} {bs : List Bf} (k : IsP w P bs) (s g at_ n : Int) (hl : ∀ b ∈ bs, b.bytes.length ≤ 65536) (ha : -9223372036854775808 ≤ at_) (ha' : at_ ≤ 9223372036854775807) (hn : -9223372036854775808 ≤ n) (hn' : n ≤ 9223372036854775807) {l : List Int} {N : Nat} (h : readQ s g at_ n bs = (some l, 0)) (hN : l.length = N) :
    Calls Try.prog 15 #[.pointer (some ⟨P.p, 0, none⟩), .agg #[.int .i64 s, .int .u64 g], .int .i64 at_, .int .i64 n] w fun e w' => ∃ A c, e = .returned (.tuple #[.slice A N c, .int .i64 0]) ∧ Slc w' 5 1 (.slice A N c) N (byteCells l) ∧ (∀ g, (Value.slice A N c).ownBlock = some g → w.heap.size ≤ g) ∧ IsP w' P bs ∧ Below w.heap.size w w' := by
  have := readp_any k s g at_ n hl ha ha' hn hn'
  rw [h] at this
  refine this.mono fun e w' ⟨A, m, c, h1, h2, h3, h4⟩ => ?_
  obtain ⟨e1, e2, e3, e4⟩ := Rd.told (l := l) h2
  rw [hN] at e1
  subst e1
  exact ⟨A, c, h1, e3, e4, h3, h4⟩
theorem same_is {w : World} {A B : Option Addr} {n c d : Nat} {l : List Int} (ha : Src w 1 A n (byteCells l)) (hb : Src w 1 B n (byteCells l)) (hn : n ≤ 140737488351232) :
    Calls Try.prog 16 #[.slice A n c, .slice B n d] w fun e w' => e = .returned (.bool true) ∧ Below w.heap.size w w' := by
  have := same_any w A B n n c d l l ha hb hn hn
  rw [decide_eq_true rfl] at this
  exact this
theorem made_is (N : Nat) (h : N ≤ 100000) (W : World) : (Instr.makeSlice 38 (.int .i64 N) (.int .i64 N)).run Try.prog W = .ok (.slice (some ⟨W.heap.size, 0, none⟩) N N) (W.alloc (.cells (madeCells #[.int .u8 0] N) 5)) :=
  run_make_row' 38 5 (.int .u8 0) 1 Try.underlying38 infoByte rfl .i64 .i64 N (by omega) (by omega) W
theorem bytes_set (l : List Int) (i : Nat) (y : Int) : (byteCells l).set i (.int .u8 y) = byteCells (l.set i y) := by unfold byteCells; rw [List.map_set]
def RelX (w : World) (P : Pl) (bs : List Bf) (H1 H2 g : Nat) (A : Option Addr) (n c : Nat) (iv : Value) (wr : World) : Prop :=
  ∃ (i : Nat) (l : List Int), iv = .int .i64 i ∧ i ≤ n ∧ l.length = n ∧ (∀ x ∈ l, 0 ≤ x ∧ x ≤ 255) ∧ Slc wr 5 1 (.slice A n c) n (byteCells l) ∧ IsP wr P bs ∧ Blk wr H1 34 [.int .i64 0, .int .u64 1] ∧ Blk wr H2 34 [.int .i64 1, .int .u64 1] ∧ Below w.heap.size w wr
set_option maxRecDepth 100000 in
set_option maxHeartbeats 8000000 in
theorem walk2 (w : World) (at_ : Int) (a0 : -9223372036854775808 ≤ at_) (a1 : at_ ≤ 9223372036854775807) (A : Option Addr) (n cap : Nat) (kb : List Int) (hA : Hid (Src w 1 A n (byteCells kb))) (hkb : kb.length = n) (hkr : Hid (∀ x ∈ kb, 0 ≤ x ∧ x ≤ 255)) (Ac : Option Addr) (m capc : Nat) (kc : List Int) (hAc : Hid (Src w 1 Ac m (byteCells kc))) (hkc : kc.length = m) (hn9 : n ≤ 140737488351232) (hm9 : m ≤ 140737488351232) :
    Calls Try.prog 4 #[.int .i64 at_, .slice A n cap, .slice Ac m capc] w fun e w' => e = .returned (.bool true) ∧ Below w.heap.size w w' := by
  by_cases hn : n ≤ 2000
  · have e1 : decide (2000 < (n : Int)) = false := decide_eq_false (by omega)
    have e1' : decide (2000 < n) = false := decide_eq_false (by omega)
    by_cases hm : m ≤ 2000
    · have e2 : decide (2000 < (m : Int)) = false := decide_eq_false (by omega)
      have e2' : decide (2000 < m) = false := decide_eq_false (by omega)
      have D0 := fun W A hA => Lib.hid (newc_any W A 1 1 S2 C2 hA (fun i hi => by simp [S2, C2]) (by omega) may2)
      rw [bufs2] at D0
      have D1 := fun W P (k : IsP W P [bz 0 0, bz 0 0]) => Lib.hid (get1 ▸ getp_any k len0 (by simp) 1)
      have D2 := fun W P (k : IsP W P [bw zs, bz 0 0]) => Lib.hid (get2 ▸ getp_any k len1 (by simp) 1)
      have hmk3 : ∀ W, (Instr.makeSlice 38 (.int .i64 3000) (.int .i64 3000)).run Try.prog W = .ok (.slice (some ⟨W.heap.size, 0, none⟩) 3000 3000) (W.alloc (.cells (madeCells #[.int .u8 0] 3000) 5)) := fun W =>
        run_make_row' 38 5 (.int .u8 0) 1 Try.underlying38 infoByte rfl .i64 .i64 3000 (by omega) (by omega) W
      by_cases hf : fits at_ n
      · obtain ⟨a, rfl⟩ : ∃ a : Nat, at_ = a := ⟨at_.toNat, by unfold fits at hf; omega⟩
        obtain ⟨r, hr⟩ : ∃ r, a + n + r = 3000 := ⟨3000 - a - n, by unfold fits at hf; omega⟩
        have f1 : decide ((0 : Int) ≤ a) = true := decide_eq_true (by omega)
        have f2 : decide ((a : Int) ≤ 3000) = true := decide_eq_true (by omega)
        have f3 : decide ((n : Int) ≤ 3000 - a) = true := decide_eq_true (by omega)
        have f4 : (a : Int) ≤ 3000 := by omega
        have f5 : (a : Int) + n ≤ 3000 := by omega
        have hfit : a + kb.length ≤ 3000 := by omega
        have rlen : 3000 - a - kb.length = r := by omega
        have hD := over_len hfit
        have W1 := fun W P (k : IsP W P [bw zs, bw zs]) (hs : Src W 1 A n (byteCells kb)) => Lib.hid (show Calls Try.prog 14 #[.pointer (some ⟨P.p, 0, none⟩), .agg #[.int .i64 0, .int .u64 1], .int .i64 1, .int .i64 a, .slice A n cap] W fun e w' => e = .returned (.int .i64 0) ∧ IsP w' P [bw (over zs a kb), bw zs] ∧ Only P.own W w' from by
          have := writep_any k 0 1 1 a kb A cap (len_of zs_len zs_len) (by rw [hkb]; omega) (by omega) (by omega) (by rw [hkb]; exact hs)
          rw [write_yes hfit] at this
          rw [hkb] at this
          exact this)
        have R1 := fun W P (k : IsP W P [bw (over zs a kb), bw zs]) => Lib.hid (show Calls Try.prog 15 #[.pointer (some ⟨P.p, 0, none⟩), .agg #[.int .i64 0, .int .u64 1], .int .i64 a, .int .i64 n] W fun e w' => ∃ A c, e = .returned (.tuple #[.slice A n c, .int .i64 0]) ∧ Slc w' 5 1 (.slice A n c) n (byteCells kb) ∧ (∀ g, (Value.slice A n c).ownBlock = some g → W.heap.size ≤ g) ∧ IsP w' P [bw (over zs a kb), bw zs] ∧ Below W.heap.size W w' from by
          have := read_mid hfit
          rw [hkb] at this
          exact read_is k 0 1 a n (len_of hD zs_len) (by omega) (by omega) (by omega) (by omega) this hkb)
        have R2 := fun W P (k : IsP W P [bw (over zs a kb), bw zs]) => Lib.hid (read_is k 0 1 0 a (len_of hD zs_len) (by omega) (by omega) (by omega) (by omega) (read_low hfit) (show (List.replicate a (0 : Int)).length = a from List.length_replicate))
        have R3 := fun W P (k : IsP W P [bw (over zs a kb), bw zs]) => Lib.hid (show Calls Try.prog 15 #[.pointer (some ⟨P.p, 0, none⟩), .agg #[.int .i64 0, .int .u64 1], .int .i64 (a + n), .int .i64 (3000 - a - n)] W fun e w' => ∃ A c, e = .returned (.tuple #[.slice A r c, .int .i64 0]) ∧ Slc w' 5 1 (.slice A r c) r (byteCells (List.replicate r 0)) ∧ (∀ g, (Value.slice A r c).ownBlock = some g → W.heap.size ≤ g) ∧ IsP w' P [bw (over zs a kb), bw zs] ∧ Below W.heap.size W w' from by
          have := read_high hfit
          rw [rlen, hkb] at this
          exact read_is k 0 1 (a + n) (3000 - a - n) (len_of hD zs_len) (by omega) (by omega) (by omega) (by omega) this List.length_replicate)
        have R5 := fun W P (k : IsP W P [bw (over zs a kb), bw zs]) => Lib.hid (read_is k 1 1 0 3000 (len_of hD zs_len) (by omega) (by omega) (by omega) (by omega) read_other zs_len)
        have W2 := fun W P (k : IsP W P [bw (over zs a kb), bw zs]) (hs : Src W 1 Ac m (byteCells kc)) => Lib.hid (show Calls Try.prog 14 #[.pointer (some ⟨P.p, 0, none⟩), .agg #[.int .i64 1, .int .u64 1], .int .i64 1, .int .i64 0, .slice Ac m capc] W fun e w' => e = .returned (.int .i64 0) ∧ Only P.own W w' from by
          have := writep_any k 1 1 1 0 kc Ac capc (len_of hD zs_len) (by rw [hkc]; omega) (by omega) (by omega) (by rw [hkc]; exact hs)
          rw [write_other (by omega)] at this
          rw [hkc] at this
          exact this.mono fun e w' h => ⟨h.1, h.2.2⟩)
        have hmka := fun W => made_is a (by omega) W
        have hmkr := fun W => made_is r (by omega) W
        have ha9 : a ≤ 3000 := by omega
        have hr9 : r ≤ 3000 := by omega
        generalize over zs a kb = D at *
        clear hf rlen hD hfit hr
        go_enter Try.func4, Try.ntmps4
        go_wp2_with (first
| (go_at_call 8; (with_reducible refine Calls.mono (awake_any _) ?_); rintro e w0 ⟨rfl, b0⟩; have B0 := Lib.hid b0; have CL := Lib.hid (cls2 w0); clear b0)
| (go_at_call 10; (with_reducible refine Calls.mono (D0 _ _ CL).out ?_); rintro e w1 ⟨p, rfl, hm⟩; obtain ⟨P, hP, bel⟩ := Pool.of_made hm; have hb0 := B0.out.size; have K1 := Lib.hid hP.is; have LOW := Lib.hid (fun i (h : P.own i) => show w.heap.size ≤ i by have := hP.low i (.inr (.inr h)); simp only [World.size_alloc] at this; omega); have B1 := Lib.hid (Below.next (B0.out.alloc hb0 _) bel); obtain rfl := hP.p; clear hm hP bel)
| (go_at_call 12; (with_reducible refine Calls.mono (D1 _ _ K1.out).out ?_); rintro e w2 ⟨rfl, k2, o2⟩; have LT := Lib.hid (fun i (h : P.own i) => Nat.lt_of_lt_of_le (K1.out.lt (.inr (.inr h))) o2.size); have K2 := Lib.hid k2; have B2 := Lib.hid (Below.onlyF B1.out o2 LOW.out); have NO : Hid (¬ P.own w2.heap.size) := fun h => by { have := LT.out _ h; omega }; clear k2 o2)
| (go_at_call 12; (with_reducible refine Calls.mono (D2 _ _ (K2.out.alloc _)).out ?_); rintro e w3 ⟨rfl, k3, o3⟩; have s3 := o3.size; simp only [World.size_alloc] at s3; have NO3 : Hid (¬ P.own w3.heap.size) := fun h => by { have := LT.out _ h; omega }; have H4 := Lib.hid (((Blk.new w2 34 [.int .i64 0, .int .u64 1]).only o3 NO.out).alloc (.cells #[.int .i64 1, .int .u64 1] 34)); have G4 := Lib.hid (Blk.new w3 34 [.int .i64 1, .int .u64 1]); have K4 := Lib.hid (k3.alloc (.cells #[.int .i64 1, .int .u64 1] 34)); have b3 := Below.onlyF (B2.out.alloc B2.out.size _) o3 LOW.out; have B4 := Lib.hid (b3.alloc b3.size (.cells #[.int .i64 1, .int .u64 1] 34)); have SA4 := Lib.hid (hA.out.below B4.out); have SC4 := Lib.hid (hAc.out.below B4.out); have c30 : w3.cell? ⟨w2.heap.size, 0, none⟩ = some (.int .i64 0) := ((Blk.new w2 34 [.int .i64 0, .int .u64 1]).only o3 NO.out).cell 0; have c31 : w3.cell? ⟨w2.heap.size, 1, none⟩ = some (.int .u64 1) := ((Blk.new w2 34 [.int .i64 0, .int .u64 1]).only o3 NO.out).cell 1; have hlt3 : w2.heap.size < w3.heap.size := by { omega }; clear k3 o3 b3)

          | (go_at_call 14; (with_reducible refine Calls.mono (W1 _ _ K4.out (SA4.out)).out ?_); rintro e w5 ⟨rfl, k5, o5⟩
             have h5 := H4.out.only o5 NO.out
             have g5 := G4.out.only o5 NO3.out
             have c50 : w5.cell? ⟨w2.heap.size, 0, none⟩ = some (.int .i64 0) := h5.cell 0
             have c51 : w5.cell? ⟨w2.heap.size, 1, none⟩ = some (.int .u64 1) := h5.cell 1
             have H5 := Lib.hid h5
             have G5 := Lib.hid g5
             have K5 := Lib.hid k5
             have B5 := Lib.hid (Below.onlyF B4.out o5 LOW.out)
             clear k5 o5 h5 g5)
          | (go_at_call 15; (with_reducible refine Calls.mono (R1 _ _ K5.out).out ?_); rintro e w6 ⟨A6, c6, rfl, hs6, low6, k6, o6⟩
             have h6 := H5.out.below o6 H5.out.lt
             have g6 := G5.out.below o6 G5.out.lt
             have c60 : w6.cell? ⟨w2.heap.size, 0, none⟩ = some (.int .i64 0) := h6.cell 0
             have c61 : w6.cell? ⟨w2.heap.size, 1, none⟩ = some (.int .u64 1) := h6.cell 1
             have H6 := Lib.hid h6
             have G6 := Lib.hid g6
             have S6 := Lib.hid hs6
             have LOW6 := Lib.hid low6
             have K6 := Lib.hid k6
             have B6 := Lib.hid (Below.next B5.out o6)
             clear k6 o6 hs6 h6 g6 low6)
          | (go_at_call 15; (with_reducible refine Calls.mono (R2 _ _ K6.out).out ?_); rintro e w7 ⟨A7, c7, rfl, hs7, -, k7, o7⟩
             have h7 := H6.out.below o7 H6.out.lt
             have g7 := G6.out.below o7 G6.out.lt
             have c70 : w7.cell? ⟨w2.heap.size, 0, none⟩ = some (.int .i64 0) := h7.cell 0
             have c71 : w7.cell? ⟨w2.heap.size, 1, none⟩ = some (.int .u64 1) := h7.cell 1
             have H7 := Lib.hid h7
             have G7 := Lib.hid g7
             have S7 := Lib.hid hs7
             have X7 := Lib.hid (loc (B := 0) S6.out o7)
             have K7 := Lib.hid k7
             have B7 := Lib.hid (Below.next B6.out o7)
             clear k7 o7 hs7 h7 g7)
          | (go_at_call 15; (with_reducible refine Calls.mono (R3 _ _ K7.out).out ?_); rintro e w8 ⟨A8, c8, rfl, hs8, -, k8, o8⟩
             have H8 := Lib.hid (H7.out.below o8 H7.out.lt)
             have G8 := Lib.hid (G7.out.below o8 G7.out.lt)
             have S8 := Lib.hid hs8
             have X8 := Lib.hid (loc (B := 0) X7.out o8)
             have Y8 := Lib.hid (loc (B := 0) S7.out o8)
             have K8 := Lib.hid k8
             have B8 := Lib.hid (Below.next B7.out o8)
             have SA8 := Lib.hid (hA.out.below B8.out)
             clear k8 o8 hs8)
          | (go_at_call 16; (with_reducible refine Calls.mono (same_is (src_of X8.out) SA8.out hn9) ?_); rintro e w9 ⟨rfl, o9⟩
             have O9 := Lib.hid o9
             clear o9)
          | (go_at_call 16; (with_reducible refine Calls.mono (same_is ((src_of (loc (B := 0) Y8.out O9.out)).alloc _) (src_made _ a) (by omega)) ?_); rintro e w10 ⟨rfl, o10⟩
             have O10 := Lib.hid (Below.next (O9.out.alloc O9.out.size _) o10)
             clear o10)
          | (go_at_call 16; (with_reducible refine Calls.mono (same_is ((src_of (loc (B := 0) S8.out O10.out)).alloc _) (src_made _ r) (by omega)) ?_); rintro e w11 ⟨rfl, o11⟩
             have O11 := Lib.hid (Below.next (O10.out.alloc O10.out.size _) o11)
             clear o11))
        have PLT : Hid (∀ i, P.all i → i < w5.heap.size) := fun i h => K5.out.lt h
        have HLT := H5.out.lt
        have GLT := G5.out.lt
        have BE := Lib.hid (Below.next B8.out O11.out)
        have XE := Lib.hid (loc (B := 0) X8.out O11.out)
        have KE := Lib.hid (K8.out.below O11.out)
        have HE := Lib.hid (H8.out.below O11.out H8.out.lt)
        have GE := Lib.hid (G8.out.below O11.out G8.out.lt)
        have B5L := B5.out.size
        clear D0 D1 D2 W1 R2 R3 hmka hmkr CL B0 K1 B1 LT K2 B2 H4 G4 K4 B4 SA4 SC4 c30 c31 H5 G5 c50 c51 B6 H6 G6 c60 c61 S6 K6 H7 G7 c70 c71 S7 X7 K7 B7 K5
        clear H8 G8 S8 X8 Y8 K8 SA8 O9 O10 O11 B8
        go_loopw [22] (fun iv wx => Hid (RelX w P [bw D, bw zs] w2.heap.size w3.heap.size 0 A6 n c6 iv wx)) (fun iv _ => n - (intOf iv).toNat)
        case atStart => exact ⟨0, kb, rfl, by omega, hkb, hkr.out, XE.out, KE.out, HE.out, GE.out, BE.out⟩
        case round =>
          clear XE KE HE GE BE
          obtain ⟨i, l, rfl, hi, hl, hlr, hS, kP, kH, kG, hbel⟩ := hrel
          have HS := Lib.hid hS
          have KP := Lib.hid kP
          have KH := Lib.hid kH
          have KG := Lib.hid kG
          have BEL := Lib.hid hbel
          have HLR := Lib.hid hlr
          by_cases hin : i < n
          · have hin2 : (i : Int) < n := by omega
            obtain ⟨g, off, c, e, -, -, hglt, hx, hfz⟩ := hS.at_ (by omega)
            injection e with e1 e2 e3
            subst e1 e3
            have hli : l[i]? = some (l[i]'(by omega)) := List.getElem?_eq_getElem _
            have hcell := hx i (.int .u8 (l[i]'(by omega))) (by unfold byteCells; rw [List.getElem?_map, hli]; rfl)
            have hr1 := hlr _ (List.mem_of_getElem? hli)
            have hfr := hfz (off + i)
            have hglow := LOW6.out g (by simp [Value.ownBlock])
            clear hS kP kH kG hbel hlr hx hfz
            generalize l[i]'(by omega) = x at *
            have hgo : ¬ P.all g := fun h => by have := PLT.out g h; omega
            have HGO := Lib.hid hgo
            clear hgo
            go_wp2_with fail
            go_roundw
            case rel =>
              have oo := Only.setCell (F := (· = g)) (Only.refl _ wr) (p := ⟨g, off + i, none⟩) (fun _ => rfl) (.int .u8 ((x + 1) % 256))
              refine ⟨i + 1, l.set i ((x + 1) % 256), by go_num, by omega, by simpa using hl, fun y hy => (List.mem_or_eq_of_mem_set hy).elim (HLR.out y) (fun e => by subst e; omega), ?_, KP.out.only oo (fun q hq h => HGO.out (hq ▸ h)), KH.out.far (p := ⟨g, off + i, none⟩) (show w2.heap.size ≠ g by omega) _, KG.out.far (p := ⟨g, off + i, none⟩) (show w3.heap.size ≠ g by omega) _, BEL.out.setCell (p := ⟨g, off + i, none⟩) (show w.heap.size ≤ g by omega) _⟩
              rw [← bytes_set]
              exact Slc.put HS.out rfl hin _
            case measure => simp [intOf]; omega
          · have hin2 : ¬ (i : Int) < n := by omega
            have c0 : wr.cell? ⟨w2.heap.size, 0, none⟩ = some (.int .i64 0) := kH.cell 0
            have c1 : wr.cell? ⟨w2.heap.size, 1, none⟩ = some (.int .u64 1) := kH.cell 1
            clear hS kP kH hbel hlr HS HLR
            go_wp2_with (first
              | (go_at_call 15; (with_reducible refine Calls.mono (R1 _ _ KP.out).out ?_); rintro e w6 ⟨A9, c9, rfl, hs6, low6, k6, o6⟩
                 have g6 := KG.out.below o6 KG.out.lt
                 have c60 : w6.cell? ⟨w3.heap.size, 0, none⟩ = some (.int .i64 1) := g6.cell 0
                 have c61 : w6.cell? ⟨w3.heap.size, 1, none⟩ = some (.int .u64 1) := g6.cell 1
                 have G6 := Lib.hid g6
                 have S6 := Lib.hid hs6
                 have K6 := Lib.hid k6
                 have B6 := Lib.hid (Below.next BEL.out o6)
                 clear k6 o6 hs6 g6 low6)
              | (go_at_call 15; (with_reducible refine Calls.mono (R5 _ _ K6.out).out ?_); rintro e w7 ⟨A7, c7, rfl, hs7, -, k7, o7⟩
                 have G7 := Lib.hid (G6.out.below o7 G6.out.lt)
                 have X7 := Lib.hid (loc (B := 0) S6.out o7)
                 have S7 := Lib.hid hs7
                 have K7 := Lib.hid k7
                 have B7 := Lib.hid (Below.next B6.out o7)
                 have SA7 := Lib.hid (hA.out.below B7.out)
                 have SC7 := Lib.hid (hAc.out.below B7.out)
                 clear k7 o7 hs7)
              | (go_at_call 16; (with_reducible refine Calls.mono (same_is (src_of X7.out) SA7.out hn9) ?_); rintro e w9 ⟨rfl, o9⟩
                 have O9 := Lib.hid o9
                 clear o9)
              | (go_at_call 16; (with_reducible refine Calls.mono (same_is ((src_of (loc (B := 0) S7.out O9.out)).alloc _) (src_made _ 3000) (by omega)) ?_); rintro e w10 ⟨rfl, o10⟩
                 have o10' := Below.next (O9.out.alloc O9.out.size _) o10
                 have g10 := G7.out.below o10' G7.out.lt
                 have d0 : w10.cell? ⟨w3.heap.size, 0, none⟩ = some (.int .i64 1) := g10.cell 0
                 have d1 : w10.cell? ⟨w3.heap.size, 1, none⟩ = some (.int .u64 1) := g10.cell 1
                 have O10 := Lib.hid o10'
                 clear o10 o10' g10)
              | (go_at_call 14; (with_reducible refine Calls.mono (W2 _ _ (K7.out.below O10.out) (SC7.out.below O10.out)).out ?_); rintro e w11 ⟨rfl, o11⟩
                 have B11 := Lib.hid (Below.onlyF (Below.next B7.out O10.out) o11 LOW.out)
                 clear o11))
            go_ret
            exact ⟨rfl, B11.out⟩
      · have W1 := fun W P (k : IsP W P [bw zs, bw zs]) (hs : Src W 1 A n (byteCells kb)) => Lib.hid (show Calls Try.prog 14 #[.pointer (some ⟨P.p, 0, none⟩), .agg #[.int .i64 0, .int .u64 1], .int .i64 1, .int .i64 at_, .slice A n cap] W fun e w' => e = .returned (.int .i64 1) ∧ IsP w' P [bw zs, bw zs] ∧ Only P.own W w' from by
          have := writep_any k 0 1 1 at_ kb A cap (len_of zs_len zs_len) (by rw [hkb]; omega) a0 a1 (by rw [hkb]; exact hs)
          rw [write_no (by rw [hkb]; exact hf)] at this
          rw [hkb] at this
          exact this)
        have R1 := fun W P (k : IsP W P [bw zs, bw zs]) => Lib.hid (read_is k 0 1 0 3000 (len_of zs_len zs_len) (by omega) (by omega) (by omega) (by omega) read_all zs_len)
        have SM := fun W B c d (hb : Src W 1 B 3000 (byteCells zs)) (B' : Option Addr) (hb' : Src W 1 B' 3000 (byteCells (List.replicate 3000 0))) => Lib.hid (show Calls Try.prog 16 #[.slice B 3000 c, .slice B' 3000 d] W fun e w' => e = .returned (.bool true) ∧ Below W.heap.size W w' from by
          have := same_any W B B' 3000 3000 c d zs (List.replicate 3000 0) hb hb' (by omega) (by omega)
          rw [decide_eq_true zs_self.symm] at this
          exact this)
        have hff : (decide (0 ≤ at_) = false) ∨ (decide (0 ≤ at_) = true ∧ decide (at_ ≤ 3000) = false) ∨ (decide (0 ≤ at_) = true ∧ decide (at_ ≤ 3000) = true ∧ decide ((n : Int) ≤ 3000 - at_) = false) := by
          unfold fits at hf
          simp
          omega
        clear hf
        rcases hff with f1 | ⟨f1, f2⟩ | ⟨f1, f2, f3⟩
        all_goals
          try have q1 : 0 ≤ at_ := of_decide_eq_true f1
          try have q2 : at_ ≤ 3000 := of_decide_eq_true f2
          go_enter Try.func4, Try.ntmps4
          go_wp2_with (first
| (go_at_call 8; (with_reducible refine Calls.mono (awake_any _) ?_); rintro e w0 ⟨rfl, b0⟩; have B0 := Lib.hid b0; have CL := Lib.hid (cls2 w0); clear b0)
| (go_at_call 10; (with_reducible refine Calls.mono (D0 _ _ CL).out ?_); rintro e w1 ⟨p, rfl, hm⟩; obtain ⟨P, hP, bel⟩ := Pool.of_made hm; have hb0 := B0.out.size; have K1 := Lib.hid hP.is; have LOW := Lib.hid (fun i (h : P.own i) => show w.heap.size ≤ i by have := hP.low i (.inr (.inr h)); simp only [World.size_alloc] at this; omega); have B1 := Lib.hid (Below.next (B0.out.alloc hb0 _) bel); obtain rfl := hP.p; clear hm hP bel)
| (go_at_call 12; (with_reducible refine Calls.mono (D1 _ _ K1.out).out ?_); rintro e w2 ⟨rfl, k2, o2⟩; have LT := Lib.hid (fun i (h : P.own i) => Nat.lt_of_lt_of_le (K1.out.lt (.inr (.inr h))) o2.size); have K2 := Lib.hid k2; have B2 := Lib.hid (Below.onlyF B1.out o2 LOW.out); have NO : Hid (¬ P.own w2.heap.size) := fun h => by { have := LT.out _ h; omega }; clear k2 o2)
| (go_at_call 12; (with_reducible refine Calls.mono (D2 _ _ (K2.out.alloc _)).out ?_); rintro e w3 ⟨rfl, k3, o3⟩; have s3 := o3.size; simp only [World.size_alloc] at s3; have NO3 : Hid (¬ P.own w3.heap.size) := fun h => by { have := LT.out _ h; omega }; have H4 := Lib.hid (((Blk.new w2 34 [.int .i64 0, .int .u64 1]).only o3 NO.out).alloc (.cells #[.int .i64 1, .int .u64 1] 34)); have G4 := Lib.hid (Blk.new w3 34 [.int .i64 1, .int .u64 1]); have K4 := Lib.hid (k3.alloc (.cells #[.int .i64 1, .int .u64 1] 34)); have b3 := Below.onlyF (B2.out.alloc B2.out.size _) o3 LOW.out; have B4 := Lib.hid (b3.alloc b3.size (.cells #[.int .i64 1, .int .u64 1] 34)); have SA4 := Lib.hid (hA.out.below B4.out); have SC4 := Lib.hid (hAc.out.below B4.out); have c30 : w3.cell? ⟨w2.heap.size, 0, none⟩ = some (.int .i64 0) := ((Blk.new w2 34 [.int .i64 0, .int .u64 1]).only o3 NO.out).cell 0; have c31 : w3.cell? ⟨w2.heap.size, 1, none⟩ = some (.int .u64 1) := ((Blk.new w2 34 [.int .i64 0, .int .u64 1]).only o3 NO.out).cell 1; have hlt3 : w2.heap.size < w3.heap.size := by { omega }; clear k3 o3 b3)

            | (go_at_call 14; (with_reducible refine Calls.mono (W1 _ _ K4.out (SA4.out)).out ?_); rintro e w5 ⟨rfl, k5, o5⟩
               have h5 := H4.out.only o5 NO.out
               have c50 : w5.cell? ⟨w2.heap.size, 0, none⟩ = some (.int .i64 0) := h5.cell 0
               have c51 : w5.cell? ⟨w2.heap.size, 1, none⟩ = some (.int .u64 1) := h5.cell 1
               have K5 := Lib.hid k5
               have B5 := Lib.hid (Below.onlyF B4.out o5 LOW.out)
               clear k5 o5 h5)
            | (go_at_call 15; (with_reducible refine Calls.mono (R1 _ _ K5.out).out ?_); rintro e w6 ⟨A6, c6, rfl, hs6, -, k6, o6⟩
               have S6 := Lib.hid (src_of hs6)
               have B6 := Lib.hid (Below.next B5.out o6)
               clear k6 o6 hs6)
            | (go_at_call 16; (with_reducible refine Calls.mono (SM _ _ _ _ (S6.out.alloc _) _ (src_made _ _)).out ?_); rintro e w7 ⟨rfl, o7⟩
               have B7 := Lib.hid (Below.next (B6.out.alloc B6.out.size _) o7)
               clear o7))
          go_ret
          exact ⟨rfl, B7.out⟩
    · have e2 : decide (2000 < (m : Int)) = true := decide_eq_true (by omega)
      go_enter Try.func4, Try.ntmps4
      go_wp2_with (go_at_call 8; (with_reducible refine Calls.mono (awake_any _) ?_); rintro e w0 ⟨rfl, b0⟩; have B0 := Lib.hid b0; clear b0)
      go_ret
      exact ⟨rfl, B0.out⟩
  · have e1 : decide (2000 < (n : Int)) = true := decide_eq_true (by omega)
    go_enter Try.func4, Try.ntmps4
    go_wp2_with (go_at_call 8; (with_reducible refine Calls.mono (awake_any _) ?_); rintro e w0 ⟨rfl, b0⟩; have B0 := Lib.hid b0; clear b0)
    go_ret
    exact ⟨rfl, B0.out⟩
theorem walk (w : World) (at_ : Int) (wa : (Lit.int .i64 at_).wf = true) (A : Option Addr) (n cap : Nat) (D : Nat → List Value) (w1 : Elems w [some .u8] A n D) (hl : n * 1 ≤ 140737488351232) (A2 : Option Addr) (m cap2 : Nat) (D2 : Nat → List Value) (w2 : Elems w [some .u8] A2 m D2) (hl2 : m * 1 ≤ 140737488351232) :
    Calls Try.prog 4 #[.int .i64 at_, .slice A n cap, .slice A2 m cap2] w fun e w' => e = .returned (.bool true) ∧ Below w.heap.size w w' := by
  obtain ⟨U, hA, hU⟩ := ints_of w1
  obtain ⟨V, hB, hV⟩ := ints_of w2
  exact walk2 w at_ (bounds_i64 wa).1 (bounds_i64 wa).2 A n cap _ (src_of_ints hA) (by simp) (fun x hx => by
    obtain ⟨i, hi, rfl⟩ := List.mem_map.1 hx
    exact bounds_u8 (hU i (by simpa using hi))) A2 m cap2 _ (src_of_ints hB) (by simp) (by omega) (by omega)
end poolBytes
namespace poolBytes
theorem own : ownKnob Try.prog.godebug = none := by kernel_rfl
set_option maxRecDepth 100000 in
theorem lifted (os : Os) (started : os.Started) (H : Type) (enc : TypeId × Value → H) :
    ReturnsInHanded {} Try.checked os 4 .any (Rows.poolBytesSpec.pre6 enc Try.prog Try.f4 Rows.poolBytesRow.domain false) (Rows.poolBytesSpec.post enc Try.prog Try.f4 false true false false) := by
  refine returnsInHanded_of_change_sized (C := Try.checked) own started (by kernel_rfl) Try.func4
    (ChangeSpec.witness6 (enc := enc) (C := Try.checked) false ⟨#[], #[.int .i64 0, .slice none 0 0, .slice none 0 0], []⟩ 8 (by kernel_rfl) (by kernel_rfl) (by kernel_rfl) (by kernel_rfl)) ?_
  intro W base args ds gs before hval0 hW hcnd hsz0 _
  have hsz : (DataW.weightsEach Try.prog (Try.f4.params.toList ++ Rows.poolBytesSpec.plain.varTypes Try.prog) (ds ++ gs)).all (· ≤ reachBytes) = true := hsz0
  have hval : ∀ (j : Nat) t v, Try.f4.params[j]? = some t → args[j]? = some v → Value.okWide Try.prog W .any base t v := hval0
  have hW' := hW
  obtain ⟨p, q, hA0, hV, rfl, hfz, hnd⟩ := hW
  have hA : DataW.TrodAll enc Try.prog W 0 (fun _ => true) true Try.f4.params.toList args.toList ds p := hA0
  rw [Try.params4] at hA hval hsz
  obtain ⟨v0, vs0, d0, ds0, p0, q0, hargs, rfl, rfl, h0, r0⟩ := trodAll_cons hA
  obtain ⟨v1, vs1, d1, ds1, p1, q1, rfl, rfl, rfl, h1, r1⟩ := trodAll_cons r0
  obtain ⟨v2, vs2, d2, ds2, p2, q2, rfl, rfl, rfl, h2, r2⟩ := trodAll_cons r1
  obtain ⟨rfl, rfl, rfl⟩ := trodAll_nil r2
  obtain rfl : args = #[v0, v1, v2] := by cases args; simp_all
  obtain ⟨rfl, rfl⟩ := trodVars_none hV
  obtain ⟨a0, rfl, w0⟩ := arg_one Try.underlying3 (hval 0 3 v0 rfl rfl) h0
  obtain ⟨A1, n1, cap1, D1, rfl, w1, m1, z1⟩ := arg_slice [some .u8] Try.underlying38 6 (by kernel_rfl) (by kernel_rfl) (hval 1 38 v1 rfl rfl) h1
  have l1 : n1 * Try.prog.bytesOf 5 ≤ reachBytes := by
    rcases z1 with ⟨_, e⟩ | ⟨es, sp, e, el⟩
    · subst e; simp
    · subst e; subst el; exact Nat.le_trans (Nat.mul_le_mul_right _ (Nat.le_add_right _ _)) (sized_slice hsz (j := 1) (t := 38) (e := 5) rfl rfl Try.underlying38)
  have b1 : Try.prog.bytesOf 5 = 1 := by kernel_rfl
  rw [b1] at l1
  simp only [reachBytes] at l1
  clear z1 b1
  obtain ⟨A2, n2, cap2, D2, rfl, w2, m2, z2⟩ := arg_slice [some .u8] Try.underlying38 6 (by kernel_rfl) (by kernel_rfl) (hval 2 38 v2 rfl rfl) h2
  have l2 : n2 * Try.prog.bytesOf 5 ≤ reachBytes := by
    rcases z2 with ⟨_, e⟩ | ⟨es, sp, e, el⟩
    · subst e; simp
    · subst e; subst el; exact Nat.le_trans (Nat.mul_le_mul_right _ (Nat.le_add_right _ _)) (sized_slice hsz (j := 2) (t := 38) (e := 5) rfl rfl Try.underlying38)
  have b2 : Try.prog.bytesOf 5 = 1 := by kernel_rfl
  rw [b2] at l2
  simp only [reachBytes] at l2
  clear z2 b2
  clear hA0 hval0 hsz0 hsz
  refine (walk W a0 w0 A1 n1 cap1 D1 w1 l1 A2 n2 cap2 D2 w2 l2).mono fun e W' ⟨he, bel⟩ => ?_
  subst he
  exact ⟨_, rfl, _, _, _, [], _, [], hW', trodAll_mk1 (shut_bool Try.underlying4 _), (trodAll_cons_mk (Below.trod laidOut (by kernel_rfl) (of_decide_eq_true (by kernel_rfl)) h0 bel (fun x hx => by simpa using hW'.lt x (by simp [hx]))) (trodAll_cons_mk (Below.trod laidOut (by kernel_rfl) (of_decide_eq_true (by kernel_rfl)) h1 bel (fun x hx => by simpa using hW'.lt x (by simp [hx]))) (trodAll_cons_mk (Below.trod laidOut (by kernel_rfl) (of_decide_eq_true (by kernel_rfl)) h2 bel (fun x hx => by simpa using hW'.lt x (by simp [hx]))) trodAll_mk0))), rfl, bel.frame _, fun h => by cases h⟩
theorem over : Rows.poolBytesRow.holds Try.pinned (OpenSpec.ofChange Rows.poolBytesSpec) :=
  OpenClaim.holds_of_wide 4 Try.f4 rfl rfl rfl rfl rfl rfl rfl ⟨rfl, rfl, rfl, rfl, rfl⟩ rfl rfl rfl rfl rfl (by kernel_rfl) Try.func4 (by kernel_rfl)
    (of_decide_eq_true (by kernel_rfl)) (by unfold Func.isWrapper; first | (rw [if_pos (by decide +kernel)]; kernel_rfl) | (rw [if_neg (by decide +kernel)]; exact ⟨rfl, rfl⟩))
    (fun os started H enc _ => lifted os started H enc)
end poolBytes
theorem poolBytes_holds : Rows.PoolBytesSaid := poolBytes.over
#print axioms poolBytes_holds
end Go.Proofs.Ytbhpdljfkcdnbaa
