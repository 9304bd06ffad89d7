/- The row of PiecesWhole. -/
import Derived.Test.YtajcjepolfmhmaaPcArg
import Derived.Test.YtajcjepolfmhmaaPcLaw
import Derived.Test.YtajcjepolfmhmaaRZone
import Derived.Test.YtajcjepolfmhmaaPoolSame
import Derived.Test.YtajcjepolfmhmaaPiecesG
import Derived.Laws.BytesArg
import Derived.Deep.DeepCutAuto
import Derived.Test.YtajcjepolfmhmaaArg
import Derived.Test.YtajcjepolfmhmaaRows
import Derived.ProofKit
import Derived.OpenShut
import Derived.ShutString
import Derived.ChangeOld
import Derived.Below
import Derived.SizedLaws
namespace Go.Proofs.Ytajcjepolfmhmaa
open Go.ChangeShapes Go.WideShapes Go.ChangeAt Go.RowKit
open Go.ChangeMaps (open_string shut_string)
set_option linter.unusedVariables false
set_option linter.unusedSimpArgs false
namespace piecesWhole
def Post (w : World) (e : Ending) (w' : World) : Prop := e = .returned (.bool true) ∧ Below w.heap.size w w'
def zs (n : Nat) : List Int := List.replicate n 0
def bw (l : List Int) : Bf := ⟨1, 1, 1, l⟩
def S1 (n : Nat) (_ : Nat) : Int := n
def C1 (_ : Nat) : Int := 1
theorem zs_len (n : Nat) : (zs n).length = n := by simp [zs]
theorem bufs1 (n : Nat) : bufsOf (S1 n) C1 1 = [⟨1, 0, 0, zs n⟩] := by
  simp [bufsOf, S1, C1, zs]
theorem may1n (n : Nat) (h1 : 1 ≤ n) (h2 : n ≤ 100) : mayC 1 (S1 n) C1 := ⟨by omega, by omega, fun i hi => by
  obtain rfl : i = 0 := by omega
  simp only [okC, lastC, S1, C1]
  omega⟩
theorem getn (n : Nat) (h1 : 1 ≤ n) : getP n [⟨1, 0, 0, zs n⟩] = ((0, 1, 0), [bw (zs n)]) := by
  have h3 := zs_len n
  unfold getP firstP
  have c : ¬ ((n : Int) < 1 ∨ (([(⟨1, 0, 0, zs n⟩ : Bf)].getLast?.map fun b => (b.bytes.length : Int)).getD 0) < n) := by
    simp [h3]; omega
  rw [if_neg c]
  simp [List.findIdx?_cons, h3, bw]
  rfl
def ps1 (f n : Int) : List Pc := [⟨0, 1, f, n⟩]
theorem look1 (l : List Int) : look [bw l] 0 1 = some (0, bw l) := by rfl
theorem size1 (l : List Int) : sizeQ 0 1 [bw l] = ((l.length : Int), 0) := by unfold sizeQ; rw [look1]; rfl
theorem may1w (l : List Int) (f n : Int) (h0 : 0 ≤ f) (h1 : 1 ≤ n) (h2 : f + n ≤ l.length) : may1 [bw l] ⟨0, 1, f, n⟩ = true := by
  unfold may1
  rw [size1]
  simp
  omega
theorem may1w_no (l : List Int) (f n : Int) (h2 : (l.length : Int) < f + n) : may1 [bw l] ⟨0, 1, f, n⟩ = false := by
  unfold may1
  rw [size1]
  simp
  omega
theorem mayw (l : List Int) (f n : Int) (h0 : 0 ≤ f) (h1 : 1 ≤ n) (h2 : f + n ≤ l.length) : mayL [bw l] (ps1 f n) := by
  refine ⟨fun j x hj hx => ?_, by simp [ps1], by simp [ps1]⟩
  obtain rfl : j = 0 := by simp [ps1] at hj; omega
  injection hx with hx
  subst hx
  exact ⟨may1w l f n h0 h1 h2, rfl⟩
theorem mayw_no (l : List Int) (f n : Int) (h2 : (l.length : Int) < f + n) : ¬ mayL [bw l] (ps1 f n) := fun h => by
  have := (h.1 0 ⟨0, 1, f, n⟩ (by simp [ps1]) rfl).1
  rw [may1w_no l f n h2] at this
  cases this
theorem mayw_two (l : List Int) (n : Int) (h1 : 1 ≤ n) (h2 : n ≤ 1000) : ¬ mayL [bw l] [⟨0, 1, 0, n⟩, ⟨0, 1, 0, n⟩] := fun h => by
  have := (h.1 1 ⟨0, 1, 0, n⟩ (by simp) rfl).2
  unfold anyB meetF sameB at this
  have e : IntKind.i64.wrap n = n := IntWalk.i64_in _ (by omega)
  simp [e] at this
  omega
theorem ownw (l : List Int) : ∀ b ∈ [bw l], b.own = 0 ∨ b.own = 1 := fun b hb => by
  simp at hb; subst hb; exact .inr rfl
/-- What stands in the buffer behind the writing. -/
def now (n : Nat) (L : List Int) : List Int := L.take n ++ (zs n).drop L.length
theorem now_len (n : Nat) (L : List Int) : (now n L).length = n := by unfold now; simp [zs_len]; omega
theorem scatw (n : Nat) (L : List Int) (h1 : 1 ≤ n) (h2 : n ≤ 100) : scatF (ps1 0 n) 1 L [bw (zs n)] 1 = [bw (now n L)] := by
  unfold scatF
  simp only [List.range_succ, List.range_zero, List.nil_append, List.foldl_cons, List.foldl_nil]
  show (if (L.length : Int) ≤ 0 then [bw (zs n)] else (writeQ 0 1 1 0 (partB L 0 n) [bw (zs n)]).2) = [bw (now n L)]
  split
  · rename_i c
    obtain rfl : L = [] := List.length_eq_zero_iff.1 (by omega)
    simp [now]
  · rename_i c
    rw [partB_take (by omega) (by omega)]
    unfold writeQ
    rw [look1]
    simp only
    have hk : ((L.drop (0 : Int).toNat).take (n : Int).toNat) = L.take n := by simp
    rw [hk, writeB_of (b := bw (zs n)) (by_ := 1) (at_ := 0) (show mayOwn 1 = true by decide) rfl (by omega) (by simp [bw, zs_len]; omega)]
    show [bw (over (zs n) (0 : Int).toNat (L.take n))] = _
    unfold over now
    simp only [Int.toNat_zero, List.take_zero, List.nil_append, Nat.zero_add, List.length_take]
    congr 3
    by_cases c2 : n ≤ L.length
    · rw [Nat.min_eq_left c2, List.drop_eq_nil_of_le (by rw [zs_len]; omega), List.drop_eq_nil_of_le (by rw [zs_len]; omega)]
    · rw [Nat.min_eq_right (by omega)]
theorem readw (n : Nat) (l : List Int) (hl : l.length = n) : readQ 0 1 0 n [bw l] = (some l, 0) := by
  unfold readQ
  rw [look1]
  simp only
  unfold readB
  rw [if_neg (by simp [bw]; omega)]
  simp only [bw, Int.toNat_zero, List.drop_zero, Int.toNat_natCast]
  rw [List.take_of_length_le (by omega)]
theorem gathw (n : Nat) (l : List Int) (hl : l.length = n) : gatherF [bw l] (ps1 0 n) 1 = l := by
  simp only [gatherF, ps1, List.getElem?_cons_zero]
  unfold readL
  simp only
  rw [readw n l hl]
  rfl
theorem atw (n : Nat) (h2 : n ≤ 100) : atP (ps1 0 n) 1 = n := by
  simp only [atP, ps1, List.getElem?_cons_zero, lenP]
  rw [if_neg (by omega), if_neg (by omega)]
  omega
theorem lenw (l : List Int) (h : l.length ≤ 65536) : ∀ b ∈ [bw l], b.bytes.length ≤ 65536 := fun b hb => by simp at hb; subst hb; exact h
theorem now_take (n : Nat) (L : List Int) : (now n L).take (min n L.length) = L.take (min n L.length) := by
  unfold now
  rw [List.take_append_of_le_length (by simp)]
  rw [List.take_take]
  congr 1
  omega
theorem gath_is {n : Nat} {l : List Int} {A : Option Addr} {m c : Nat} {code : Int} {W W' : World} (hl : l.length = n) (h1 : 1 ≤ n) (h : (¬ mayL [bw l] (ps1 0 n) ∧ code = 1 ∧ Value.slice A m c = .slice none 0 0) ∨ (mayL [bw l] (ps1 0 n) ∧ code = 0 ∧ m = (gatherF [bw l] (ps1 0 n) (ps1 0 n).length).length ∧ Slc W' 5 1 (.slice A m c) m (byteCells (gatherF [bw l] (ps1 0 n) (ps1 0 n).length)) ∧ ∀ g, (Value.slice A m c).ownBlock = some g → W.heap.size ≤ g)) :
    code = 0 ∧ m = n ∧ Slc W' 5 1 (.slice A n c) n (byteCells l) := by
  have hg : gatherF [bw l] (ps1 0 n) (ps1 0 n).length = l := gathw n l hl
  rcases h with ⟨h, -⟩ | ⟨-, h2, h3, h4, -⟩
  · exact absurd (mayw l 0 n (by omega) (by omega) (by omega)) h
  · rw [hg] at h3 h4
    obtain rfl : m = n := by omega
    exact ⟨h2, rfl, h4⟩
theorem scat_is {n : Nat} {L : List Int} {r : Int × Int × List Bf} (h1 : 1 ≤ n) (h2 : n ≤ 100) (h : scatQ [bw (zs n)] (ps1 0 n) 1 L r) : r = (((min n L.length : Nat) : Int), 0, [bw (now n L)]) := by
  have hm := mayw (zs n) 0 n (by omega) (by omega) (by rw [zs_len]; omega)
  rcases h with ⟨h, -⟩ | ⟨-, h, -⟩ | ⟨-, -, h⟩
  · exact absurd hm h
  · rw [all_by (ownw _) hm] at h; cases h
  · rw [h]
    have e : (ps1 0 (n : Int)).length = 1 := rfl
    rw [e, atw n h2, scatw n L h1 h2]
    have : (if (n : Int) < (L.length : Int) then (n : Int) else (L.length : Int)) = ((min n L.length : Nat) : Int) := by split <;> omega
    rw [this]
theorem infoPc : (Try.prog.info? 42).map (fun i => (i.zero, i.size, i.bytes)) = some (some (.agg #[.int .i64 0, .int .u64 0, .int .i64 0, .int .i64 0]), 4, 32) := by kernel_rfl
theorem slc_blk {w : World} {g n size : Nat} {t : TypeId} {cs : List Value} (h : Blk w g t cs) (hl : cs.length = n * size) (hn : n ≤ maxLen) : Slc w t size (.slice (some ⟨g, 0, none⟩) n n) n cs :=
  ⟨hl, .inr ⟨g, 0, n, ⟨cs⟩, rfl, h, Nat.le_refl _, hn, by simp [hl], fun j u hu => by simpa using hu⟩⟩
theorem PsAt.of_slc {w : World} {t : TypeId} {A : Option Addr} {c m : Nat} {l : List Pc} (h : Slc w t 4 (.slice A m c) m (flatP l)) : PsAt w A l := by
  intro i x hx
  have hi := (List.getElem?_eq_some_iff.1 hx).1
  have hlen : ∀ l : List Pc, (flatP l).length = l.length * 4 := fun l => by induction l with
    | nil => rfl
    | cons y r ih => simp only [flatP, List.length_cons, ih]; omega
  have hm : 0 < m := by have := h.1; rw [hlen] at this; omega
  obtain ⟨g, off, c', e, -, -, hg, hc, -⟩ := h.at_ hm
  injection e with e1 e2 e3
  obtain ⟨h0, h1, h2, h3⟩ := flatP_at l i x hx
  exact ⟨g, off, e1, hg, hc _ _ h0, by have := hc _ _ h1; rwa [← Nat.add_assoc] at this, by have := hc _ _ h2; rwa [← Nat.add_assoc] at this, by have := hc _ _ h3; rwa [← Nat.add_assoc] at this⟩
theorem forgetZ {P : Program} {ops : Array Oper} {Q : Exit → Act → World → Prop} {md : Region.Mode} {S : World → Prop} {pre : Nat → Bool} {fuel : Nat} {listed : Array Bool} {a : Act} {W : World} {F : World → Prop} (hF : F W)
    (h : ∀ W', F W' → wpAnyZ P md ops Q S pre fuel listed a W') : wpAnyZ P md ops Q S pre fuel listed a W := h W hF
theorem step_append_slc' {P : Program} {w : World} {ops : Array Oper} {o : Oper} {a : Act} {K : Act → World → Prop} {Q : Exit → Act → World → Prop} {E : Prop} (hw : Region.wanted o (yielded ops a.tmps) = true) (s x : Operand) (t : TypeId)
    (ho : o.op = .call { callee := .builtin .append, args := #[s, x], argTypes := #[t, t] })
    (e : TypeId) (i : TypeInfo) (z : Value) (size bytes : Nat) (ht : P.underlying t = some (.slice e)) (hi : P.info? e = some i) (hz : i.zero = some z)
    (hsize : i.size = size) (hby : i.bytes = bytes) (hzs : z.cells.size = size) (hsz : 0 < size)
    (v : Value) (n : Nat) (xs : List Value) (hs : a.eval s = v) (hown : Slc w e size v n xs)
    (A : Option Addr) (m c : Nat) (news : List Value) (hx : a.eval x = .slice A m c) (hsrc : Src w size A m news) (h1 : ∀ u ∈ news, u.oneCell' = true)
    (hbytes : (n + m) * bytes ≤ 140737488355328) (h63 : n + m ≤ maxLen)
    (h : ∀ v' w', Slc w' e size v' (n + m) (xs ++ news) → Only (fun g => v.ownBlock = some g) w w' → (v'.ownBlock = v.ownBlock ∨ v'.ownBlock = some w.heap.size) → K (a.put o.dst v') w') :
    if Region.wanted o (yielded ops a.tmps) = true then Oper.wp P o a w K Q else E := by
  rw [if_pos hw]
  exact wp_append_slc w s x t ho e i z size bytes ht hi hz hsize hby hzs hsz v n xs hs hown A m c news hx hsrc h1 hbytes h63 h
def SW (w7 : World) (b : Nat) (W : World) : Prop := Only (fun g => g = b) w7 W
theorem add_zero_ {A : Option Addr} (h : ∀ a, A = some a → a.spot = none) : A.map (·.add 0) = A := by
  cases A with
  | none => rfl
  | some a =>
    obtain ⟨b, o, s⟩ := a
    have := h _ rfl
    simp only at this
    subst this
    simp [Addr.add]
theorem slice_hi' (A : Option Addr) (n c N : Nat) (hA : ∀ a, A = some a → a.spot = none) (hN : N ≤ c) (W : World) : (Instr.slice 23 (.slice A n c) none (some (.int .i64 N)) none).run Try.prog W = .ok (.slice A N c) W := by
  have hu : Try.prog.underlying 23 = some (.slice (Try.prog.elem 23)) := by kernel_rfl
  have hz : ∀ W', (sizeOf (Try.prog.elem 23)).run Try.prog W' = .ok 1 W' := fun W' => by kernel_rfl
  rw [run_slice_h (ht := hu) (kh := .i64) (h := (N : Int)) (h0 := by omega) (h2 := by omega), hz]
  simp only [Result.andThen, sliced, Int.toNat_natCast, Nat.zero_mul, Nat.sub_zero, add_zero_ hA, ite_self]
theorem src_take' {w : World} {A : Option Addr} {n m : Nat} {L : List Int} (h : Src w 1 A m (byteCells L)) (hn : n ≤ m) : Src w 1 A n (byteCells (L.take n)) := by
  have hl : L.length = m := by simpa [byteCells] using h.1
  refine ⟨by simp [byteCells]; omega, ?_⟩
  rcases h.2 with h0 | ⟨ad, e, hc⟩
  · exact .inl (by omega)
  · refine .inr ⟨ad, e, fun j u hu => ?_⟩
    have hj : j < n := by
      have := (List.getElem?_eq_some_iff.1 hu).1
      simp [byteCells] at this
      omega
    refine hc j u ?_
    rw [← hu]
    simp [byteCells, List.getElem?_take_of_lt hj]
theorem conv_src {W : World} {A : Option Addr} {n c : Nat} {L : List Int} (hA : ∀ a, A = some a → a.spot = none) (h : Src W 1 A n (byteCells L)) : (convert 23 9 (.slice A n c)).run Try.prog W = .ok (.string (strOfNums L)) W := by
  have hl : L.length = n := by simpa [byteCells] using h.1
  cases A with
  | none =>
    obtain rfl : n = 0 := by
      rcases h.2 with h0 | ⟨ad, e, -⟩
      · exact h0
      · cases e
    obtain rfl : L = [] := List.length_eq_zero_iff.1 hl
    exact run_convert_bytes_nil (P := Try.prog) W 23 5 Try.underlying23 Try.underlying5 0 c 9 Try.underlying9
  | some a =>
    obtain ⟨b, o, s⟩ := a
    have := hA _ rfl
    simp only at this
    subst this
    refine run_convert_bytes_arg (P := Try.prog) W 23 5 Try.underlying23 Try.underlying5 b o n c L hl (fun i hi => ?_) 9 Try.underlying9
    rcases h.2 with h0 | ⟨ad, e, hc⟩
    · omega
    · injection e with e
      subst e
      have hx : L[i]? = some (L.getD i 0) := by simp [List.getD, List.getElem?_eq_getElem (show i < L.length by omega)]
      have := hc i (.int .u8 (L.getD i 0)) (by simp only [byteCells, List.getElem?_map, hx, Option.map_some])
      rwa [Addr.add_lit] at this
theorem slc_src {w : World} {t : TypeId} {A : Option Addr} {m c : Nat} {xs : List Value} (h : Slc w t 1 (.slice A m c) m xs) : Src w 1 A m xs := by
  obtain ⟨A', c', e, hs⟩ := h.src
  injection e with e1 e2 e3
  subst e1
  exact hs
set_option maxRecDepth 100000 in
set_option maxHeartbeats 16000000 in
theorem walk2 (w : World) (a : Int) (ha0 : 0 ≤ a) (ha1 : a ≤ 255) (bA : Option Addr) (nb bc : Nat) (L : List Int) (hL : L.length = nb) (hs : Src w 1 bA nb (byteCells L)) (okb : CapOk w bA nb bc) (hb9 : nb ≤ 140737488351232) :
    Calls Try.prog 6 #[.int .u8 a, .slice bA nb bc] w (Post w) := by
  have HLB := Lib.hid hL
  have OKB := Lib.hid okb
  have HS := Lib.hid hs
  clear hs okb hL
  obtain ⟨n, hn⟩ : ∃ n : Nat, 1 + a % 100 = (n : Int) := ⟨(1 + a % 100).toNat, by omega⟩
  have hn1 : 1 ≤ n := by omega
  have hn2 : n ≤ 100 := by omega
  have ca : IntKind.i64.wrap a = a := IntWalk.i64_in _ (by omega)
  have cn : IntKind.i64.wrap (n : Int) = n := IntWalk.i64_in _ (by omega)
  go_enter Try.func6, Try.ntmps6
  go_wp2_with (go_at_call 7; (with_reducible refine Calls.mono (awake_any _) ?_); rintro e w0 ⟨rfl, b0⟩; have B0 := Lib.hid b0; clear b0)
  have CL : Hid (Cls (w0.alloc (.cells #[.int .i64 n, .int .i64 1] 48)) (some ⟨w0.heap.size, 0, none⟩) 1 (S1 n) C1) := fun j hj => by
    obtain rfl : j = 0 := by omega
    have K := Blk.new w0 48 [.int .i64 n, .int .i64 1]
    exact ⟨_, 0, rfl, K.lt, K.cell 0, K.cell 1⟩
  have NW := newc_any (w0.alloc (.cells #[.int .i64 n, .int .i64 1] 48)) (some ⟨w0.heap.size, 0, none⟩) 1 1 (S1 n) C1 CL (fun j hj => by simp [S1, C1]; omega) (by omega) (may1n n hn1 hn2)
  rw [bufs1] at NW
  have NWH := Lib.hid NW
  have B1 := Lib.hid (B0.out.alloc B0.out.size (.cells #[.int .i64 n, .int .i64 1] 48))
  clear CL NW
  go_at_call 15
  (with_reducible refine Calls.mono NWH.out ?_)
  rintro e w2 ⟨p, rfl, P, rfl, kP, hall, b2⟩
  have KP := Lib.hid kP
  have B2 := Lib.hid (Below.next B1.out b2)
  have ALL := Lib.hid (show ∀ i, P.all i → w.heap.size ≤ i from fun i h => Nat.le_trans B1.out.size (hall i h))
  clear kP b2 hall NWH B0 B1
  by_cases h2 : nb ≤ 200
  · have d2 : decide (200 < (nb : Int)) = false := decide_eq_false (by omega)
    have GT := getp_any KP.out (fun b hb => by simp at hb; subst hb; simp [zs_len]; omega) (by simp) n
    rw [getn n hn1] at GT
    have GTH := Lib.hid GT
    clear GT
    go_wp2_with fail
    go_at_call 18
    (with_reducible refine Calls.mono GTH.out ?_)
    rintro e w3 ⟨rfl, k3, o3⟩
    have B3 := (Below.onlyF B2.out o3 (fun i h => ALL.out i (.inr (.inr h))))
    have NP : Hid (∀ i, P.all i → i < w3.heap.size) := fun i h => k3.lt h
    have K4 := Lib.hid ((k3.alloc (.cells #[.int .i64 0, .int .u64 1] 40)).alloc (.cells #[.int .i64 0, .int .u64 1, .int .i64 0, .int .i64 n] 42))
    have B4 := Lib.hid ((B3.alloc B3.size (.cells #[.int .i64 0, .int .u64 1] 40)).alloc (by have := B3.size; simp; omega) (.cells #[.int .i64 0, .int .u64 1, .int .i64 0, .int .i64 n] 42))
    have q4 := Blk.new (w3.alloc (.cells #[.int .i64 0, .int .u64 1] 40)) 42 (flatP (ps1 0 n))
    rw [World.size_alloc] at q4
    have Q4 : Hid (Blk ((w3.alloc (.cells #[.int .i64 0, .int .u64 1] 40)).alloc (.cells #[.int .i64 0, .int .u64 1, .int .i64 0, .int .i64 n] 42)) (w3.heap.size + 1) 42 (flatP (ps1 0 n))) := q4
    have H4 : Hid (Blk ((w3.alloc (.cells #[.int .i64 0, .int .u64 1] 40)).alloc (.cells #[.int .i64 0, .int .u64 1, .int .i64 0, .int .i64 n] 42)) w3.heap.size 40 [.int .i64 0, .int .u64 1]) := (Blk.new w3 40 [.int .i64 0, .int .u64 1]).alloc _
    have SC := Lib.hid (HLB.out ▸ scatter_any K4.out (lenw _ (by rw [zs_len]; omega)) (some ⟨w3.heap.size + 1, 0, none⟩) 1 1 (ps1 0 n) rfl (by omega) (by omega) (PsAt.blk Q4.out) (fun a e => by injection e with e; subst e; exact ⟨Q4.out.lt, fun h => by have h2 : w3.heap.size + 1 < w3.heap.size := NP.out _ h; omega⟩) (fun h => by omega) 1 bA bc L (by have := HLB.out; omega) (by rw [HLB.out]; exact OKB.out.1) (by rw [HLB.out]; exact HS.out.keep fun p hp _ => B4.out.cell hp) (fun a e => ⟨(OKB.out.2 a e).1, Nat.lt_of_lt_of_le (OKB.out.2 a e).2 B4.out.size, fun h => by have := ALL.out _ h; have := (OKB.out.2 a e).2; omega⟩))
    clear q4 B3
    have HWW : Hid (w.heap.size ≤ w3.heap.size + 1) := by have := B2.out.size; have := o3.size; exact (show w.heap.size ≤ w3.heap.size + 1 by omega)
    clear k3 o3 GTH KP B2
    go_wp2_with fail
    go_at_call 10
    (with_reducible refine Calls.mono SC.out ?_)
    rintro e w5 ⟨rr, hr, rfl, k5, o5⟩
    obtain ⟨K, hK⟩ : ∃ K, min n L.length = K := ⟨_, rfl⟩
    have hr2 := scat_is hn1 hn2 hr
    rw [hK] at hr2
    obtain rfl := hr2
    have hlb := HLB.out
    have q1 : (if (nb : Int) < (n : Int) then (nb : Int) else (n : Int)) = K := by split <;> omega
    have q2 : (if nb < n then (nb : Int) else (n : Int)) = K := by split <;> omega
    have HK := Lib.hid hK
    clear hK hlb
    have K5 := Lib.hid k5
    have B5 := Lib.hid (Below.onlyF B4.out o5 (fun i h => ALL.out i (.inr (.inr h))))
    have Q5 := Lib.hid (Q4.out.only o5 (fun h => by have h2 : w3.heap.size + 1 < w3.heap.size := NP.out _ (.inr (.inr h)); omega))
    have H5 := Lib.hid (H4.out.only o5 (fun h => by have h2 : w3.heap.size < w3.heap.size := NP.out _ (.inr (.inr h)); omega))
    have GA := Lib.hid (gather_any k5 (lenw _ (by rw [now_len]; omega)) (some ⟨w3.heap.size + 1, 0, none⟩) 1 1 (ps1 0 n) rfl (by omega) (by omega) (PsAt.blk Q5.out) (by
      intro x hx
      have hx : x = ⟨0, 1, 0, n⟩ := by simpa [ps1] using hx
      subst hx
      exact ⟨⟨by simp, by simp⟩, ⟨by simp, by simp⟩, ⟨by simp, by simp⟩, by simp only; omega, by simp only; omega⟩) (fun h => by omega))
    clear k5 o5 hr SC K4 B4 Q4 H4
    go_wp2_with fail
    go_at_call 11
    (with_reducible refine Calls.mono GA.out ?_)
    rintro e w6 ⟨A6, m6, c6, code, rfl, b6, hq⟩
    obtain ⟨rfl, hm6, hs6⟩ := gath_is (now_len n L) hn1 hq
    have hm6 := hm6.symm
    subst hm6
    have K6 := Lib.hid (K5.out.below b6)
    have B6 := Lib.hid (Below.next B5.out b6)
    have Q6 := Lib.hid (Q5.out.below b6 Q5.out.lt)
    have H6 := Lib.hid (H5.out.below b6 H5.out.lt)
    have hz6 : (w6.cell? ⟨w3.heap.size, 0, none⟩) = some (.int .i64 0) := H6.out.cell 0
    have hy6 : (w6.cell? ⟨w3.heap.size, 1, none⟩) = some (.int .u64 1) := H6.out.cell 1
    have hl6 := H6.out.lt
    have S6 := Lib.hid hs6
    have RD := readp_any K6.out 0 1 0 n (lenw _ (by rw [now_len]; omega)) (by omega) (by omega) (by omega) (by omega)
    rw [readw n _ (now_len n L)] at RD
    have RDH := Lib.hid RD
    clear b6 hs6 hq GA RD K5 B5 Q5
    go_wp2_with fail
    go_at_call 19
    (with_reducible refine Calls.mono RDH.out ?_)
    rintro e w7 ⟨A7, m7, c7, rfl, hrd, k7, b7⟩
    have K7 := Lib.hid k7
    have B7 := Lib.hid (Below.next B6.out b7)
    have Q7 := Lib.hid (Q6.out.below b7 Q6.out.lt)
    have S7 := Lib.hid (S6.out.below b7 (fun g hg => S6.out.lt hg))
    have hm7 : n = m7 := by rw [(rd_src hrd).1]; exact (now_len n L).symm
    subst hm7
    have R7 : Hid (Slc w7 5 1 (.slice A7 n c7) n (byteCells (now n L))) := by
      have := hrd.1
      rwa [now_len] at this
    obtain ⟨g6, o6, cc6, e6, hc6, -, hg6, -⟩ := S7.out.at_ hn1
    injection e6 with e6 e6x e6'
    clear e6x
    subst e6 e6'
    obtain ⟨g7, o7, cc7, e7, hc7, -, hg7, -⟩ := R7.out.at_ hn1
    injection e7 with e7 e7x e7'
    clear e7x
    subst e7 e7'
    have H7 := Lib.hid (H6.out.below b7 H6.out.lt)
    have hz7 : (w7.cell? ⟨w3.heap.size, 0, none⟩) = some (.int .i64 0) := H7.out.cell 0
    have hy7 : (w7.cell? ⟨w3.heap.size, 1, none⟩) = some (.int .u64 1) := H7.out.cell 1
    have hl7 := H7.out.lt
    clear k7 b7 hrd RDH K6 B6 Q6 S6 H6 hz6 hy6 hl6
    go_upto_region 12 with (fail)
    have hk := HK.out
    have hlb := HLB.out
    have hK1 : K ≤ n := by omega
    have hK2 : K ≤ nb := by omega
    have N6 := Lib.hid (S7.out.ne Q7.out (by decide))
    have N7 := Lib.hid (R7.out.ne Q7.out (by decide))
    have C1 := Lib.hid (show ∀ W, SW w7 (w3.heap.size + 1) W → (convert 23 9 (.slice (some ⟨g6, o6, none⟩) n c6)).run Try.prog W = .ok (.string (strOfNums (now n L))) W from fun W b => conv_src (fun a e => by cases e; rfl) (slc_src (S7.out.only b (fun g hg e => N6.out (by rw [hg, e])))))
    have C2 := Lib.hid (show ∀ W, SW w7 (w3.heap.size + 1) W → (convert 23 9 (.slice (some ⟨g7, o7, none⟩) n c7)).run Try.prog W = .ok (.string (strOfNums (now n L))) W from fun W b => conv_src (fun a e => by cases e; rfl) (slc_src (R7.out.only b (fun g hg e => N7.out (by rw [hg, e])))))
    have C3 := Lib.hid (show ∀ W, SW w7 (w3.heap.size + 1) W → (convert 23 9 (.slice (some ⟨g6, o6, none⟩) K c6)).run Try.prog W = .ok (.string (strOfNums (L.take K))) W from fun W b => conv_src (fun a e => by cases e; rfl) (by
      have := src_take' (slc_src (S7.out.only b (fun g hg e => N6.out (by rw [hg, e])))) hK1
      rwa [← hk, now_take, hk] at this))
    have C4 := Lib.hid (show ∀ W, SW w7 (w3.heap.size + 1) W → (convert 23 9 (.slice bA K bc)).run Try.prog W = .ok (.string (strOfNums (L.take K))) W from fun W b => conv_src (fun a e => (OKB.out.2 a e).1) (src_take' (HS.out.keep fun p hp _ => (Below.onlyF B7.out b (fun i h => by have := HWW.out; omega)).cell hp) hK2))
    have sl1 := slice_hi' (some ⟨g6, o6, none⟩) n c6 K (fun a e => by cases e; rfl) (by omega)
    have sl2 := slice_hi' bA nb bc K (fun a e => (OKB.out.2 a e).1) (by have := OKB.out.1; omega)
    have g1 : IntKind.i64.wrap ((n : Int) + 1) = n + 1 := IntWalk.i64_in _ (by omega)
    have S0 : Hid (SW w7 (w3.heap.size + 1) w7.drew) := (Only.refl _ _).drew
    have MY := fun W (b : SW w7 (w3.heap.size + 1) W) (A : Option Addr) (m c : Nat) (l : List Pc) (hs : PsAt W A l) (hl : l.length = m) h16 hmc h0 => Lib.hid (mayl_any (K7.out.only b (fun i e hp => by have := NP.out i hp; omega)) (lenw _ (by rw [now_len]; omega)) A m c l hs hl h16 hmc h0)
    clear hk hlb hg6 hg7
    clear hz7 hy7
    refine wp_region_zone (SW w7 (w3.heap.size + 1)) (fun j => true) (by kernel_rfl) ?_
    simp only [List.append_eq, List.cons_append, List.nil_append]
    refine wpAnyZ_move (i := 0) (v := ?_) rfl (by kernel_rfl) (by kernel_rfl) (by kernel_rfl) (fun _ _ _ h => h) (Or.inl ⟨by rfl, ?_⟩) ?_
    (rotate_left 1; (focus (intro W; go_simp; try with_reducible rfl)))
    try simp only [Act.put, List.setIfInBounds_toArray, List.set_cons_zero, List.set_cons_succ, List.getElem_toArray, List.getElem_cons_succ, List.getElem_cons_zero]
    refine wpAnyZ_move (i := 1) (v := ?_) rfl (by kernel_rfl) (by kernel_rfl) (by kernel_rfl) (fun _ _ _ h => h) (Or.inl ⟨by rfl, ?_⟩) ?_
    (rotate_left 1; (focus (intro W; go_simp; try with_reducible rfl)))
    try simp only [Act.put, List.setIfInBounds_toArray, List.set_cons_zero, List.set_cons_succ, List.getElem_toArray, List.getElem_cons_succ, List.getElem_cons_zero]
    refine wpAnyZ_move (i := 2) (v := ?_) rfl (by kernel_rfl) (by kernel_rfl) (by kernel_rfl) (fun _ _ _ h => h) (Or.inl ⟨by rfl, ?_⟩) ?_
    (rotate_left 1; (focus (intro W; go_simp; try with_reducible rfl)))
    try simp only [Act.put, List.setIfInBounds_toArray, List.set_cons_zero, List.set_cons_succ, List.getElem_toArray, List.getElem_cons_succ, List.getElem_cons_zero]
    refine wpAnyZ_move (i := 3) (v := ?_) rfl (by kernel_rfl) (by kernel_rfl) (by kernel_rfl) (fun _ _ _ h => h) (Or.inl ⟨by rfl, ?_⟩) ?_
    (rotate_left 1; (focus (intro W; go_simp; try with_reducible rfl)))
    try simp only [Act.put, List.setIfInBounds_toArray, List.set_cons_zero, List.set_cons_succ, List.getElem_toArray, List.getElem_cons_succ, List.getElem_cons_zero]
    refine wpAnyZ_move (i := 4) (v := ?_) rfl (by kernel_rfl) (by kernel_rfl) (by kernel_rfl) (fun _ _ _ h => h) (Or.inl ⟨by rfl, ?_⟩) ?_
    (rotate_left 1; (focus (intro W; go_simp; try with_reducible rfl)))
    try simp only [Act.put, List.setIfInBounds_toArray, List.set_cons_zero, List.set_cons_succ, List.getElem_toArray, List.getElem_cons_succ, List.getElem_cons_zero]
    refine wpAnyZ_move (i := 5) (v := ?_) rfl (by kernel_rfl) (by kernel_rfl) (by kernel_rfl) (fun _ _ _ h => h) (Or.inl ⟨by rfl, ?_⟩) ?_
    (rotate_left 1; (focus (intro W; go_simp; try with_reducible rfl)))
    try simp only [Act.put, List.setIfInBounds_toArray, List.set_cons_zero, List.set_cons_succ, List.getElem_toArray, List.getElem_cons_succ, List.getElem_cons_zero]
    refine wpAnyZ_move (i := 6) (v := ?_) rfl (by kernel_rfl) (by kernel_rfl) (by kernel_rfl) (fun _ _ _ h => h) (Or.inl ⟨by rfl, ?_⟩) ?_
    (rotate_left 1; (focus (intro W; go_simp; try with_reducible rfl)))
    try simp only [Act.put, List.setIfInBounds_toArray, List.set_cons_zero, List.set_cons_succ, List.getElem_toArray, List.getElem_cons_succ, List.getElem_cons_zero]
    refine wpAnyZ_move (i := 7) (v := ?_) rfl (by kernel_rfl) (by kernel_rfl) (by kernel_rfl) (fun _ _ _ h => h) (Or.inl ⟨by rfl, ?_⟩) ?_
    (rotate_left 1; (focus (intro W; go_simp; try with_reducible rfl)))
    try simp only [Act.put, List.setIfInBounds_toArray, List.set_cons_zero, List.set_cons_succ, List.getElem_toArray, List.getElem_cons_succ, List.getElem_cons_zero]
    refine wpAnyZ_move (i := 8) (v := ?_) rfl (by kernel_rfl) (by kernel_rfl) (by kernel_rfl) (fun _ _ _ h => h) (Or.inl ⟨by rfl, ?_⟩) ?_
    (rotate_left 1; (focus (intro W; go_simp; try with_reducible rfl)))
    try simp only [Act.put, List.setIfInBounds_toArray, List.set_cons_zero, List.set_cons_succ, List.getElem_toArray, List.getElem_cons_succ, List.getElem_cons_zero]
    refine wpAnyZ_move (i := 9) (v := ?_) rfl (by kernel_rfl) (by kernel_rfl) (by kernel_rfl) (fun _ _ _ h => h) (Or.inl ⟨by rfl, ?_⟩) ?_
    (rotate_left 1; (focus (intro W; go_simp; try with_reducible rfl)))
    try simp only [Act.put, List.setIfInBounds_toArray, List.set_cons_zero, List.set_cons_succ, List.getElem_toArray, List.getElem_cons_succ, List.getElem_cons_zero]
    refine wpAnyZ_move (i := 10) (v := ?_) rfl (by kernel_rfl) (by kernel_rfl) (by kernel_rfl) (fun _ _ _ h => h) (Or.inl ⟨by rfl, ?_⟩) ?_
    (rotate_left 1; (focus (intro W; go_simp; try with_reducible rfl)))
    try simp only [Act.put, List.setIfInBounds_toArray, List.set_cons_zero, List.set_cons_succ, List.getElem_toArray, List.getElem_cons_succ, List.getElem_cons_zero]
    refine wpAnyZ_move (i := 11) (v := ?_) rfl (by kernel_rfl) (by kernel_rfl) (by kernel_rfl) (fun _ _ _ h => h) (Or.inl ⟨by rfl, ?_⟩) ?_
    (rotate_left 1; (focus (intro W; go_simp; try with_reducible rfl)))
    try simp only [Act.put, List.setIfInBounds_toArray, List.set_cons_zero, List.set_cons_succ, List.getElem_toArray, List.getElem_cons_succ, List.getElem_cons_zero]
    refine wpAnyZ_move (i := 12) (v := ?_) rfl (by kernel_rfl) (by kernel_rfl) (by kernel_rfl) (fun _ _ _ h => h) (Or.inl ⟨by rfl, ?_⟩) ?_
    (rotate_left 1; (focus (intro W; go_simp; try with_reducible rfl)))
    try simp only [Act.put, List.setIfInBounds_toArray, List.set_cons_zero, List.set_cons_succ, List.getElem_toArray, List.getElem_cons_succ, List.getElem_cons_zero]
    refine wpAnyZ_move (i := 13) (v := ?_) rfl (by kernel_rfl) (by kernel_rfl) (by kernel_rfl) (fun _ _ _ h => h) (Or.inl ⟨by rfl, ?_⟩) ?_
    (rotate_left 1; (focus (intro W; go_simp; try with_reducible rfl)))
    try simp only [Act.put, List.setIfInBounds_toArray, List.set_cons_zero, List.set_cons_succ, List.getElem_toArray, List.getElem_cons_succ, List.getElem_cons_zero]
    refine wpAnyZ_move (i := 14) (v := ?_) rfl (by kernel_rfl) (by kernel_rfl) (by kernel_rfl) (fun _ _ _ h => h) (Or.inl ⟨by rfl, ?_⟩) ?_
    (rotate_left 1; (focus (intro W; go_simp; try with_reducible rfl)))
    try simp only [Act.put, List.setIfInBounds_toArray, List.set_cons_zero, List.set_cons_succ, List.getElem_toArray, List.getElem_cons_succ, List.getElem_cons_zero]
    refine wpAnyZ_move (i := 15) (v := ?_) rfl (by kernel_rfl) (by kernel_rfl) (by kernel_rfl) (fun _ _ _ h => h) (Or.inl ⟨by rfl, ?_⟩) ?_
    (rotate_left 1; (focus (intro W; go_simp; try with_reducible rfl)))
    try simp only [Act.put, List.setIfInBounds_toArray, List.set_cons_zero, List.set_cons_succ, List.getElem_toArray, List.getElem_cons_succ, List.getElem_cons_zero]
    refine wpAnyZ_move (i := 16) (v := ?_) rfl (by kernel_rfl) (by kernel_rfl) (by kernel_rfl) (fun _ _ _ h => h) (Or.inl ⟨by rfl, ?_⟩) ?_
    (rotate_left 1; (focus (intro W; go_simp; try with_reducible rfl)))
    try simp only [Act.put, List.setIfInBounds_toArray, List.set_cons_zero, List.set_cons_succ, List.getElem_toArray, List.getElem_cons_succ, List.getElem_cons_zero]
    refine wpAnyZ_move (i := 17) (v := ?_) rfl (by kernel_rfl) (by kernel_rfl) (by kernel_rfl) (fun _ _ _ h => h) (Or.inl ⟨by rfl, ?_⟩) ?_
    (rotate_left 1; (focus (intro W; go_simp; try with_reducible rfl)))
    try simp only [Act.put, List.setIfInBounds_toArray, List.set_cons_zero, List.set_cons_succ, List.getElem_toArray, List.getElem_cons_succ, List.getElem_cons_zero]
    refine wpAnyZ_move (i := 18) (v := ?_) rfl (by kernel_rfl) (by kernel_rfl) (by kernel_rfl) (fun _ _ _ h => h) (Or.inl ⟨by rfl, ?_⟩) ?_
    (rotate_left 1; (focus (intro W; go_simp; try with_reducible rfl)))
    try simp only [Act.put, List.setIfInBounds_toArray, List.set_cons_zero, List.set_cons_succ, List.getElem_toArray, List.getElem_cons_succ, List.getElem_cons_zero]
    refine wpAnyZ_move (i := 19) (v := ?_) rfl (by kernel_rfl) (by kernel_rfl) (by kernel_rfl) (fun _ _ _ h => h) (Or.inl ⟨by rfl, ?_⟩) ?_
    (rotate_left 1; (focus (intro W; go_simp; try with_reducible rfl)))
    try simp only [Act.put, List.setIfInBounds_toArray, List.set_cons_zero, List.set_cons_succ, List.getElem_toArray, List.getElem_cons_succ, List.getElem_cons_zero]
    refine wpAnyZ_take (i := 20) (v := ?_) rfl (by kernel_rfl) (by kernel_rfl) (by kernel_rfl) (by kernel_rfl) (fun _ _ _ h => h) (Or.inl ⟨by rfl, ?_⟩) S0.out ?_
    (rotate_left 1; (focus (intro W hS; have kv := C1.out W hS; go_simp; try with_reducible rfl)))
    try simp only [Act.put, List.setIfInBounds_toArray, List.set_cons_zero, List.set_cons_succ, List.getElem_toArray, List.getElem_cons_succ, List.getElem_cons_zero]
    refine wpAnyZ_move (i := 21) (v := ?_) rfl (by kernel_rfl) (by kernel_rfl) (by kernel_rfl) (fun _ _ _ h => h) (Or.inl ⟨by rfl, ?_⟩) ?_
    (rotate_left 1; (focus (intro W; go_simp; try with_reducible rfl)))
    try simp only [Act.put, List.setIfInBounds_toArray, List.set_cons_zero, List.set_cons_succ, List.getElem_toArray, List.getElem_cons_succ, List.getElem_cons_zero]
    refine wpAnyZ_take (i := 22) (v := ?_) rfl (by kernel_rfl) (by kernel_rfl) (by kernel_rfl) (by kernel_rfl) (fun _ _ _ h => h) (Or.inl ⟨by rfl, ?_⟩) S0.out ?_
    (rotate_left 1; (focus (intro W hS; have kv := C2.out W hS; go_simp; try with_reducible rfl)))
    try simp only [Act.put, List.setIfInBounds_toArray, List.set_cons_zero, List.set_cons_succ, List.getElem_toArray, List.getElem_cons_succ, List.getElem_cons_zero]
    refine wpAnyZ_move (i := 23) (v := ?_) rfl (by kernel_rfl) (by kernel_rfl) (by kernel_rfl) (fun _ _ _ h => h) (Or.inl ⟨by rfl, ?_⟩) ?_
    (rotate_left 1; (focus (intro W; go_simp; try with_reducible rfl)))
    try simp only [Act.put, List.setIfInBounds_toArray, List.set_cons_zero, List.set_cons_succ, List.getElem_toArray, List.getElem_cons_succ, List.getElem_cons_zero]
    refine wpAnyZ_move (i := 24) (v := ?_) rfl (by kernel_rfl) (by kernel_rfl) (by kernel_rfl) (fun _ _ _ h => h) (Or.inl ⟨by rfl, ?_⟩) ?_
    (rotate_left 1; (focus (intro W; go_simp; try with_reducible rfl)))
    try simp only [Act.put, List.setIfInBounds_toArray, List.set_cons_zero, List.set_cons_succ, List.getElem_toArray, List.getElem_cons_succ, List.getElem_cons_zero]
    refine wpAnyZ_move (i := 25) (v := ?_) rfl (by kernel_rfl) (by kernel_rfl) (by kernel_rfl) (fun _ _ _ h => h) (Or.inl ⟨by rfl, ?_⟩) ?_
    (rotate_left 1; (focus (intro W; go_simp; try with_reducible rfl)))
    try simp only [Act.put, List.setIfInBounds_toArray, List.set_cons_zero, List.set_cons_succ, List.getElem_toArray, List.getElem_cons_succ, List.getElem_cons_zero]
    refine wpAnyZ_move (i := 26) (v := ?_) rfl (by kernel_rfl) (by kernel_rfl) (by kernel_rfl) (fun _ _ _ h => h) (Or.inl ⟨by rfl, ?_⟩) ?_
    (rotate_left 1; (focus (intro W; go_simp; try with_reducible rfl)))
    try simp only [Act.put, List.setIfInBounds_toArray, List.set_cons_zero, List.set_cons_succ, List.getElem_toArray, List.getElem_cons_succ, List.getElem_cons_zero]
    refine wpAnyZ_move (i := 27) (v := ?_) rfl (by kernel_rfl) (by kernel_rfl) (by kernel_rfl) (fun _ _ _ h => h) (Or.inl ⟨by rfl, ?_⟩) ?_
    (rotate_left 1; (focus (intro W; go_simp; try with_reducible rfl)))
    try simp only [Act.put, List.setIfInBounds_toArray, List.set_cons_zero, List.set_cons_succ, List.getElem_toArray, List.getElem_cons_succ, List.getElem_cons_zero]
    refine wpAnyZ_move (i := 28) (v := ?_) rfl (by kernel_rfl) (by kernel_rfl) (by kernel_rfl) (fun _ _ _ h => h) (Or.inl ⟨by rfl, ?_⟩) ?_
    (rotate_left 1; (focus (intro W; go_simp; try with_reducible rfl)))
    try simp only [Act.put, List.setIfInBounds_toArray, List.set_cons_zero, List.set_cons_succ, List.getElem_toArray, List.getElem_cons_succ, List.getElem_cons_zero]
    refine wpAnyZ_take (i := 29) (v := ?_) rfl (by kernel_rfl) (by kernel_rfl) (by kernel_rfl) (by kernel_rfl) (fun _ _ _ h => h) (Or.inl ⟨by rfl, ?_⟩) S0.out ?_
    (rotate_left 1; (focus (intro W hS; have kv := C3.out W hS; go_simp; try with_reducible rfl)))
    try simp only [Act.put, List.setIfInBounds_toArray, List.set_cons_zero, List.set_cons_succ, List.getElem_toArray, List.getElem_cons_succ, List.getElem_cons_zero]
    refine wpAnyZ_move (i := 30) (v := ?_) rfl (by kernel_rfl) (by kernel_rfl) (by kernel_rfl) (fun _ _ _ h => h) (Or.inl ⟨by rfl, ?_⟩) ?_
    (rotate_left 1; (focus (intro W; go_simp; try with_reducible rfl)))
    try simp only [Act.put, List.setIfInBounds_toArray, List.set_cons_zero, List.set_cons_succ, List.getElem_toArray, List.getElem_cons_succ, List.getElem_cons_zero]
    refine wpAnyZ_move (i := 31) (v := ?_) rfl (by kernel_rfl) (by kernel_rfl) (by kernel_rfl) (fun _ _ _ h => h) (Or.inl ⟨by rfl, ?_⟩) ?_
    (rotate_left 1; (focus (intro W; go_simp; try with_reducible rfl)))
    try simp only [Act.put, List.setIfInBounds_toArray, List.set_cons_zero, List.set_cons_succ, List.getElem_toArray, List.getElem_cons_succ, List.getElem_cons_zero]
    refine wpAnyZ_move (i := 32) (v := ?_) rfl (by kernel_rfl) (by kernel_rfl) (by kernel_rfl) (fun _ _ _ h => h) (Or.inl ⟨by rfl, ?_⟩) ?_
    (rotate_left 1; (focus (intro W; go_simp; try with_reducible rfl)))
    try simp only [Act.put, List.setIfInBounds_toArray, List.set_cons_zero, List.set_cons_succ, List.getElem_toArray, List.getElem_cons_succ, List.getElem_cons_zero]
    refine wpAnyZ_take (i := 33) (v := ?_) rfl (by kernel_rfl) (by kernel_rfl) (by kernel_rfl) (by kernel_rfl) (fun _ _ _ h => h) (Or.inl ⟨by rfl, ?_⟩) S0.out ?_
    (rotate_left 1; (focus (intro W hS; have kv := C4.out W hS; go_simp; try with_reducible rfl)))
    try simp only [Act.put, List.setIfInBounds_toArray, List.set_cons_zero, List.set_cons_succ, List.getElem_toArray, List.getElem_cons_succ, List.getElem_cons_zero]
    refine wpAnyZ_move (i := 34) (v := ?_) rfl (by kernel_rfl) (by kernel_rfl) (by kernel_rfl) (fun _ _ _ h => h) (Or.inl ⟨by rfl, ?_⟩) ?_
    (rotate_left 1; (focus (intro W; go_simp; try with_reducible rfl)))
    try simp only [Act.put, List.setIfInBounds_toArray, List.set_cons_zero, List.set_cons_succ, List.getElem_toArray, List.getElem_cons_succ, List.getElem_cons_zero]
    refine wpAnyZ_move (i := 35) (v := ?_) rfl (by kernel_rfl) (by kernel_rfl) (by kernel_rfl) (fun _ _ _ h => h) (Or.inl ⟨by rfl, ?_⟩) ?_
    (rotate_left 1; (focus (intro W; go_simp; try with_reducible rfl)))
    try simp only [Act.put, List.setIfInBounds_toArray, List.set_cons_zero, List.set_cons_succ, List.getElem_toArray, List.getElem_cons_succ, List.getElem_cons_zero]
    refine wpAnyZ_move (i := 36) (v := ?_) rfl (by kernel_rfl) (by kernel_rfl) (by kernel_rfl) (fun _ _ _ h => h) (Or.inl ⟨by rfl, ?_⟩) ?_
    (rotate_left 1; (focus (intro W; go_simp; try with_reducible rfl)))
    try simp only [Act.put, List.setIfInBounds_toArray, List.set_cons_zero, List.set_cons_succ, List.getElem_toArray, List.getElem_cons_succ, List.getElem_cons_zero]
    refine wpAnyZ_move (i := 37) (v := ?_) rfl (by kernel_rfl) (by kernel_rfl) (by kernel_rfl) (fun _ _ _ h => h) (Or.inl ⟨by rfl, ?_⟩) ?_
    (rotate_left 1; (focus (intro W; go_simp; try with_reducible rfl)))
    try simp only [Act.put, List.setIfInBounds_toArray, List.set_cons_zero, List.set_cons_succ, List.getElem_toArray, List.getElem_cons_succ, List.getElem_cons_zero]
    refine wpAnyZ_take (i := 38) (v := ?_) rfl (by kernel_rfl) (by kernel_rfl) (by kernel_rfl) (by kernel_rfl) (fun _ _ _ h => h) (Or.inl ⟨by rfl, ?_⟩) S0.out ?_
    (rotate_left 1; (focus (intro W hS; have qh := H7.out.only hS (fun h => by omega); have z0 : W.cell? ⟨w3.heap.size, 0, none⟩ = some (.int .i64 0) := qh.cell 0; have z1 : W.cell? ⟨w3.heap.size, 1, none⟩ = some (.int .u64 1) := qh.cell 1; have hl8 := qh.lt; go_simp; try with_reducible rfl)))
    try simp only [Act.put, List.setIfInBounds_toArray, List.set_cons_zero, List.set_cons_succ, List.getElem_toArray, List.getElem_cons_succ, List.getElem_cons_zero]
    refine wpAnyZ_move (i := 39) (v := ?_) rfl (by kernel_rfl) (by kernel_rfl) (by kernel_rfl) (fun _ _ _ h => h) (Or.inl ⟨by rfl, ?_⟩) ?_
    (rotate_left 1; (focus (intro W; go_simp; try with_reducible rfl)))
    try simp only [Act.put, List.setIfInBounds_toArray, List.set_cons_zero, List.set_cons_succ, List.getElem_toArray, List.getElem_cons_succ, List.getElem_cons_zero]
    refine wpAnyZ_move (i := 40) (v := ?_) rfl (by kernel_rfl) (by kernel_rfl) (by kernel_rfl) (fun _ _ _ h => h) (Or.inl ⟨by rfl, ?_⟩) ?_
    (rotate_left 1; (focus (intro W; go_simp; try with_reducible rfl)))
    try simp only [Act.put, List.setIfInBounds_toArray, List.set_cons_zero, List.set_cons_succ, List.getElem_toArray, List.getElem_cons_succ, List.getElem_cons_zero]
    refine wpAnyZ_move (i := 41) (v := ?_) rfl (by kernel_rfl) (by kernel_rfl) (by kernel_rfl) (fun _ _ _ h => h) (Or.inl ⟨by rfl, ?_⟩) ?_
    (rotate_left 1; (focus (intro W; go_simp; try with_reducible rfl)))
    try simp only [Act.put, List.setIfInBounds_toArray, List.set_cons_zero, List.set_cons_succ, List.getElem_toArray, List.getElem_cons_succ, List.getElem_cons_zero]
    refine wpAnyZ_one (i := 42) (by kernel_rfl) rfl (fun K hK => ?_)
    go_simp
    refine hK.out _ _ (fun _ hS => Only.alloc hS _) ?_
    clear hK K
    refine forgetZ (F := fun X => SW w7 (w3.heap.size + 1) X ∧ Blk X (w3.heap.size + 1) 42 (flatP (ps1 0 n)) ∧ PsAt X (some ⟨w7.heap.size, 0, none⟩) (ps1 0 (n + 1))) ⟨Only.alloc S0.out _, Q7.out.drew.alloc _, PsAt.blk (Blk.new w7.drew 42 (flatP (ps1 0 (n + 1))))⟩ ?_
    rintro X1 ⟨s_, q_, p_⟩
    have SX1 := Lib.hid s_
    have QX1 := Lib.hid q_
    have PX1 := Lib.hid p_
    clear s_ q_ p_
    have M_ := MY X1 SX1.out _ 1 1 (ps1 0 (n + 1)) PX1.out rfl (by omega) (by omega) (fun h => by omega)
    refine wpAnyZ_one (i := 43) (by kernel_rfl) rfl (fun K hK => ?_)
    go_simp
    go_wp2_with (go_at_call 9; (with_reducible refine Calls.mono M_.out ?_); rintro e X2 ⟨r_, rfl, hr_, b_⟩; obtain rfl : r_ = false := by { cases r_ with | false => rfl | true => exact absurd (hr_.1 rfl) (mayw_no (now n L) 0 (n + 1) (by rw [now_len]; omega)) }; have SX2 : Hid (SW w7 (w3.heap.size + 1) X2) := Lib.hid (Only.trans SX1.out (Only.of_below (F := fun g => g = w3.heap.size + 1) b_) (fun _ _ h => h)); have QX2 := Lib.hid (QX1.out.below b_ QX1.out.lt); clear b_ hr_)
    refine hK.out _ _ (fun _ _ => SX2.out) ?_
    clear hK K M_
    refine wpAnyZ_move (i := 44) (v := ?_) rfl (by kernel_rfl) (by kernel_rfl) (by kernel_rfl) (fun _ _ _ h => h) (Or.inl ⟨by rfl, ?_⟩) ?_
    (rotate_left 1; (focus (intro W; go_simp; try with_reducible rfl)))
    try simp only [Act.put, List.setIfInBounds_toArray, List.set_cons_zero, List.set_cons_succ, List.getElem_toArray, List.getElem_cons_succ, List.getElem_cons_zero]
    refine wpAnyZ_move (i := 45) (v := ?_) rfl (by kernel_rfl) (by kernel_rfl) (by kernel_rfl) (fun _ _ _ h => h) (Or.inl ⟨by rfl, ?_⟩) ?_
    (rotate_left 1; (focus (intro W; go_simp; try with_reducible rfl)))
    try simp only [Act.put, List.setIfInBounds_toArray, List.set_cons_zero, List.set_cons_succ, List.getElem_toArray, List.getElem_cons_succ, List.getElem_cons_zero]
    refine wpAnyZ_move (i := 46) (v := ?_) rfl (by kernel_rfl) (by kernel_rfl) (by kernel_rfl) (fun _ _ _ h => h) (Or.inl ⟨by rfl, ?_⟩) ?_
    (rotate_left 1; (focus (intro W; go_simp; try with_reducible rfl)))
    try simp only [Act.put, List.setIfInBounds_toArray, List.set_cons_zero, List.set_cons_succ, List.getElem_toArray, List.getElem_cons_succ, List.getElem_cons_zero]
    refine wpAnyZ_move (i := 47) (v := ?_) rfl (by kernel_rfl) (by kernel_rfl) (by kernel_rfl) (fun _ _ _ h => h) (Or.inl ⟨by rfl, ?_⟩) ?_
    (rotate_left 1; (focus (intro W; go_simp; try with_reducible rfl)))
    try simp only [Act.put, List.setIfInBounds_toArray, List.set_cons_zero, List.set_cons_succ, List.getElem_toArray, List.getElem_cons_succ, List.getElem_cons_zero]
    refine wpAnyZ_take (i := 48) (v := ?_) rfl (by kernel_rfl) (by kernel_rfl) (by kernel_rfl) (by kernel_rfl) (fun _ _ _ h => h) (Or.inl ⟨by rfl, ?_⟩) SX2.out ?_
    (rotate_left 1; (focus (intro W hS; have qh := H7.out.only hS (fun h => by omega); have z0 : W.cell? ⟨w3.heap.size, 0, none⟩ = some (.int .i64 0) := qh.cell 0; have z1 : W.cell? ⟨w3.heap.size, 1, none⟩ = some (.int .u64 1) := qh.cell 1; have hl8 := qh.lt; go_simp; try with_reducible rfl)))
    try simp only [Act.put, List.setIfInBounds_toArray, List.set_cons_zero, List.set_cons_succ, List.getElem_toArray, List.getElem_cons_succ, List.getElem_cons_zero]
    refine wpAnyZ_move (i := 49) (v := ?_) rfl (by kernel_rfl) (by kernel_rfl) (by kernel_rfl) (fun _ _ _ h => h) (Or.inl ⟨by rfl, ?_⟩) ?_
    (rotate_left 1; (focus (intro W; go_simp; try with_reducible rfl)))
    try simp only [Act.put, List.setIfInBounds_toArray, List.set_cons_zero, List.set_cons_succ, List.getElem_toArray, List.getElem_cons_succ, List.getElem_cons_zero]
    refine wpAnyZ_move (i := 50) (v := ?_) rfl (by kernel_rfl) (by kernel_rfl) (by kernel_rfl) (fun _ _ _ h => h) (Or.inl ⟨by rfl, ?_⟩) ?_
    (rotate_left 1; (focus (intro W; go_simp; try with_reducible rfl)))
    try simp only [Act.put, List.setIfInBounds_toArray, List.set_cons_zero, List.set_cons_succ, List.getElem_toArray, List.getElem_cons_succ, List.getElem_cons_zero]
    refine wpAnyZ_one (i := 51) (by kernel_rfl) rfl (fun K hK => ?_)
    go_simp
    refine hK.out _ _ (fun _ hS => Only.alloc hS _) ?_
    clear hK K
    refine forgetZ (F := fun X => SW w7 (w3.heap.size + 1) X ∧ Blk X (w3.heap.size + 1) 42 (flatP (ps1 0 n)) ∧ PsAt X (some ⟨X2.heap.size, 0, none⟩) (ps1 1 n)) ⟨Only.alloc SX2.out _, QX2.out.alloc _, PsAt.blk (Blk.new X2 42 (flatP (ps1 1 n)))⟩ ?_
    rintro X3 ⟨s_, q_, p_⟩
    have SX3 := Lib.hid s_
    have QX3 := Lib.hid q_
    have PX3 := Lib.hid p_
    clear s_ q_ p_
    have M_ := MY X3 SX3.out _ 1 1 (ps1 1 n) PX3.out rfl (by omega) (by omega) (fun h => by omega)
    refine wpAnyZ_one (i := 52) (by kernel_rfl) rfl (fun K hK => ?_)
    go_simp
    go_wp2_with (go_at_call 9; (with_reducible refine Calls.mono M_.out ?_); rintro e X4 ⟨r_, rfl, hr_, b_⟩; obtain rfl : r_ = false := by { cases r_ with | false => rfl | true => exact absurd (hr_.1 rfl) (mayw_no (now n L) 1 n (by rw [now_len]; omega)) }; have SX4 : Hid (SW w7 (w3.heap.size + 1) X4) := Lib.hid (Only.trans SX3.out (Only.of_below (F := fun g => g = w3.heap.size + 1) b_) (fun _ _ h => h)); have QX4 := Lib.hid (QX3.out.below b_ QX3.out.lt); clear b_ hr_)
    refine hK.out _ _ (fun _ _ => SX4.out) ?_
    clear hK K M_
    refine wpAnyZ_move (i := 53) (v := ?_) rfl (by kernel_rfl) (by kernel_rfl) (by kernel_rfl) (fun _ _ _ h => h) (Or.inl ⟨by rfl, ?_⟩) ?_
    (rotate_left 1; (focus (intro W; go_simp; try with_reducible rfl)))
    try simp only [Act.put, List.setIfInBounds_toArray, List.set_cons_zero, List.set_cons_succ, List.getElem_toArray, List.getElem_cons_succ, List.getElem_cons_zero]
    refine wpAnyZ_move (i := 54) (v := ?_) rfl (by kernel_rfl) (by kernel_rfl) (by kernel_rfl) (fun _ _ _ h => h) (Or.inl ⟨by rfl, ?_⟩) ?_
    (rotate_left 1; (focus (intro W; go_simp; try with_reducible rfl)))
    try simp only [Act.put, List.setIfInBounds_toArray, List.set_cons_zero, List.set_cons_succ, List.getElem_toArray, List.getElem_cons_succ, List.getElem_cons_zero]
    refine wpAnyZ_move (i := 55) (v := ?_) rfl (by kernel_rfl) (by kernel_rfl) (by kernel_rfl) (fun _ _ _ h => h) (Or.inl ⟨by rfl, ?_⟩) ?_
    (rotate_left 1; (focus (intro W; go_simp; try with_reducible rfl)))
    try simp only [Act.put, List.setIfInBounds_toArray, List.set_cons_zero, List.set_cons_succ, List.getElem_toArray, List.getElem_cons_succ, List.getElem_cons_zero]
    refine wpAnyZ_move (i := 56) (v := ?_) rfl (by kernel_rfl) (by kernel_rfl) (by kernel_rfl) (fun _ _ _ h => h) (Or.inl ⟨by rfl, ?_⟩) ?_
    (rotate_left 1; (focus (intro W; go_simp; try with_reducible rfl)))
    try simp only [Act.put, List.setIfInBounds_toArray, List.set_cons_zero, List.set_cons_succ, List.getElem_toArray, List.getElem_cons_succ, List.getElem_cons_zero]
    refine wpAnyZ_move (i := 57) (v := ?_) rfl (by kernel_rfl) (by kernel_rfl) (by kernel_rfl) (fun _ _ _ h => h) (Or.inl ⟨by rfl, ?_⟩) ?_
    (rotate_left 1; (focus (intro W; go_simp; try with_reducible rfl)))
    try simp only [Act.put, List.setIfInBounds_toArray, List.set_cons_zero, List.set_cons_succ, List.getElem_toArray, List.getElem_cons_succ, List.getElem_cons_zero]
    refine wpAnyZ_move (i := 58) (v := ?_) rfl (by kernel_rfl) (by kernel_rfl) (by kernel_rfl) (fun _ _ _ h => h) (Or.inl ⟨by rfl, ?_⟩) ?_
    (rotate_left 1; (focus (intro W; go_simp; try with_reducible rfl)))
    try simp only [Act.put, List.setIfInBounds_toArray, List.set_cons_zero, List.set_cons_succ, List.getElem_toArray, List.getElem_cons_succ, List.getElem_cons_zero]
    refine wpAnyZ_move (i := 59) (v := ?_) rfl (by kernel_rfl) (by kernel_rfl) (by kernel_rfl) (fun _ _ _ h => h) (Or.inl ⟨by rfl, ?_⟩) ?_
    (rotate_left 1; (focus (intro W; go_simp; try with_reducible rfl)))
    try simp only [Act.put, List.setIfInBounds_toArray, List.set_cons_zero, List.set_cons_succ, List.getElem_toArray, List.getElem_cons_succ, List.getElem_cons_zero]
    have z0 : X4.cell? ⟨w3.heap.size + 1, 0, none⟩ = some (.int .i64 0) := QX4.out.cell 0
    have z1 : X4.cell? ⟨w3.heap.size + 1, 1, none⟩ = some (.int .u64 1) := QX4.out.cell 1
    have z2 : X4.cell? ⟨w3.heap.size + 1, 2, none⟩ = some (.int .i64 0) := QX4.out.cell 2
    have z3 : X4.cell? ⟨w3.heap.size + 1, 3, none⟩ = some (.int .i64 n) := QX4.out.cell 3
    have hl8 := QX4.out.lt
    refine wpAnyZ_one (i := 60) (by kernel_rfl) rfl (fun K hK => ?_)
    go_simp
    refine hK.out _ _ (fun _ hS => hS) ?_
    clear hK K z0 z1 z2 z3 hl8
    refine wpAnyZ_one (i := 61) (by kernel_rfl) rfl (fun K hK => ?_)
    go_simp
    refine hK.out _ _ (fun _ hS => Only.alloc hS _) ?_
    clear hK K
    refine forgetZ (F := fun X => SW w7 (w3.heap.size + 1) X ∧ Blk X (w3.heap.size + 1) 42 (flatP (ps1 0 n)) ∧ Blk X X4.heap.size 42 (flatP (ps1 0 n))) ⟨Only.alloc SX4.out _, QX4.out.alloc _, Blk.new X4 42 (flatP (ps1 0 n))⟩ ?_
    rintro X5 ⟨s_, q_, p_⟩
    have SX5 := Lib.hid s_
    have QX5 := Lib.hid q_
    have PX5 := Lib.hid p_
    clear s_ q_ p_
    obtain ⟨i0, hi0, hz0, hz1, hz2⟩ := info_parts infoPc
    have SL5 := Lib.hid (slc_blk (size := 4) (n := 1) QX5.out rfl (by simp only [maxLen]; omega))
    have SR5 := Lib.hid (Src.block PX5.out (size := 4) (m := 1) rfl)
    refine wpAnyZ_one (i := 62) (by kernel_rfl) rfl (fun K hK => ?_)
    refine step_append_slc' (by rfl) (.tmp 131) (.tmp 135) _ rfl 42 i0 _ 4 32 Try.underlying22 hi0 hz0 hz1 hz2 rfl (by omega) (.slice (some ⟨w3.heap.size + 1, 0, none⟩) 1 1) 1 (flatP (ps1 0 n)) rfl SL5.out (some ⟨X4.heap.size, 0, none⟩) 1 1 (flatP (ps1 0 n)) rfl SR5.out (by simp [Value.oneCell', flatP, ps1]) (by omega) (by simp only [maxLen]; omega) ?_
    intro v6 X6 hs6 ho6 hat6
    obtain ⟨A6, c6', e6, hc6'⟩ := hs6.shape
    subst e6
    have PX6 : Hid (PsAt X6 A6 [⟨0, 1, 0, n⟩, ⟨0, 1, 0, n⟩]) := PsAt.of_slc hs6
    have SX6 : Hid (SW w7 (w3.heap.size + 1) X6) := Lib.hid (Only.trans SX5.out ho6 (fun i _ h => by injection h with h; exact h.symm))
    have KX6 := Lib.hid (K7.out.only SX6.out (fun i e hp => by have := NP.out i hp; omega))
    have BX6 := Lib.hid (Below.onlyF B7.out SX6.out (fun i h => by have := HWW.out; omega))
    have M_ := Lib.hid (mayl_any KX6.out (lenw _ (by rw [now_len]; omega)) A6 2 c6' [⟨0, 1, 0, n⟩, ⟨0, 1, 0, n⟩] PX6.out rfl (by omega) hc6' (fun h => by omega))
    clear hs6 ho6 hat6
    try go_simp
    refine hK.out _ _ (fun _ _ => SX6.out) ?_
    clear hK K
    refine wpAnyZ_one (i := 63) (by kernel_rfl) rfl (fun K hK => ?_)
    go_simp
    go_wp2_with (go_at_call 9; (with_reducible refine Calls.mono M_.out ?_); rintro e X7 ⟨r_, rfl, hr_, b_⟩; obtain rfl : r_ = false := by { cases r_ with | false => rfl | true => exact absurd (hr_.1 rfl) (mayw_two (now n L) n (by omega) (by omega)) }; have BX7 := Lib.hid (Below.next BX6.out b_); have SX7 : Hid (SW w7 (w3.heap.size + 1) X7) := Lib.hid (Only.trans SX6.out (Only.of_below (F := fun g => g = w3.heap.size + 1) b_) (fun _ _ h => h)); clear b_ hr_)
    refine hK.out _ _ (fun _ _ => SX7.out) ?_
    clear hK K M_
    refine wpAnyZ_move (i := 64) (v := ?_) rfl (by kernel_rfl) (by kernel_rfl) (by kernel_rfl) (fun _ _ _ h => h) (Or.inl ⟨by rfl, ?_⟩) ?_
    (rotate_left 1; (focus (intro W; go_simp; try with_reducible rfl)))
    try simp only [Act.put, List.setIfInBounds_toArray, List.set_cons_zero, List.set_cons_succ, List.getElem_toArray, List.getElem_cons_succ, List.getElem_cons_zero]
    refine wpAnyZ_move (i := 65) (v := ?_) rfl (by kernel_rfl) (by kernel_rfl) (by kernel_rfl) (fun _ _ _ h => h) (Or.inl ⟨by rfl, ?_⟩) ?_
    (rotate_left 1; (focus (intro W; go_simp; try with_reducible rfl)))
    try simp only [Act.put, List.setIfInBounds_toArray, List.set_cons_zero, List.set_cons_succ, List.getElem_toArray, List.getElem_cons_succ, List.getElem_cons_zero]
    refine wpAnyZ_move (i := 66) (v := ?_) rfl (by kernel_rfl) (by kernel_rfl) (by kernel_rfl) (fun _ _ _ h => h) (Or.inl ⟨by rfl, ?_⟩) ?_
    (rotate_left 1; (focus (intro W; go_simp; try with_reducible rfl)))
    try simp only [Act.put, List.setIfInBounds_toArray, List.set_cons_zero, List.set_cons_succ, List.getElem_toArray, List.getElem_cons_succ, List.getElem_cons_zero]
    refine wpAnyZ_done (by kernel_rfl) ?_ _
    go_wp2_with fail
    go_ret
    exact ⟨rfl, BX7.out⟩
  · have d2 : decide (200 < (nb : Int)) = true := decide_eq_true (by omega)
    go_wp2_with fail
    go_ret
    exact ⟨rfl, B2.out⟩
theorem walk (w : World) (a : Int) (wa : (Lit.int .u8 a).wf = true) (A1 : Option Addr) (n1 cap1 : Nat) (D1 : Nat → List Value) (w1 : Elems w [some .u8] A1 n1 D1) (l1 : n1 * 1 ≤ 140737488351232) (ok1 : CapOk w A1 n1 cap1) :
    Calls Try.prog 6 #[.int .u8 a, .slice A1 n1 cap1] w fun e w' => e = .returned (.bool true) ∧ Below w.heap.size w w' := by
  obtain ⟨U, hA, hU⟩ := ints_of w1
  exact walk2 w a (bounds_u8 wa).1 (bounds_u8 wa).2 A1 n1 cap1 _ (by simp) (src_of_ints hA) ok1 (by omega)
end piecesWhole
namespace piecesWhole
theorem own : ownKnob Try.prog.godebug = none := by kernel_rfl
set_option maxRecDepth 100000 in
theorem lifted (os : Os) (started : os.Started) (H : Type) (enc : TypeId × Value → H) :
    ReturnsInHanded {} Try.checked os 6 .any (Rows.piecesWholeSpec.pre6 enc Try.prog Try.f6 Rows.piecesWholeRow.domain false) (Rows.piecesWholeSpec.post enc Try.prog Try.f6 false true false false) := by
  refine returnsInHanded_of_change_sized (C := Try.checked) own started (by kernel_rfl) Try.func6
    (ChangeSpec.witness6 (enc := enc) (C := Try.checked) false ⟨#[], #[.int .u8 0, .slice none 0 0], []⟩ 8 (by kernel_rfl) (by kernel_rfl) (by kernel_rfl) (by kernel_rfl)) ?_
  intro W base args ds gs before hval0 hW hcnd hsz0 _
  have hsz : (DataW.weightsEach Try.prog (Try.f6.params.toList ++ Rows.piecesWholeSpec.plain.varTypes Try.prog) (ds ++ gs)).all (· ≤ reachBytes) = true := hsz0
  have hval : ∀ (j : Nat) t v, Try.f6.params[j]? = some t → args[j]? = some v → Value.okWide Try.prog W .any base t v := hval0
  have hW' := hW
  obtain ⟨p, q, hA0, hV, rfl, hfz, hnd⟩ := hW
  have hA : DataW.TrodAll enc Try.prog W 0 (fun _ => true) true Try.f6.params.toList args.toList ds p := hA0
  rw [Try.params6] at hA hval hsz
  obtain ⟨v0, vs0, d0, ds0, p0, q0, hargs, rfl, rfl, h0, r0⟩ := trodAll_cons hA
  obtain ⟨v1, vs1, d1, ds1, p1, q1, rfl, rfl, rfl, h1, r1⟩ := trodAll_cons r0
  obtain ⟨rfl, rfl, rfl⟩ := trodAll_nil r1
  obtain rfl : args = #[v0, v1] := by cases args; simp_all
  obtain ⟨rfl, rfl⟩ := trodVars_none hV
  obtain ⟨a0, rfl, w0⟩ := arg_one Try.underlying5 (hval 0 5 v0 rfl rfl) h0
  have y1 := arg_cap Try.underlying23 (hval 1 23 v1 rfl rfl)
  obtain ⟨A1, n1, cap1, D1, rfl, w1, m1, z1⟩ := arg_slice [some .u8] Try.underlying23 6 (by kernel_rfl) (by kernel_rfl) (hval 1 23 v1 rfl rfl) h1
  have l1 : n1 * Try.prog.bytesOf 5 ≤ reachBytes := by
    rcases z1 with ⟨_, e⟩ | ⟨es, sp, e, el⟩
    · subst e; simp
    · subst e; subst el; exact Nat.le_trans (Nat.mul_le_mul_right _ (Nat.le_add_right _ _)) (sized_slice hsz (j := 1) (t := 23) (e := 5) rfl rfl Try.underlying23)
  have b1 : Try.prog.bytesOf 5 = 1 := by kernel_rfl
  rw [b1] at l1
  simp only [reachBytes] at l1
  clear z1 b1
  clear hA0 hval0 hsz0 hsz
  refine (walk W a0 w0 A1 n1 cap1 D1 w1 l1 (y1 _ _ _ rfl)).mono fun e W' ⟨he, bel⟩ => ?_
  subst he
  exact ⟨_, rfl, _, _, _, [], _, [], hW', trodAll_mk1 (shut_bool Try.underlying4 _), (trodAll_cons_mk (Below.trod laidOut (by kernel_rfl) (of_decide_eq_true (by kernel_rfl)) h0 bel (fun x hx => by simpa using hW'.lt x (by simp [hx]))) (trodAll_cons_mk (Below.trod laidOut (by kernel_rfl) (of_decide_eq_true (by kernel_rfl)) h1 bel (fun x hx => by simpa using hW'.lt x (by simp [hx]))) trodAll_mk0)), rfl, bel.frame _, fun h => by cases h⟩
theorem over : Rows.piecesWholeRow.holds Try.pinned (OpenSpec.ofChange Rows.piecesWholeSpec) :=
  OpenClaim.holds_of_wide 6 Try.f6 rfl rfl rfl rfl rfl rfl rfl ⟨rfl, rfl, rfl, rfl, rfl⟩ rfl rfl rfl rfl rfl (by kernel_rfl) Try.func6 (by kernel_rfl)
    (of_decide_eq_true (by kernel_rfl)) (by unfold Func.isWrapper; first | (rw [if_pos (by decide +kernel)]; kernel_rfl) | (rw [if_neg (by decide +kernel)]; exact ⟨rfl, rfl⟩))
    (fun os started H enc _ => lifted os started H enc)
end piecesWhole
theorem piecesWhole_holds : Rows.PiecesWholeSaid := piecesWhole.over
#print axioms piecesWhole_holds
end Go.Proofs.Ytajcjepolfmhmaa
