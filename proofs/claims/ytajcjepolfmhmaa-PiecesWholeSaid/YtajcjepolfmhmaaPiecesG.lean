/- Layer 8 (pieces): Gather. -/
import Derived.Test.YtajcjepolfmhmaaPiecesB
import Derived.Test.YtajcjepolfmhmaaPoolGet
import Derived.Test.YtajcjepolfmhmaaPoolNew
import Derived.Test.YtajcjepolfmhmaaPoolRead
namespace Go.Proofs.Ytajcjepolfmhmaa
open Go.RowKit
set_option linter.unusedVariables false
set_option linter.unusedSimpArgs false
def readL (bs : List Bf) (x : Pc) : List Int := (readQ x.s x.g x.f x.n bs).1.getD []
def gatherF (bs : List Bf) (ps : List Pc) : Nat → List Int
  | 0 => []
  | k + 1 => gatherF bs ps k ++ (match ps[k]? with | some x => readL bs x | none => [])
theorem readL_len {bs : List Bf} (hl : ∀ b ∈ bs, b.bytes.length ≤ 65536) (x : Pc) : (readL bs x).length ≤ 65536 := by
  unfold readL readQ
  cases h : look bs x.s x.g with
  | none => simp
  | some ib =>
    obtain ⟨i, b⟩ := ib
    have hb := hl b (List.mem_of_getElem? (look_some h).2.2.1)
    simp only
    unfold readB
    split
    · simp
    · simp only [Option.getD_some, List.length_take, List.length_drop]; omega
theorem gatherF_len {bs : List Bf} (hl : ∀ b ∈ bs, b.bytes.length ≤ 65536) (ps : List Pc) (k : Nat) : (gatherF bs ps k).length ≤ k * 65536 := by
  induction k with
  | zero => simp [gatherF]
  | succ k ih =>
    simp only [gatherF, List.length_append]
    split
    · rename_i x _; have := readL_len hl x; omega
    · exact Nat.le_trans ih (Nat.mul_le_mul_right _ (Nat.le_succ k))
theorem byteCells_len (l : List Int) : (byteCells l).length = l.length := by simp [byteCells]
theorem byteCells_app (l k : List Int) : byteCells (l ++ k) = byteCells l ++ byteCells k := by simp [byteCells]
theorem byteCells_one (l : List Int) : ∀ u ∈ byteCells l, u.oneCell' = true := by
  intro u hu
  unfold byteCells at hu
  obtain ⟨x, -, rfl⟩ := List.mem_map.1 hu
  rfl
theorem rd_src {w : World} {base : Nat} {A : Option Addr} {m c : Nat} {o : Option (List Int)} (h : Rd w base (.slice A m c) o) : m = (o.getD []).length ∧ Src w 1 A (o.getD []).length (byteCells (o.getD [])) := by
  cases o with
  | none =>
    have e : Value.slice A m c = .slice none 0 0 := h
    injection e with e1 e2 e3
    subst e1 e2 e3
    exact ⟨rfl, rfl, .inl rfl⟩
  | some l =>
    obtain ⟨hs, -⟩ := h
    obtain ⟨A', c', e, hsrc⟩ := hs.src
    injection e with e1 e2 e3
    subst e1 e2 e3
    exact ⟨rfl, hsrc⟩
def RelG (w : World) (bs : List Bf) (ps : List Pc) (n : Nat) (ov iv : Value) (wr : World) : Prop :=
  ∃ i : Nat, iv = .int .i64 i ∧ i ≤ n ∧ Slc wr 5 1 ov (gatherF bs ps i).length (byteCells (gatherF bs ps i)) ∧ (∀ g, ov.ownBlock = some g → w.heap.size ≤ g) ∧ Below w.heap.size w wr
def GPost (w : World) (bs : List Bf) (ps : List Pc) (e : Ending) (w' : World) : Prop :=
  ∃ A m c code, e = .returned (.tuple #[.slice A m c, .int .i64 code]) ∧ Below w.heap.size w w' ∧
    ((¬ mayL bs ps ∧ code = 1 ∧ Value.slice A m c = .slice none 0 0) ∨ (mayL bs ps ∧ code = 0 ∧ m = (gatherF bs ps ps.length).length ∧ Slc w' 5 1 (.slice A m c) m (byteCells (gatherF bs ps ps.length)) ∧ ∀ g, (Value.slice A m c).ownBlock = some g → w.heap.size ≤ g))
set_option maxRecDepth 100000 in
set_option maxHeartbeats 2000000 in
theorem gather_any {w : World} {P : Pl} {bs : List Bf} (k : IsP w P bs) (hb : ∀ b ∈ bs, b.bytes.length ≤ 65536) (A : Option Addr) (len cap : Nat) (ps : List Pc) (hl : ps.length = len) (h16 : len ≤ 16) (hlc : len ≤ cap) (hc : PsAt w A ps) (hok : ∀ x ∈ ps, x.ok) (hA0 : len = 0 → A = none ∨ ∃ b off, A = some ⟨b, off, none⟩) :
    Calls Try.prog 11 #[.pointer (some ⟨P.p, 0, none⟩), .slice A len cap] w (GPost w bs ps) := by
  have MY := Lib.hid (mayl_any k hb A len cap ps hc hl h16 hlc hA0)
  have RD := fun W (o : Below w.heap.size w W) (x : Pc) (hx : x ∈ ps) => Lib.hid (readp_any (k.below o) x.s x.g x.f x.n hb (hok x hx).2.2.1.1 (hok x hx).2.2.1.2 (hok x hx).2.2.2.1 (hok x hx).2.2.2.2)
  have HC := Lib.hid hc
  have HL := Lib.hid hl
  have HB0 := Lib.hid hb
  obtain ⟨i0, hi0, hz0, hz1, hz2⟩ := info_parts infoByte
  clear k hc hl hb hok hA0
  go_enter Try.func11, Try.ntmps11
  go_wp2_with fail
  go_at_call 9
  (with_reducible refine Calls.mono MY.out ?_)
  rintro e w1 ⟨r, rfl, hr, b1⟩
  have B1 := Lib.hid b1
  have HR := Lib.hid hr
  clear b1 hr MY
  cases r with
  | false =>
    go_wp2_with fail
    go_ret2
    exact ⟨none, 0, 0, 1, rfl, B1.out, .inl ⟨fun h => (by have := HR.out.2 h; cases this), rfl, rfl⟩⟩
  | true =>
    go_wp2_with fail
    go_loopw [6, 17] (fun ov iv wr => Hid (RelG w bs ps len ov iv wr)) (fun _ iv _ => (len - intOf iv).toNat)
    case atStart => exact ⟨0, rfl, by omega, Slc.nil _ _ _, fun g e => by simp [Value.ownBlock] at e, B1.out⟩
    case round =>
      obtain ⟨i, rfl, hi, ho, hown, hbb⟩ := hrel
      obtain ⟨Ao, co, rfl, hco⟩ := ho.shape
      have HO := Lib.hid ho
      have HW := Lib.hid hown
      have HB := Lib.hid hbb
      have GL := gatherF_len HB0.out ps i
      clear ho hown hbb B1
      by_cases hin : i < len
      · have hin2 : (i : Int) < len := by omega
        obtain ⟨x, hx⟩ : ∃ x, ps[i]? = some x := ⟨_, List.getElem?_eq_getElem (by have := HL.out; omega)⟩
        obtain ⟨b, off, rfl, hlt, c0, c1, c2, c3⟩ := HC.out i x hx
        have c0 := (HB.out.cell (p := ⟨b, off + i * 4, none⟩) hlt).trans c0
        have c1 := (HB.out.cell (p := ⟨b, off + i * 4 + 1, none⟩) hlt).trans c1
        have c2 := (HB.out.cell (p := ⟨b, off + i * 4 + 2, none⟩) hlt).trans c2
        have c3 := (HB.out.cell (p := ⟨b, off + i * 4 + 3, none⟩) hlt).trans c3
        have hli := Nat.lt_of_lt_of_le hlt HB.out.size
        have g1 : IntKind.i64.wrap ((i : Int) + 1) = i + 1 := IntWalk.i64_in _ (by omega)
        have BB := Lib.hid (HB.out.alloc HB.out.size (.cells ⟨pcc x⟩ 42))
        have R := RD _ BB.out x (List.mem_of_getElem? hx)
        have RL := readL_len HB0.out x
        have GS := Lib.hid (show gatherF bs ps (i + 1) = gatherF bs ps i ++ readL bs x by simp only [gatherF, hx])
        have HRL := Lib.hid (show readL bs x = (readQ x.s x.g x.f x.n bs).1.getD [] from rfl)
        obtain ⟨⟨ol, cd⟩, hq⟩ : ∃ q, readQ x.s x.g x.f x.n bs = q := ⟨_, rfl⟩
        rw [hq] at R HRL
        obtain ⟨x1, x2, x3, x4⟩ := x
        unfold pcc at *
        simp only at c0 c1 c2 c3 R BB HRL
        clear RD hx hq
        go_wp2_with fail
        go_at_call 19
        (with_reducible refine Calls.mono R.out ?_)
        rintro e w2 ⟨A2, m2, c2', rfl, hrd, -, b2⟩
        obtain ⟨rfl, hsrc⟩ := rd_src hrd
        rw [← HRL.out] at hsrc ⊢
        have SR := Lib.hid hsrc
        have B2 := Lib.hid (Below.next BB.out b2)
        have HO2 := Lib.hid ((HO.out.alloc (.cells #[.int .i64 x1, .int .u64 x2, .int .i64 x3, .int .i64 x4] 42)).below b2 (fun g hg => (HO.out.alloc (.cells #[.int .i64 x1, .int .u64 x2, .int .i64 x3, .int .i64 x4] 42)).lt hg))
        have H1 := Lib.hid (byteCells_one (readL bs ⟨x1, x2, x3, x4⟩))
        clear hsrc hrd b2
        go_wp2_with (at_builtin; refine wpList_append_slc _ rfl (.tmp 32) (.tmp 33) _ rfl 5 i0 _ 1 1 Try.underlying23 hi0 hz0 hz1 hz2 rfl (by omega) (.slice Ao (gatherF bs ps i).length co) (gatherF bs ps i).length (byteCells (gatherF bs ps i)) rfl HO2.out A2 (readL bs ⟨x1, x2, x3, x4⟩).length c2' (byteCells (readL bs ⟨x1, x2, x3, x4⟩)) rfl SR.out H1.out (by omega) (by simp only [maxLen]; omega) ?_)
        intro v3 w3 hs3 ho3 hat3
        obtain ⟨A3, c3', e3, -⟩ := hs3.shape
        subst e3
        have ow : ∀ g, (Value.slice A3 ((gatherF bs ps i).length + (readL bs ⟨x1, x2, x3, x4⟩).length) c3').ownBlock = some g → w.heap.size ≤ g := fun g e => by
          rcases hat3 with h | h
          · rw [h] at e; exact HW.out g e
          · rw [h] at e; injection e with e; have := B2.out.size; omega
        have B3 := Lib.hid (Below.onlyF B2.out ho3 (fun g h => HW.out g h))
        have H3 := Lib.hid (show Slc w3 5 1 (.slice A3 ((gatherF bs ps i).length + (readL bs ⟨x1, x2, x3, x4⟩).length) c3') (gatherF bs ps (i + 1)).length (byteCells (gatherF bs ps (i + 1))) by rw [GS.out, List.length_append, byteCells_app]; exact hs3)
        have OW := Lib.hid ow
        clear hs3 ho3 hat3 ow
        go_wp2_with fail
        go_roundw
        case rel => exact ⟨i + 1, by go_num, by omega, H3.out, OW.out, B3.out⟩
        case measure => simp [intOf]; omega
      · obtain rfl : i = len := by omega
        have hin2 : ¬ (i : Int) < i := by omega
        go_wp2_with fail
        go_ret2
        have hO := HO.out
        have hW := HW.out
        rw [← HL.out] at hO hW ⊢
        exact ⟨_, _, _, 0, rfl, HB.out, .inr ⟨HR.out.1 trivial, rfl, rfl, hO, hW⟩⟩
end Go.Proofs.Ytajcjepolfmhmaa
