/- Layer 8 (pieces): Index and Contains of handles; Bufs. -/
import Derived.Test.YtajcjepolfmhmaaPiecesG
import Derived.BigQuiet
namespace Go.Proofs.Ytajcjepolfmhmaa
open Go.RowKit
set_option linter.unusedVariables false
set_option linter.unusedSimpArgs false
abbrev Hd := Int × Int
def hcells : List Hd → List Value
  | [] => []
  | x :: r => .int .i64 x.1 :: .int .u64 x.2 :: hcells r
def hdv (x : Hd) : Value := .agg #[.int .i64 x.1, .int .u64 x.2]
theorem hcells_app (l k : List Hd) : hcells (l ++ k) = hcells l ++ hcells k := by
  induction l with
  | nil => rfl
  | cons x r ih => simp [hcells, ih]
theorem hcells_one (l : List Hd) : ∀ u ∈ hcells l, u.oneCell' = true := by
  induction l with
  | nil => intro u hu; cases hu
  | cons x r ih =>
    intro u hu
    simp only [hcells, List.mem_cons] at hu
    rcases hu with rfl | rfl | hu
    · rfl
    · rfl
    · exact ih u hu
theorem hcells_0 : ∀ (l : List Hd) (i : Nat) (x : Hd), l[i]? = some x → (hcells l)[i * 2]? = some (.int .i64 x.1) ∧ (hcells l)[i * 2 + 1]? = some (.int .u64 x.2)
  | [], i, x, h => by cases i <;> cases h
  | y :: r, 0, x, h => by
    simp at h
    subst h
    exact ⟨rfl, rfl⟩
  | y :: r, i + 1, x, h => by
    have := hcells_0 r i x (by simpa using h)
    rw [show (i + 1) * 2 = i * 2 + 1 + 1 by omega]
    exact this
def HsAt (w : World) (A : Option Addr) (l : List Hd) : Prop :=
  ∀ (i : Nat) (x : Hd), l[i]? = some x → ∃ b off, A = some ⟨b, off, none⟩ ∧ b < w.heap.size ∧ w.cell? ⟨b, off + i * 2, none⟩ = some (.int .i64 x.1) ∧ w.cell? ⟨b, off + i * 2 + 1, none⟩ = some (.int .u64 x.2)
theorem HsAt.of {w : World} {t : TypeId} {A : Option Addr} {c : Nat} {l : List Hd} (h : Slc w t 2 (.slice A l.length c) l.length (hcells l)) : HsAt w A l := by
  intro i x hx
  have hi := (List.getElem?_eq_some_iff.1 hx).1
  obtain ⟨g, off, c', e, -, -, hg, hc, -⟩ := h.at_ (by omega)
  injection e with e1 e2 e3
  obtain ⟨h0, h1⟩ := hcells_0 l i x hx
  exact ⟨g, off, e1, hg, hc _ _ h0, by have := hc _ _ h1; rwa [← Nat.add_assoc] at this⟩
theorem Src.block {w : World} {g : Nat} {t : TypeId} {cs : List Value} (k : Blk w g t cs) {size m : Nat} (h : cs.length = m * size) : Src w size (some ⟨g, 0, none⟩) m cs := by
  refine ⟨h, .inr ⟨_, rfl, fun j u hu => ?_⟩⟩
  have e : (⟨g, 0, none⟩ : Addr).add j = ⟨g, j, none⟩ := by cases j <;> simp [Addr.add]
  rw [e, k.cell j]
  exact hu
def RelH (w : World) (n : Nat) (l : List Hd) (x : Hd) (iv : Value) (wr : World) : Prop := ∃ i : Nat, iv = .int .i64 i ∧ i ≤ n ∧ (∀ (j : Nat) y, j < i → l[j]? = some y → y ≠ x) ∧ Below w.heap.size w wr
def IxPost (w : World) (l : List Hd) (x : Hd) (e : Ending) (w' : World) : Prop := ∃ k : Int, e = .returned (.int .i64 k) ∧ (0 ≤ k ↔ x ∈ l) ∧ Below w.heap.size w w'
set_option maxRecDepth 100000 in
set_option maxHeartbeats 1000000 in
theorem index_h (w : World) (A : Option Addr) (n c : Nat) (l : List Hd) (hs : HsAt w A l) (hl : l.length = n) (hn : n ≤ 1000) (x : Hd) :
    Calls Try.prog 47 #[.slice A n c, hdv x] w (IxPost w l x) := by
  have HS := Lib.hid hs
  have HL := Lib.hid hl
  have B0 := Lib.hid (Blk.new w 40 [.int .i64 x.1, .int .u64 x.2])
  have W0 := Lib.hid ((Below.refl w.heap.size w).alloc (Nat.le_refl _) (.cells #[.int .i64 x.1, .int .u64 x.2] 40))
  clear hs hl
  obtain ⟨x1, x2⟩ := x
  unfold hdv
  simp only at B0 W0 ⊢
  go_enter Try.func47, Try.ntmps47
  go_wp2_with fail
  go_loopw [8] (fun iv wr => Hid (RelH w n l (x1, x2) iv wr ∧ Blk wr w.heap.size 40 [.int .i64 x1, .int .u64 x2])) (fun iv _ => (n - intOf iv).toNat)
  case atStart => exact ⟨⟨0, rfl, by omega, fun j y hj => by omega, W0.out⟩, B0.out⟩
  case round =>
    obtain ⟨⟨i, rfl, hi, hno, hb⟩, hx⟩ := hrel
    have NO := Lib.hid hno
    have HB := Lib.hid hb
    have HXB := Lib.hid hx
    have x0 := hx.cell 0
    have x1' := hx.cell 1
    have xl := hx.lt
    clear hno hb hx B0 W0
    by_cases hin : i < n
    · have hin2 : (i : Int) < n := by omega
      obtain ⟨y, hy⟩ : ∃ y, l[i]? = some y := ⟨_, List.getElem?_eq_getElem (by have := HL.out; omega)⟩
      obtain ⟨b, off, rfl, hlt, c0, c1⟩ := HS.out i y hy
      have c0 := (HB.out.cell (p := ⟨b, off + i * 2, none⟩) hlt).trans c0
      have c1 := (HB.out.cell (p := ⟨b, off + i * 2 + 1, none⟩) hlt).trans c1
      have hli := Nat.lt_of_lt_of_le hlt HB.out.size
      have g1 : IntKind.i64.wrap ((i : Int) + 1) = i + 1 := IntWalk.i64_in _ (by omega)
      have HY := Lib.hid hy
      clear hy
      obtain ⟨y1, y2⟩ := y
      simp only at c0 c1
      have no2 : (y1, y2) ≠ (x1, x2) → Hid (∀ (j : Nat) (z : Hd), j < i + 1 → l[j]? = some z → z ≠ (x1, x2)) := fun hne j z hj hz => by
        by_cases e : j = i
        · subst e
          have := HY.out
          rw [hz] at this
          injection this with this
          rw [this]; exact hne
        · exact NO.out j z (by omega) hz
      by_cases e1 : x1 = y1
      · subst e1
        have d1 : (x1 == x1) = true := beq_iff_eq.2 rfl
        by_cases e2 : x2 = y2
        · subst e2
          have d2 : (x2 == x2) = true := beq_iff_eq.2 rfl
          have HM := Lib.hid (List.mem_of_getElem? HY.out)
          clear no2
          go_wp2_with fail
          go_quiet (fail)
          go_wp2_with fail
          go_ret
          exact ⟨i, rfl, ⟨fun _ => HM.out, fun _ => by omega⟩, Below.drewN' HB.out _⟩
        · have d2 : (x2 == y2) = false := beq_eq_false_iff_ne.2 e2
          have N2 := no2 (fun h => e2 (by injection h with _ h; exact h.symm))
          clear no2 e2
          go_wp2_with fail
          go_quiet (fail)
          go_wp2_with fail
          go_roundw
          case rel => exact ⟨⟨i + 1, by go_num, by omega, N2.out, Below.drewN' HB.out _⟩, HXB.out.drewN _⟩
          case measure => simp [intOf]; omega
      · have d1 : (x1 == y1) = false := beq_eq_false_iff_ne.2 e1
        have N2 := no2 (fun h => e1 (by injection h with h _; exact h.symm))
        clear no2 e1
        go_wp2_with fail
        go_quiet (fail)
        go_wp2_with fail
        go_roundw
        case rel => exact ⟨⟨i + 1, by go_num, by omega, N2.out, Below.drewN' HB.out _⟩, HXB.out.drewN _⟩
        case measure => simp [intOf]; omega
    · obtain rfl : i = n := by omega
      have hin2 : ¬ (i : Int) < i := by omega
      have NM := Lib.hid (show (x1, x2) ∉ l from fun h => by
        obtain ⟨j, hj, e⟩ := List.mem_iff_getElem.1 h
        exact NO.out j (x1, x2) (by have := HL.out; omega) (by rw [← e]; exact List.getElem?_eq_getElem hj) rfl)
      go_wp2_with fail
      go_ret
      exact ⟨-1, rfl, ⟨fun h => by omega, fun h => (NM.out h).elim⟩, HB.out⟩
theorem contains_h (w : World) (A : Option Addr) (n c : Nat) (l : List Hd) (hs : HsAt w A l) (hl : l.length = n) (hn : n ≤ 1000) (x : Hd) :
    Calls Try.prog 44 #[.slice A n c, hdv x] w fun e w' => e = .returned (.bool (l.contains x)) ∧ Below w.heap.size w w' := by
  have W0 := Lib.hid ((Below.refl w.heap.size w).alloc (Nat.le_refl _) (.cells #[.int .i64 x.1, .int .u64 x.2] 40))
  have hs2 : HsAt (w.alloc (.cells #[.int .i64 x.1, .int .u64 x.2] 40)) A l := by
    intro i y hy
    obtain ⟨b, off, e, hb, h0, h1⟩ := hs i y hy
    exact ⟨b, off, e, Nat.lt_of_lt_of_le hb W0.out.size, (W0.out.cell (p := ⟨b, _, none⟩) hb).trans h0, (W0.out.cell (p := ⟨b, _, none⟩) hb).trans h1⟩
  have C := Lib.hid (index_h _ A n c l hs2 hl hn x)
  have HC : ∀ m, l.contains x = m → Hid (l.contains x = m) := fun m h => h
  obtain ⟨m, hm⟩ : ∃ m, l.contains x = m := ⟨_, rfl⟩
  have HM := HC m hm
  rw [hm]
  obtain ⟨x1, x2⟩ := x
  unfold hdv at *
  simp only at C W0 ⊢
  clear hs hs2 hl hm HC
  go_enter Try.func44, Try.ntmps44
  go_wp2_with fail
  go_at_call 47
  (with_reducible refine Calls.mono C.out ?_)
  rintro e w1 ⟨k, rfl, hk, b1⟩
  have B1 := Lib.hid (Below.next W0.out b1)
  have e1 : decide (0 ≤ k) = m := by
    cases m with
    | true => exact decide_eq_true (hk.2 (List.contains_iff_mem.1 HM.out))
    | false => exact decide_eq_false (fun h => by have := List.contains_iff_mem.2 (hk.1 h); rw [HM.out] at this; cases this)
  clear hk b1
  go_wp2_with fail
  go_ret
  exact ⟨rfl, B1.out⟩
/-- The buffers, each once. -/
def bufsUp (ps : List Pc) : Nat → List Hd
  | 0 => []
  | k + 1 => match ps[k]? with
    | some x => if (bufsUp ps k).contains (x.s, x.g) then bufsUp ps k else bufsUp ps k ++ [(x.s, x.g)]
    | none => bufsUp ps k
theorem bufsUp_len (ps : List Pc) (k : Nat) : (bufsUp ps k).length ≤ k := by
  induction k with
  | zero => exact Nat.le_refl _
  | succ k ih =>
    simp only [bufsUp]
    split
    · split
      · omega
      · rw [List.length_append, List.length_singleton]; omega
    · omega
theorem infoHd : (Try.prog.info? 40).map (fun i => (i.zero, i.size, i.bytes)) = some (some (.agg #[.int .i64 0, .int .u64 0]), 2, 16) := by kernel_rfl
def RelB (w : World) (ps : List Pc) (n : Nat) (ov iv : Value) (wr : World) : Prop :=
  ∃ i : Nat, iv = .int .i64 i ∧ i ≤ n ∧ Slc wr 40 2 ov (bufsUp ps i).length (hcells (bufsUp ps i)) ∧ (∀ g, ov.ownBlock = some g → w.heap.size ≤ g) ∧ Below w.heap.size w wr
def BPost (w : World) (ps : List Pc) (e : Ending) (w' : World) : Prop :=
  ∃ A c, e = .returned (.slice A (bufsUp ps ps.length).length c) ∧ Slc w' 40 2 (.slice A (bufsUp ps ps.length).length c) (bufsUp ps ps.length).length (hcells (bufsUp ps ps.length)) ∧ (∀ g, (Value.slice A (bufsUp ps ps.length).length c).ownBlock = some g → w.heap.size ≤ g) ∧ Below w.heap.size w w'
set_option maxRecDepth 100000 in
set_option maxHeartbeats 2000000 in
theorem bufs_any {w : World} (A : Option Addr) (len cap : Nat) (ps : List Pc) (hc : PsAt w A ps) (hl : ps.length = len) (h16 : len ≤ 16) :
    Calls Try.prog 32 #[.slice A len cap] w (BPost w ps) := by
  have HC := Lib.hid hc
  have HL := Lib.hid hl
  obtain ⟨i0, hi0, hz0, hz1, hz2⟩ := info_parts infoHd
  clear hc hl
  go_enter Try.func32, Try.ntmps32
  go_wp2_with fail
  go_loopw [3, 8] (fun ov iv wr => Hid (RelB w ps len ov iv wr)) (fun _ iv _ => (len - intOf iv).toNat)
  case atStart => exact ⟨0, rfl, by omega, Slc.nil _ _ _, fun g e => by simp [Value.ownBlock] at e, Below.refl _ _⟩
  case round =>
    obtain ⟨i, rfl, hi, ho, hown, hbb⟩ := hrel
    obtain ⟨Ao, co, rfl, hco⟩ := ho.shape
    have HO := Lib.hid ho
    have HW := Lib.hid hown
    have HB := Lib.hid hbb
    have UL := bufsUp_len ps i
    clear ho hown hbb
    by_cases hin : i < len
    · have hin2 : (i : Int) < len := by omega
      obtain ⟨x, hx⟩ : ∃ x, ps[i]? = some x := ⟨_, List.getElem?_eq_getElem (by have := HL.out; omega)⟩
      obtain ⟨b, off, rfl, hlt, c0, c1, c2, c3⟩ := HC.out i x hx
      have c0 := (HB.out.cell (p := ⟨b, off + i * 4, none⟩) hlt).trans c0
      have c1 := (HB.out.cell (p := ⟨b, off + i * 4 + 1, none⟩) hlt).trans c1
      have c2 := (HB.out.cell (p := ⟨b, off + i * 4 + 2, none⟩) hlt).trans c2
      have c3 := (HB.out.cell (p := ⟨b, off + i * 4 + 3, none⟩) hlt).trans c3
      have hli := Nat.lt_of_lt_of_le hlt HB.out.size
      have g1 : IntKind.i64.wrap ((i : Int) + 1) = i + 1 := IntWalk.i64_in _ (by omega)
      have B0 := Lib.hid (Blk.new wr 42 (pcc x))
      have BB := Lib.hid (HB.out.alloc HB.out.size (.cells ⟨pcc x⟩ 42))
      have HO1 := Lib.hid (HO.out.alloc (.cells ⟨pcc x⟩ 42))
      have C := Lib.hid (contains_h _ Ao (bufsUp ps i).length co (bufsUp ps i) (HsAt.of HO1.out) rfl (by omega) (x.s, x.g))
      have GS := Lib.hid (show bufsUp ps (i + 1) = if (bufsUp ps i).contains (x.s, x.g) then bufsUp ps i else bufsUp ps i ++ [(x.s, x.g)] by simp only [bufsUp, hx])
      obtain ⟨m, hm⟩ : ∃ m, (bufsUp ps i).contains (x.s, x.g) = m := ⟨_, rfl⟩
      rw [hm] at C GS
      obtain ⟨x1, x2, x3, x4⟩ := x
      unfold pcc at *
      unfold hdv at C
      simp only at c0 c1 c2 c3 BB C GS B0 HO1
      clear hx hm HO HB
      cases m with
      | true =>
        have GS := Lib.hid (show bufsUp ps (i + 1) = bufsUp ps i by rw [GS.out]; rfl)
        go_wp2_with (go_at_call 44; (with_reducible refine Calls.mono C.out ?_); rintro e w2 ⟨rfl, b2⟩; have HO2 := Lib.hid (HO1.out.below b2 (fun g hg => HO1.out.lt hg)); have B2 := Lib.hid (Below.next BB.out b2); clear b2)
        go_roundw
        case rel => exact ⟨i + 1, by go_num, by omega, by rw [GS.out]; exact HO2.out, HW.out, B2.out⟩
        case measure => simp [intOf]; omega
      | false =>
        have GS := Lib.hid (show bufsUp ps (i + 1) = bufsUp ps i ++ [(x1, x2)] by rw [GS.out]; rfl)
        go_wp2_with fail
        go_at_call 44
        (with_reducible refine Calls.mono C.out ?_)
        rintro e w2 ⟨rfl, b2⟩
        have HO2 := Lib.hid (HO1.out.below b2 (fun g hg => HO1.out.lt hg))
        have B2 := Lib.hid (Below.next BB.out b2)
        have b02 := B0.out.below b2 B0.out.lt
        have z0 := b02.cell 0
        have z1 := b02.cell 1
        have z2 := b02.cell 2
        have z3 := b02.cell 3
        have zl := b02.lt
        clear b2 b02
        go_wp2_with (at_builtin; refine wpList_append_slc _ rfl (.tmp 17) (.tmp 20) _ rfl 40 i0 _ 2 16 Try.underlying77 hi0 hz0 hz1 hz2 rfl (by omega) (.slice Ao (bufsUp ps i).length co) (bufsUp ps i).length (hcells (bufsUp ps i)) rfl (Slc.alloc HO2.out _) (some ⟨w2.heap.size, 0, none⟩) 1 1 [.int .i64 x1, .int .u64 x2] rfl (Src.block (Blk.new w2 40 [.int .i64 x1, .int .u64 x2]) rfl) (by simp [Value.oneCell']) (by omega) (by simp only [maxLen]; omega) ?_)
        intro v3 w3 hs3 ho3 hat3
        obtain ⟨A3, c3', e3, -⟩ := hs3.shape
        subst e3
        have ow : ∀ g, (Value.slice A3 ((bufsUp ps i).length + 1) c3').ownBlock = some g → w.heap.size ≤ g := fun g e => by
          rcases hat3 with h | h
          · rw [h] at e; exact HW.out g e
          · rw [h] at e; injection e with e; have := B2.out.size; omega
        have B3 := Lib.hid (Below.onlyF (B2.out.alloc B2.out.size _) ho3 (fun g h => HW.out g h))
        have H3 := Lib.hid (show Slc w3 40 2 (.slice A3 ((bufsUp ps i).length + 1) c3') (bufsUp ps (i + 1)).length (hcells (bufsUp ps (i + 1))) by rw [GS.out, List.length_append, hcells_app]; exact hs3)
        have OW := Lib.hid ow
        clear hs3 ho3 hat3 ow z0 z1 z2 z3 zl
        go_wp2_with fail
        go_roundw
        case rel => exact ⟨i + 1, by go_num, by omega, H3.out, OW.out, B3.out⟩
        case measure => simp [intOf]; omega
    · obtain rfl : i = len := by omega
      have hin2 : ¬ (i : Int) < i := by omega
      go_wp2_with fail
      go_ret
      have hO := HO.out
      have hW := HW.out
      rw [← HL.out] at hO hW ⊢
      exact ⟨_, _, rfl, hO, hW, HB.out⟩
end Go.Proofs.Ytajcjepolfmhmaa
