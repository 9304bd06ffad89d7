/- Layer 8 (pieces): Scatter. -/
import Derived.Test.YtajcjepolfmhmaaPiecesD
import Derived.Test.YtajcjepolfmhmaaPiecesE
import Derived.Test.YtajcjepolfmhmaaPoolGet
namespace Go.Proofs.Ytajcjepolfmhmaa
open Go.RowKit Go.Shelf
set_option linter.unusedVariables false
set_option linter.unusedSimpArgs false
attribute [local go_sem] Oper.semAt_some
/-- The bytes of L that are the piece x's, which begins at at. -/
def partB (L : List Int) (at_ n : Int) : List Int := (L.drop at_.toNat).take ((if at_ + n < L.length then at_ + n else (L.length : Int)) - at_).toNat
def stepW (ps : List Pc) (by_ : Int) (L : List Int) (bs : List Bf) (k : Nat) : List Bf :=
  match ps[k]? with
  | some x => if (L.length : Int) ≤ atP ps k then bs else (writeQ x.s x.g by_ x.f (partB L (atP ps k) x.n) bs).2
  | none => bs
theorem writeQ_len {bs : List Bf} (hl : ∀ b ∈ bs, b.bytes.length ≤ 65536) (s g by_ at_ : Int) (k : List Int) : ∀ b ∈ (writeQ s g by_ at_ k bs).2, b.bytes.length ≤ 65536 := by
  unfold writeQ
  cases h : look bs s g with
  | none => exact hl
  | some ib =>
    obtain ⟨i, b⟩ := ib
    have hb := hl b (List.mem_of_getElem? (look_some h).2.2.1)
    intro c hc
    simp only at hc
    rcases List.mem_or_eq_of_mem_set hc with hc | rfl
    · exact hl c hc
    · unfold writeB
      split
      · exact hb
      · split
        · exact hb
        · split
          · exact hb
          · rename_i h1 h2 h3
            simp only
            rw [over_length _ _ _ (by omega)]
            exact hb
theorem stepW_len {bs : List Bf} (hl : ∀ b ∈ bs, b.bytes.length ≤ 65536) (ps : List Pc) (by_ : Int) (L : List Int) (k : Nat) : ∀ b ∈ stepW ps by_ L bs k, b.bytes.length ≤ 65536 := by
  unfold stepW
  split
  · split
    · exact hl
    · exact writeQ_len hl _ _ _ _ _
  · exact hl
def scatF (ps : List Pc) (by_ : Int) (L : List Int) (bs : List Bf) (m : Nat) : List Bf := (List.range m).foldl (stepW ps by_ L) bs
theorem atP_mono (ps : List Pc) {j k : Nat} (h : j ≤ k) : atP ps j ≤ atP ps k := by
  induction k with
  | zero => obtain rfl : j = 0 := (by omega); exact Int.le_refl _
  | succ k ih =>
    by_cases e : j = k + 1
    · subst e; exact Int.le_refl _
    · have := ih (by omega)
      simp only [atP]
      split
      · rename_i x _; have := lenP_le x; omega
      · omega
/-- Behind the bytes nothing is written. -/
theorem scatF_rest (ps : List Pc) (by_ : Int) (L : List Int) (bs : List Bf) {k m : Nat} (h : (L.length : Int) ≤ atP ps k) (hkm : k ≤ m) : scatF ps by_ L bs m = scatF ps by_ L bs k := by
  induction m with
  | zero => obtain rfl : k = 0 := (by omega); rfl
  | succ m ih =>
    by_cases e : k = m + 1
    · subst e; rfl
    · have h2 := atP_mono ps (show k ≤ m by omega)
      rw [← ih (by omega)]
      unfold scatF
      rw [List.range_succ, List.foldl_append]
      simp only [List.foldl_cons, List.foldl_nil]
      unfold stepW
      split
      · rw [if_pos (by omega)]
      · rfl
/-- What Scatter answers, and what comes to be the buffers. -/
def scatQ (bs : List Bf) (ps : List Pc) (by_ : Int) (L : List Int) (r : Int × Int × List Bf) : Prop :=
  (¬ mayL bs ps ∧ r = (0, 1, bs)) ∨ (mayL bs ps ∧ allB bs ps by_ = false ∧ r = (0, 8, bs)) ∨
  (mayL bs ps ∧ allB bs ps by_ = true ∧ r = (if atP ps ps.length < L.length then atP ps ps.length else (L.length : Int), 0, scatF ps by_ L bs ps.length))
def ScI (N : Nat) (P : Pl) (bs : List Bf) (A : Option Addr) (len cap : Nat) (ps : List Pc) (by_ : Int) (bA : Option Addr) (bc : Nat) (L : List Int) (w : World) (pre : List (Rd' len)) (W : World) : Prop :=
  IsP W P ((pre.map (fun x => x.1)).foldl (stepW ps by_ L) bs) ∧ (∀ b ∈ (pre.map (fun x => x.1)).foldl (stepW ps by_ L) bs, b.bytes.length ≤ 65536) ∧ Blk W N 25 [.pointer (some ⟨P.p, 0, none⟩)] ∧ Blk W (N + 1) 22 [.slice A len cap] ∧
  Blk W (N + 1 + 1) 3 [.int .i64 by_] ∧ Blk W (N + 1 + 1 + 1) 23 [.slice bA L.length bc] ∧ PsAt W A ps ∧ Src W 1 bA L.length (byteCells L) ∧ Only P.own w W
/-- What stands behind, where nothing panics. -/
def noP (Q : Exit → Act → World → Prop) : Exit → Act → World → Prop
  | .panic _, _, _ => False
  | e, a, w => Q e a w
theorem noP_imp {Q : Exit → Act → World → Prop} {e : Exit} {a : Act} {w : World} (h : noP Q e a w) : Q e a w := by
  cases e <;> first | exact h | exact h.elim
def S13 (N : Nat) (A : Option Addr) (len cap : Nat) (bA : Option Addr) (m bc : Nat) (W : World) : Prop := Blk W (N + 1) 22 [.slice A len cap] ∧ Blk W (N + 1 + 1 + 1) 23 [.slice bA m bc]
def SS (N : Nat) (P : Pl) (b off len cap k : Nat) (by_ : Int) (bA : Option Addr) (m bc : Nat) (x : Pc) (W : World) : Prop :=
  Blk W N 25 [.pointer (some ⟨P.p, 0, none⟩)] ∧ Blk W (N + 1) 22 [.slice (some ⟨b, off, none⟩) len cap] ∧ Blk W (N + 1 + 1) 3 [.int .i64 by_] ∧ Blk W (N + 1 + 1 + 1) 23 [.slice bA m bc] ∧
  W.cell? ⟨b, off + k * 4, none⟩ = some (.int .i64 x.s) ∧ W.cell? ⟨b, off + k * 4 + 1, none⟩ = some (.int .u64 x.g) ∧ W.cell? ⟨b, off + k * 4 + 2, none⟩ = some (.int .i64 x.f) ∧ W.cell? ⟨b, off + k * 4 + 3, none⟩ = some (.int .i64 x.n) ∧ b < W.heap.size
theorem keepsFrom_only {F : Nat → Prop} {B : Nat} {W W' : World} (o : Only F W W') (hF : ∀ g, F g → g < B) : KeepsFrom B W W' :=
  ⟨o.size, fun i p hB hi _ => (o.block i (Array.getElem?_eq_some_iff.1 hi).1 (fun h => by have := hF i h; omega)).trans hi⟩
theorem partB_eq {L : List Int} {a m : Nat} {n : Int} (h : (if (a : Int) + n < L.length then (a : Int) + n else (L.length : Int)) = m) : partB L a n = (L.drop a).take (m - a) := by
  unfold partB
  rw [h, Int.toNat_natCast, show ((m : Int) - (a : Int)).toNat = m - a by omega]
theorem partB_len {L : List Int} {a m : Nat} {n : Int} (h : (if (a : Int) + n < L.length then (a : Int) + n else (L.length : Int)) = m) (h1 : a ≤ m) (h2 : m ≤ L.length) : (partB L a n).length = m - a := by
  rw [partB_eq h, List.length_take, List.length_drop]
  omega
theorem partB_src {w : World} {L : List Int} {d o m a : Nat} {n : Int} (hs : Src w 1 (some ⟨d, o, none⟩) L.length (byteCells L)) (h : (if (a : Int) + n < L.length then (a : Int) + n else (L.length : Int)) = m) (h1 : a < m) (h2 : m ≤ L.length) :
    Src w 1 (some ⟨d, o + a, none⟩) (partB L a n).length (byteCells (partB L a n)) := by
  refine ⟨by simp [byteCells], .inr ⟨_, rfl, fun j u hu => ?_⟩⟩
  rcases hs.2 with e | ⟨ad, e, hc⟩
  · omega
  · injection e with e
    subst e
    rw [partB_eq h] at hu
    have hu2 : (byteCells L)[a + j]? = some u := by
      unfold byteCells at hu ⊢
      rw [List.getElem?_map, List.getElem?_take] at hu
      rw [List.getElem?_map]
      split at hu
      · rw [List.getElem?_drop] at hu; exact hu
      · cases hu
    have := hc (a + j) u hu2
    rw [Addr.add_lit] at this ⊢
    rwa [Nat.add_assoc]
def ScX (N : Nat) (P : Pl) (bs : List Bf) (A : Option Addr) (len cap : Nat) (ps : List Pc) (by_ : Int) (bA : Option Addr) (bc : Nat) (L : List Int) (w : World) (c : Code) (pre : List (Rd' len)) (W : World) : Prop :=
  c = .exit 1 ∧ ∃ ini k, pre = ini ++ [k] ∧ (L.length : Int) ≤ atP ps k.1 ∧ ScI N P bs A len cap ps by_ bA bc L w ini W
theorem Src.kept {W W' : World} {row : Option Nat} {size m : Nat} {A : Option Addr} {news : List Value} (h : Src W size A m news) (hg : W.grownBy W' row) (hr : ∀ r, row = some r → ∃ o : Obj, W.heap[r]? = some o ∧ o.isCells = false) : Src W' size A m news :=
  ⟨h.1, h.2.imp_right fun ⟨ad, e, hc⟩ => ⟨ad, e, fun j u hu => cell_kept (hc j u hu) hg hr⟩⟩
theorem only_of_row {F : Nat → Prop} {B : Nat} {w W W' : World} {row : Option Nat} (o : Only F w W) (hg : W.grownBy W' row) (hr : ∀ r, row = some r → B ≤ r) (hB : w.heap.size ≤ B) : Only F w W' :=
  o.trans (Only.of_grown (F := fun g => B ≤ g) hg (fun r e _ => hr r e)) (fun i hi h => by omega)
theorem scI_own (N : Nat) (P : Pl) (bs : List Bf) (A : Option Addr) (len cap : Nat) (ps : List Pc) (by_ : Int) (bA : Option Addr) (bc : Nat) (L : List Int) (w : World) (B : Nat) (hB : w.heap.size ≤ B) (hP : ∀ g, P.all g → g < B) : OwnFrom B (ScI N P bs A len cap ps by_ bA bc L w) := fun s X Y row hs hg hr => by
  have hr' : ∀ r, row = some r → ∃ o : Obj, X.heap[r]? = some o ∧ o.isCells = false := fun r e => (hr r e).2
  obtain ⟨a1, a2, a3, a4, a5, a6, a7, a8, a9⟩ := hs
  exact ⟨a1.only (Only.of_grown (F := fun g => B ≤ g) hg (fun r e _ => (hr r e).1)) (fun i h hp => by have := hP i hp; omega), a2, a3.kept hg hr', a4.kept hg hr', a5.kept hg hr', a6.kept hg hr', a7.kept hg hr', a8.kept hg hr', only_of_row a9 hg (fun r e => (hr r e).1) hB⟩
theorem scX_own (N : Nat) (P : Pl) (bs : List Bf) (A : Option Addr) (len cap : Nat) (ps : List Pc) (by_ : Int) (bA : Option Addr) (bc : Nat) (L : List Int) (w : World) (c : Code) (B : Nat) (hB : w.heap.size ≤ B) (hP : ∀ g, P.all g → g < B) : OwnFrom B (ScX N P bs A len cap ps by_ bA bc L w c) := fun s X Y row hs hg hr => by
  obtain ⟨e, ini, k, h1, h2, h3⟩ := hs
  exact ⟨e, ini, k, h1, h2, scI_own N P bs A len cap ps by_ bA bc L w B hB hP ini X Y row h3 hg hr⟩
set_option maxRecDepth 100000 in
set_option maxHeartbeats 2000000 in
theorem scatter_any {w : World} {P : Pl} {bs : List Bf} (k : IsP w P bs) (hb : ∀ b ∈ bs, b.bytes.length ≤ 65536) (A : Option Addr) (len cap : Nat) (ps : List Pc) (hl : ps.length = len) (h16 : len ≤ 16) (hlc : len ≤ cap) (hc : PsAt w A ps) (hA : ∀ a, A = some a → a.block < w.heap.size ∧ ¬ P.all a.block) (hA0 : len = 0 → A = none ∨ ∃ b off, A = some ⟨b, off, none⟩)
    (by_ : Int) (bA : Option Addr) (bc : Nat) (L : List Int) (hL : L.length ≤ 65536) (hLc : L.length ≤ bc) (hs : Src w 1 bA L.length (byteCells L)) (hbA : ∀ a, bA = some a → a.spot = none ∧ a.block < w.heap.size ∧ ¬ P.all a.block) :
    Calls Try.prog 10 #[.pointer (some ⟨P.p, 0, none⟩), .slice A len cap, .int .i64 by_, .slice bA L.length bc] w fun e w' => ∃ r, scatQ bs ps by_ L r ∧ e = .returned (.tuple #[.int .i64 r.1, .int .i64 r.2.1]) ∧ IsP w' P r.2.2 ∧ Only P.own w w' := by
  obtain ⟨W4, hW4⟩ : ∃ W4, (((w.alloc (.cells #[.pointer (some ⟨P.p, 0, none⟩)] 25)).alloc (.cells #[.slice A len cap] 22)).alloc (.cells #[.int .i64 by_] 3)).alloc (.cells #[.slice bA L.length bc] 23) = W4 := ⟨_, rfl⟩
  have b0 : Blk W4 w.heap.size 25 [.pointer (some ⟨P.p, 0, none⟩)] := by rw [← hW4]; exact (((Blk.new w 25 [.pointer (some ⟨P.p, 0, none⟩)]).alloc _).alloc _).alloc _
  have b1 : Blk W4 (w.heap.size + 1) 22 [.slice A len cap] := by rw [← hW4]; have h := Blk.new (w.alloc (.cells #[.pointer (some ⟨P.p, 0, none⟩)] 25)) 22 [.slice A len cap]; rw [World.size_alloc] at h; exact (h.alloc _).alloc _
  have b2 : Blk W4 (w.heap.size + 1 + 1) 3 [.int .i64 by_] := by rw [← hW4]; have h := Blk.new ((w.alloc (.cells #[.pointer (some ⟨P.p, 0, none⟩)] 25)).alloc (.cells #[.slice A len cap] 22)) 3 [.int .i64 by_]; rw [World.size_alloc, World.size_alloc] at h; exact h.alloc _
  have b3 : Blk W4 (w.heap.size + 1 + 1 + 1) 23 [.slice bA L.length bc] := by rw [← hW4]; have h := Blk.new (((w.alloc (.cells #[.pointer (some ⟨P.p, 0, none⟩)] 25)).alloc (.cells #[.slice A len cap] 22)).alloc (.cells #[.int .i64 by_] 3)) 23 [.slice bA L.length bc]; rw [World.size_alloc, World.size_alloc, World.size_alloc] at h; exact h
  have hB4 : Below w.heap.size w W4 := by rw [← hW4]; exact ((((Below.refl _ w).alloc (Nat.le_refl _) _).alloc (by simp) _).alloc (by simp; omega) _).alloc (by simp; omega) _
  have MY := fun W (o : Below w.heap.size w W) => Lib.hid (mayl_any (k.below o) hb A len cap ps (hc.below o) hl h16 hlc hA0)
  have AL := fun W (o : Below w.heap.size w W) => Lib.hid (alll_any (k.below o) A len cap ps (hc.below o) hl (by omega) by_)
  have BW4 := Lib.hid hB4
  have C0 := Lib.hid b0
  have C1 := Lib.hid b1
  have C2 := Lib.hid b2
  have C3 := Lib.hid b3
  have KP := Lib.hid k
  have HW4 := Lib.hid hW4
  obtain ⟨al, hal⟩ : ∃ al, allB bs ps by_ = al := ⟨_, rfl⟩
  have HAL := Lib.hid hal
  rw [hal] at AL
  clear b0 b1 b2 b3 hB4 k hW4 hal
  refine (callsIn_wide (n := 3)).1 ?_
  refine callsIn_of_wp_marks Try.func10 rfl trivial ?_ rfl
  simp only [Try.ntmps10, List.size_toArray, List.length_cons, List.length_nil, Nat.reduceAdd, Nat.reduceSub, Array.replicate_succ, Array.replicate_zero, List.push_toArray, List.append_toArray, List.nil_append, List.cons_append]
  gi_wp2
  rw [HW4.out]
  refine ⟨trivial, ?_⟩
  refine (callsIn_wide.2 (MY _ BW4.out).out).mono ?_
  rintro e w5 ⟨r, rfl, hr, b5⟩
  have B5 := Lib.hid (Below.next BW4.out b5)
  have D0 := Lib.hid (C0.out.below b5 C0.out.lt)
  have D1 := Lib.hid (C1.out.below b5 C1.out.lt)
  have D2 := Lib.hid (C2.out.below b5 C2.out.lt)
  have D3 := Lib.hid (C3.out.below b5 C3.out.lt)
  have HR := Lib.hid hr
  have e0 := D0.out.cell 0
  have e1 := D1.out.cell 0
  have e2 := D2.out.cell 0
  have l0 := D0.out.lt
  have l1 := D1.out.lt
  have l2 := D2.out.lt
  clear b5 C0 C1 C2 C3 MY hr
  cases r with
  | false =>
    gi_wp2
    exact ⟨_, by simp [results, Try.f10, go_sem], (0, 1, bs), .inl ⟨fun h => (by have := HR.out.2 h; cases this), rfl⟩, rfl, KP.out.below B5.out, Only.of_below B5.out⟩
  | true =>
    gi_wp2
    refine ⟨trivial, ?_⟩
    refine (callsIn_wide.2 (AL _ B5.out).out).mono ?_
    rintro e w6 ⟨rfl, b6⟩
    have B6 := Lib.hid (Below.next B5.out b6)
    have E0 := Lib.hid (D0.out.below b6 D0.out.lt)
    have E1 := Lib.hid (D1.out.below b6 D1.out.lt)
    have E2 := Lib.hid (D2.out.below b6 D2.out.lt)
    have E3 := Lib.hid (D3.out.below b6 D3.out.lt)
    have e1 := E1.out.cell 0
    have l1 := E1.out.lt
    clear b6 D0 D1 D2 D3 AL e0 e2 l0 l2
    cases al with
    | false =>
      gi_wp2
      exact ⟨_, by simp [results, Try.f10, go_sem], (0, 8, bs), .inr (.inl ⟨HR.out.1 trivial, HAL.out, rfl⟩), rfl, KP.out.below B6.out, Only.of_below B6.out⟩
    | true =>
      gi_wp2
      refine ⟨trivial, ?_⟩
      refine (spans_in _ _ _ _ _).mono ?_
      rintro e w7 ⟨rfl, rfl⟩
      gi_wp2
      have bS := Boxed.new w6 22 (.slice A len cap)
      have hB7 : Below w.heap.size w (w6.alloc (.cells #[.slice A len cap] 22)) := B6.out.alloc B6.out.size _
      have hz6 := B6.out.size
      have hPl : ∀ g, P.all g → g < w.heap.size := fun g h => KP.out.lt h
      refine wpIn_rangeFunc_ownG rfl (by decide) (gf := 41) (lb := #[.pointer (some ⟨w6.heap.size, 0, none⟩)]) rfl trivial (enters_of Try.func41 (by kernel_rfl) rfl)
        (spans_stops 2 (by decide) w6.heap.size len cap A ps hl h16 P.own (fun h => by have := hPl _ (.inr (.inr h)); omega) (fun a e h => (hA a e).2 (.inr (.inr h))) _ (fun g h => by have := hPl _ (.inr (.inr h)); simp; omega) bS.cell (hc.below hB7)) KeepsC.trans keepsC_b (Below.refl _ _) (fun _ => rfl)
        (ScI w.heap.size P bs A len cap ps by_ bA bc L w)
        (ScX w.heap.size P bs A len cap ps by_ bA bc L w)
        (scI_own _ _ _ _ _ _ _ _ _ _ _ _ _ (by simp; omega) (fun g h => by have := hPl _ h; simp; omega))
        (fun c => scX_own _ _ _ _ _ _ _ _ _ _ _ _ _ _ (by simp; omega) (fun g h => by have := hPl _ h; simp; omega))
        ⟨KP.out.below hB7, hb, E0.out.alloc _, E1.out.alloc _, E2.out.alloc _, E3.out.alloc _, hc.below hB7, hs.below hB7, Only.of_below hB7⟩
        (fun x => { tmps := #[.pointer (some ⟨P.p, 0, none⟩), .slice A len cap, .int .i64 by_, .slice bA L.length bc, .pointer (some ⟨w.heap.size, 0, none⟩), .pointer (some ⟨w.heap.size + 1, 0, none⟩), .pointer (some ⟨w.heap.size + 1 + 1, 0, none⟩), .pointer (some ⟨w.heap.size + 1 + 1 + 1, 0, none⟩), .int .i64 0, .int .i64 0, .int .i64 (x.1 : Nat), .int .i64 (atP ps x.1), .bool false, .pointer (some ⟨P.p, 0, none⟩), .slice A len cap, .bool true, .bool false, .bool false, .pointer (some ⟨P.p, 0, none⟩), .slice A len cap, .int .i64 by_, .bool true, .bool false, .slice A len cap, .func (.func 41) #[] #[.pointer (some ⟨w6.heap.size, 0, none⟩)], .int .i64 (x.1 : Nat), .int .i64 (atP ps x.1), undef, undef, undef, undef, undef, undef, undef, undef, undef, undef, undef, undef, undef, undef, undef, undef, undef, undef, undef, undef, undef, undef, undef, undef, undef, undef, undef, undef, undef, undef, undef, undef, undef, undef, undef], defers := [] }) ?assign ?body ?done ?stop
      case assign =>
        intro l x W K hK
        gi_wp2
        exact hK
      case body =>
        rintro l pre ⟨k, hk⟩ W ⟨hP, hbl, h0, h1, h2, h3, h4, h5, h6⟩ _
        have hmx : Try.prog.follows .mixedOrders = true := by kernel_rfl
        have hd : 1 ≤ 3 - 1 - 1 := by decide
        obtain ⟨x, hx⟩ : ∃ x, ps[k]? = some x := ⟨_, List.getElem?_eq_getElem (by omega)⟩
        have s3 := h3.cell 0
        have z3 := h3.lt
        have a0 := (atP_le ps k).1
        have a1 := (atP_le ps k).2
        by_cases hat : (L.length : Int) ≤ atP ps k
        · have f1 : decide ((L.length : Int) ≤ atP ps k) = true := decide_eq_true hat
          gi_wp2
          exact ⟨KeepsFrom.refl _ _, rfl, pre, ⟨k, hk⟩, rfl, hat, hP, hbl, h0, h1, h2, h3, h4, h5, h6⟩
        · have f1 : decide ((L.length : Int) ≤ atP ps k) = false := decide_eq_false hat
          obtain ⟨an, han⟩ : ∃ an : Nat, atP ps k = an := ⟨(atP ps k).toNat, by omega⟩
          have f3 : ¬ L.length ≤ an := by omega
          have f4 : decide (L.length ≤ an) = false := decide_eq_false f3
          have mL := HR.out.1 trivial
          have m1 := (mL.1 k x (by omega) hx).1
          have xn : (1 ≤ x.n ∧ x.n ≤ 65536) ∧ 0 ≤ x.f ∧ x.f ≤ 65536 := by
            have z := sizeQ_le hb x.s x.g
            unfold may1 at m1
            simp only [Bool.and_eq_true, decide_eq_true_eq] at m1
            omega
          have g1 : IntKind.i64.wrap ((an : Int) + x.n) = an + x.n := IntWalk.i64_in _ (by omega)
          obtain ⟨mn, hmn⟩ : ∃ mn : Nat, (if (an : Int) + x.n < (L.length : Int) then (an : Int) + x.n else (L.length : Int)) = mn := ⟨(if (an : Int) + x.n < (L.length : Int) then (an : Int) + x.n else (L.length : Int)).toNat, by split <;> omega⟩
          have hm1 : an < mn := by rw [han] at hat; split at hmn <;> omega
          have hm2 : mn ≤ L.length := by split at hmn <;> omega
          obtain ⟨ad, rfl⟩ : ∃ ad, bA = some ad := by
            rcases h5.2 with e | ⟨ad, e, -⟩
            · omega
            · exact ⟨ad, e⟩
          obtain ⟨d, o, sp⟩ := ad
          obtain rfl : sp = none := (hbA _ rfl).1
          obtain ⟨b, off, rfl, hbs, c0, c1, c2, c3⟩ := h4 k x hx
          have PL := partB_len hmn (by omega) hm2
          have WR := writep_any hP.drew x.s x.g by_ x.f (partB L an x.n) (some ⟨d, o + an, none⟩) (bc - an) hbl (by rw [PL]; omega) (by omega) (by omega) (partB_src h5 hmn hm1 hm2)
          rw [PL] at WR
          have WRH := Lib.hid WR
          have ST := Lib.hid (show stepW ps by_ L ((pre.map (fun x => x.1)).foldl (stepW ps by_ L) bs) k = (writeQ x.s x.g by_ x.f (partB L an x.n) ((pre.map (fun x => x.1)).foldl (stepW ps by_ L) bs)).2 from by
            unfold stepW; rw [hx]; simp only; rw [if_neg hat, han])
          have HSD : Hid (SS w.heap.size P b off len cap k by_ (some ⟨d, o, none⟩) L.length bc x W.drew) := ⟨h0.drew, h1.drew, h2.drew, h3.drew, c0, c1, c2, c3, hbs⟩
          have H0 := Lib.hid h0
          have H1 := Lib.hid h1
          have H2 := Lib.hid h2
          have H3 := Lib.hid h3
          have H4 := Lib.hid h4
          have H5 := Lib.hid h5
          have H6 := Lib.hid h6
          have HBL := Lib.hid hbl
          have SB := Lib.hid (stepW_len hbl ps by_ L k)
          have hkl : (k : Int) < (len : Int) := by omega
          have i1 : (an : Int) ≤ (mn : Int) := by omega
          have i2 : (mn : Int) ≤ (bc : Int) := by omega
          have i3 : (an : Int) ≤ (bc : Int) := by omega
          have n1 : ¬ bc = an := by omega
          have n2 : ¬ an = bc := by omega
          have n3 : ((an : Int) == (bc : Int)) = false := beq_eq_false_iff_ne.2 (by omega)
          have HAT := Lib.hid hat
          obtain ⟨x1, x2, x3, x4⟩ := x
          simp only at g1 hmn c0 c1 c2 c3
          clear hP hbl h0 h1 h2 h3 h4 h5 h6 WR PL mL m1 xn hm1 hm2 hx hat c0 c1 c2 c3 hs
          gi_wp2
          refine wpIn_region_zone (SS w.heap.size P b off len cap k by_ (some ⟨d, o, none⟩) L.length bc ⟨x1, x2, x3, x4⟩) (fun j => true) (by kernel_rfl) ?_
          refine wpAnyZI_take (fun _ => trivial) (by kernel_rfl) (i := 0) (v := ?_) rfl (by kernel_rfl) (by kernel_rfl) (by kernel_rfl) (by kernel_rfl) (fun _ _ _ h => h) (Or.inl ⟨by rfl, ?_⟩) HSD.out ?_
          (rotate_left 1; (focus (intro W hS; obtain ⟨hb0, hb1, hb2, hb3, y0, y1, y2, y3, yl⟩ := hS; have q0 := hb0.cell 0; have q1 := hb1.cell 0; have q2 := hb2.cell 0; have q3 := hb3.cell 0; have l0 := hb0.lt; have l1 := hb1.lt; have l2 := hb2.lt; have l3 := hb3.lt; go_simp; try with_reducible rfl)))
          try simp only [Act.put, List.setIfInBounds_toArray, List.set_cons_zero, List.set_cons_succ, List.getElem_toArray, List.getElem_cons_succ, List.getElem_cons_zero]
          refine wpAnyZI_take (fun _ => trivial) (by kernel_rfl) (i := 1) (v := ?_) rfl (by kernel_rfl) (by kernel_rfl) (by kernel_rfl) (by kernel_rfl) (fun _ _ _ h => h) (Or.inl ⟨by rfl, ?_⟩) HSD.out ?_
          (rotate_left 1; (focus (intro W hS; obtain ⟨hb0, hb1, hb2, hb3, y0, y1, y2, y3, yl⟩ := hS; have q0 := hb0.cell 0; have q1 := hb1.cell 0; have q2 := hb2.cell 0; have q3 := hb3.cell 0; have l0 := hb0.lt; have l1 := hb1.lt; have l2 := hb2.lt; have l3 := hb3.lt; go_simp; try with_reducible rfl)))
          try simp only [Act.put, List.setIfInBounds_toArray, List.set_cons_zero, List.set_cons_succ, List.getElem_toArray, List.getElem_cons_succ, List.getElem_cons_zero]
          refine wpAnyZI_move (fun _ => trivial) (by kernel_rfl) (i := 2) (v := ?_) rfl (by kernel_rfl) (by kernel_rfl) (by kernel_rfl) (fun _ _ _ h => h) (Or.inl ⟨by rfl, ?_⟩) ?_
          (rotate_left 1; (focus (intro W; go_simp; try with_reducible rfl)))
          try simp only [Act.put, List.setIfInBounds_toArray, List.set_cons_zero, List.set_cons_succ, List.getElem_toArray, List.getElem_cons_succ, List.getElem_cons_zero]
          refine wpAnyZI_move (fun _ => trivial) (by kernel_rfl) (i := 3) (v := ?_) rfl (by kernel_rfl) (by kernel_rfl) (by kernel_rfl) (fun _ _ _ h => h) (Or.inl ⟨by rfl, ?_⟩) ?_
          (rotate_left 1; (focus (intro W; go_simp; try with_reducible rfl)))
          try simp only [Act.put, List.setIfInBounds_toArray, List.set_cons_zero, List.set_cons_succ, List.getElem_toArray, List.getElem_cons_succ, List.getElem_cons_zero]
          refine wpAnyZI_move (fun _ => trivial) (by kernel_rfl) (i := 4) (v := ?_) rfl (by kernel_rfl) (by kernel_rfl) (by kernel_rfl) (fun _ _ _ h => h) (Or.inl ⟨by rfl, ?_⟩) ?_
          (rotate_left 1; (focus (intro W; go_simp; try with_reducible rfl)))
          try simp only [Act.put, List.setIfInBounds_toArray, List.set_cons_zero, List.set_cons_succ, List.getElem_toArray, List.getElem_cons_succ, List.getElem_cons_zero]
          refine wpAnyZI_take (fun _ => trivial) (by kernel_rfl) (i := 5) (v := ?_) rfl (by kernel_rfl) (by kernel_rfl) (by kernel_rfl) (by kernel_rfl) (fun _ _ _ h => h) (Or.inl ⟨by rfl, ?_⟩) HSD.out ?_
          (rotate_left 1; (focus (intro W hS; obtain ⟨hb0, hb1, hb2, hb3, y0, y1, y2, y3, yl⟩ := hS; have q0 := hb0.cell 0; have q1 := hb1.cell 0; have q2 := hb2.cell 0; have q3 := hb3.cell 0; have l0 := hb0.lt; have l1 := hb1.lt; have l2 := hb2.lt; have l3 := hb3.lt; go_simp; try with_reducible rfl)))
          try simp only [Act.put, List.setIfInBounds_toArray, List.set_cons_zero, List.set_cons_succ, List.getElem_toArray, List.getElem_cons_succ, List.getElem_cons_zero]
          refine wpAnyZI_take (fun _ => trivial) (by kernel_rfl) (i := 6) (v := ?_) rfl (by kernel_rfl) (by kernel_rfl) (by kernel_rfl) (by kernel_rfl) (fun _ _ _ h => h) (Or.inl ⟨by rfl, ?_⟩) HSD.out ?_
          (rotate_left 1; (focus (intro W hS; obtain ⟨hb0, hb1, hb2, hb3, y0, y1, y2, y3, yl⟩ := hS; have q0 := hb0.cell 0; have q1 := hb1.cell 0; have q2 := hb2.cell 0; have q3 := hb3.cell 0; have l0 := hb0.lt; have l1 := hb1.lt; have l2 := hb2.lt; have l3 := hb3.lt; go_simp; try with_reducible rfl)))
          try simp only [Act.put, List.setIfInBounds_toArray, List.set_cons_zero, List.set_cons_succ, List.getElem_toArray, List.getElem_cons_succ, List.getElem_cons_zero]
          refine wpAnyZI_take (fun _ => trivial) (by kernel_rfl) (i := 7) (v := ?_) rfl (by kernel_rfl) (by kernel_rfl) (by kernel_rfl) (by kernel_rfl) (fun _ _ _ h => h) (Or.inl ⟨by rfl, ?_⟩) HSD.out ?_
          (rotate_left 1; (focus (intro W hS; obtain ⟨hb0, hb1, hb2, hb3, y0, y1, y2, y3, yl⟩ := hS; have q0 := hb0.cell 0; have q1 := hb1.cell 0; have q2 := hb2.cell 0; have q3 := hb3.cell 0; have l0 := hb0.lt; have l1 := hb1.lt; have l2 := hb2.lt; have l3 := hb3.lt; go_simp; try with_reducible rfl)))
          try simp only [Act.put, List.setIfInBounds_toArray, List.set_cons_zero, List.set_cons_succ, List.getElem_toArray, List.getElem_cons_succ, List.getElem_cons_zero]
          refine wpAnyZI_move (fun _ => trivial) (by kernel_rfl) (i := 8) (v := ?_) rfl (by kernel_rfl) (by kernel_rfl) (by kernel_rfl) (fun _ _ _ h => h) (Or.inl ⟨by rfl, ?_⟩) ?_
          (rotate_left 1; (focus (intro W; go_simp; try with_reducible rfl)))
          try simp only [Act.put, List.setIfInBounds_toArray, List.set_cons_zero, List.set_cons_succ, List.getElem_toArray, List.getElem_cons_succ, List.getElem_cons_zero]
          refine wpAnyZI_move (fun _ => trivial) (by kernel_rfl) (i := 9) (v := ?_) rfl (by kernel_rfl) (by kernel_rfl) (by kernel_rfl) (fun _ _ _ h => h) (Or.inl ⟨by rfl, ?_⟩) ?_
          (rotate_left 1; (focus (intro W; go_simp; try with_reducible rfl)))
          try simp only [Act.put, List.setIfInBounds_toArray, List.set_cons_zero, List.set_cons_succ, List.getElem_toArray, List.getElem_cons_succ, List.getElem_cons_zero]
          refine wpAnyZI_move (fun _ => trivial) (by kernel_rfl) (i := 10) (v := ?_) rfl (by kernel_rfl) (by kernel_rfl) (by kernel_rfl) (fun _ _ _ h => h) (Or.inl ⟨by rfl, ?_⟩) ?_
          (rotate_left 1; (focus (intro W; go_simp; try with_reducible rfl)))
          try simp only [Act.put, List.setIfInBounds_toArray, List.set_cons_zero, List.set_cons_succ, List.getElem_toArray, List.getElem_cons_succ, List.getElem_cons_zero]
          refine wpAnyZI_take (fun _ => trivial) (by kernel_rfl) (i := 11) (v := ?_) rfl (by kernel_rfl) (by kernel_rfl) (by kernel_rfl) (by kernel_rfl) (fun _ _ _ h => h) (Or.inl ⟨by rfl, ?_⟩) HSD.out ?_
          (rotate_left 1; (focus (intro W hS; obtain ⟨hb0, hb1, hb2, hb3, y0, y1, y2, y3, yl⟩ := hS; have q0 := hb0.cell 0; have q1 := hb1.cell 0; have q2 := hb2.cell 0; have q3 := hb3.cell 0; have l0 := hb0.lt; have l1 := hb1.lt; have l2 := hb2.lt; have l3 := hb3.lt; go_simp; try with_reducible rfl)))
          try simp only [Act.put, List.setIfInBounds_toArray, List.set_cons_zero, List.set_cons_succ, List.getElem_toArray, List.getElem_cons_succ, List.getElem_cons_zero]
          refine wpAnyZI_take (fun _ => trivial) (by kernel_rfl) (i := 12) (v := ?_) rfl (by kernel_rfl) (by kernel_rfl) (by kernel_rfl) (by kernel_rfl) (fun _ _ _ h => h) (Or.inl ⟨by rfl, ?_⟩) HSD.out ?_
          (rotate_left 1; (focus (intro W hS; obtain ⟨hb0, hb1, hb2, hb3, y0, y1, y2, y3, yl⟩ := hS; have q0 := hb0.cell 0; have q1 := hb1.cell 0; have q2 := hb2.cell 0; have q3 := hb3.cell 0; have l0 := hb0.lt; have l1 := hb1.lt; have l2 := hb2.lt; have l3 := hb3.lt; go_simp; try with_reducible rfl)))
          try simp only [Act.put, List.setIfInBounds_toArray, List.set_cons_zero, List.set_cons_succ, List.getElem_toArray, List.getElem_cons_succ, List.getElem_cons_zero]
          refine wpAnyZI_move (fun _ => trivial) (by kernel_rfl) (i := 13) (v := ?_) rfl (by kernel_rfl) (by kernel_rfl) (by kernel_rfl) (fun _ _ _ h => h) (Or.inl ⟨by rfl, ?_⟩) ?_
          (rotate_left 1; (focus (intro W; go_simp; try with_reducible rfl)))
          try simp only [Act.put, List.setIfInBounds_toArray, List.set_cons_zero, List.set_cons_succ, List.getElem_toArray, List.getElem_cons_succ, List.getElem_cons_zero]
          refine wpAnyZI_take (fun _ => trivial) (by kernel_rfl) (i := 14) (v := ?_) rfl (by kernel_rfl) (by kernel_rfl) (by kernel_rfl) (by kernel_rfl) (fun _ _ _ h => h) (Or.inl ⟨by rfl, ?_⟩) HSD.out ?_
          (rotate_left 1; (focus (intro W hS; obtain ⟨hb0, hb1, hb2, hb3, y0, y1, y2, y3, yl⟩ := hS; have q0 := hb0.cell 0; have q1 := hb1.cell 0; have q2 := hb2.cell 0; have q3 := hb3.cell 0; have l0 := hb0.lt; have l1 := hb1.lt; have l2 := hb2.lt; have l3 := hb3.lt; go_simp; try with_reducible rfl)))
          try simp only [Act.put, List.setIfInBounds_toArray, List.set_cons_zero, List.set_cons_succ, List.getElem_toArray, List.getElem_cons_succ, List.getElem_cons_zero]
          refine wpAnyZI_move (fun _ => trivial) (by kernel_rfl) (i := 15) (v := ?_) rfl (by kernel_rfl) (by kernel_rfl) (by kernel_rfl) (fun _ _ _ h => h) (Or.inl ⟨by rfl, ?_⟩) ?_
          (rotate_left 1; (focus (intro W; go_simp; try with_reducible rfl)))
          try simp only [Act.put, List.setIfInBounds_toArray, List.set_cons_zero, List.set_cons_succ, List.getElem_toArray, List.getElem_cons_succ, List.getElem_cons_zero]
          refine wpAnyZI_move (fun _ => trivial) (by kernel_rfl) (i := 16) (v := ?_) rfl (by kernel_rfl) (by kernel_rfl) (by kernel_rfl) (fun _ _ _ h => h) (Or.inl ⟨by rfl, ?_⟩) ?_
          (rotate_left 1; (focus (intro W; go_simp; try with_reducible rfl)))
          try simp only [Act.put, List.setIfInBounds_toArray, List.set_cons_zero, List.set_cons_succ, List.getElem_toArray, List.getElem_cons_succ, List.getElem_cons_zero]
          refine wpAnyZI_take (fun _ => trivial) (by kernel_rfl) (i := 17) (v := ?_) rfl (by kernel_rfl) (by kernel_rfl) (by kernel_rfl) (by kernel_rfl) (fun _ _ _ h => h) (Or.inl ⟨by rfl, ?_⟩) HSD.out ?_
          (rotate_left 1; (focus (intro W hS; obtain ⟨hb0, hb1, hb2, hb3, y0, y1, y2, y3, yl⟩ := hS; have q0 := hb0.cell 0; have q1 := hb1.cell 0; have q2 := hb2.cell 0; have q3 := hb3.cell 0; have l0 := hb0.lt; have l1 := hb1.lt; have l2 := hb2.lt; have l3 := hb3.lt; go_simp; try with_reducible rfl)))
          try simp only [Act.put, List.setIfInBounds_toArray, List.set_cons_zero, List.set_cons_succ, List.getElem_toArray, List.getElem_cons_succ, List.getElem_cons_zero]
          refine wpAnyZI_move (fun _ => trivial) (by kernel_rfl) (i := 18) (v := ?_) rfl (by kernel_rfl) (by kernel_rfl) (by kernel_rfl) (fun _ _ _ h => h) (Or.inl ⟨by rfl, ?_⟩) ?_
          (rotate_left 1; (focus (intro W; go_simp; try with_reducible rfl)))
          try simp only [Act.put, List.setIfInBounds_toArray, List.set_cons_zero, List.set_cons_succ, List.getElem_toArray, List.getElem_cons_succ, List.getElem_cons_zero]
          refine wpAnyZI_move (fun _ => trivial) (by kernel_rfl) (i := 19) (v := ?_) rfl (by kernel_rfl) (by kernel_rfl) (by kernel_rfl) (fun _ _ _ h => h) (Or.inl ⟨by rfl, ?_⟩) ?_
          (rotate_left 1; (focus (intro W; go_simp; try with_reducible rfl)))
          try simp only [Act.put, List.setIfInBounds_toArray, List.set_cons_zero, List.set_cons_succ, List.getElem_toArray, List.getElem_cons_succ, List.getElem_cons_zero]
          refine wpAnyZI_move (fun _ => trivial) (by kernel_rfl) (i := 20) (v := ?_) rfl (by kernel_rfl) (by kernel_rfl) (by kernel_rfl) (fun _ _ _ h => h) (Or.inl ⟨by rfl, ?_⟩) ?_
          (rotate_left 1; (focus (intro W; go_simp; try with_reducible rfl)))
          try simp only [Act.put, List.setIfInBounds_toArray, List.set_cons_zero, List.set_cons_succ, List.getElem_toArray, List.getElem_cons_succ, List.getElem_cons_zero]
          refine wpAnyZI_take (fun _ => trivial) (by kernel_rfl) (i := 21) (v := ?_) rfl (by kernel_rfl) (by kernel_rfl) (by kernel_rfl) (by kernel_rfl) (fun _ _ _ h => h) (Or.inl ⟨by rfl, ?_⟩) HSD.out ?_
          (rotate_left 1; (focus (intro W hS; obtain ⟨hb0, hb1, hb2, hb3, y0, y1, y2, y3, yl⟩ := hS; have q0 := hb0.cell 0; have q1 := hb1.cell 0; have q2 := hb2.cell 0; have q3 := hb3.cell 0; have l0 := hb0.lt; have l1 := hb1.lt; have l2 := hb2.lt; have l3 := hb3.lt; go_simp; try with_reducible rfl)))
          try simp only [Act.put, List.setIfInBounds_toArray, List.set_cons_zero, List.set_cons_succ, List.getElem_toArray, List.getElem_cons_succ, List.getElem_cons_zero]
          refine wpAnyZI_move (fun _ => trivial) (by kernel_rfl) (i := 22) (v := ?_) rfl (by kernel_rfl) (by kernel_rfl) (by kernel_rfl) (fun _ _ _ h => h) (Or.inl ⟨by rfl, ?_⟩) ?_
          (rotate_left 1; (focus (intro W; go_simp; try with_reducible rfl)))
          try simp only [Act.put, List.setIfInBounds_toArray, List.set_cons_zero, List.set_cons_succ, List.getElem_toArray, List.getElem_cons_succ, List.getElem_cons_zero]
          refine wpAnyZI_move (fun _ => trivial) (by kernel_rfl) (i := 23) (v := ?_) rfl (by kernel_rfl) (by kernel_rfl) (by kernel_rfl) (fun _ _ _ h => h) (Or.inl ⟨by rfl, ?_⟩) ?_
          (rotate_left 1; (focus (intro W; go_simp; try with_reducible rfl)))
          try simp only [Act.put, List.setIfInBounds_toArray, List.set_cons_zero, List.set_cons_succ, List.getElem_toArray, List.getElem_cons_succ, List.getElem_cons_zero]
          refine wpAnyZI_move (fun _ => trivial) (by kernel_rfl) (i := 24) (v := ?_) rfl (by kernel_rfl) (by kernel_rfl) (by kernel_rfl) (fun _ _ _ h => h) (Or.inl ⟨by rfl, ?_⟩) ?_
          (rotate_left 1; (focus (intro W; go_simp; try with_reducible rfl)))
          try simp only [Act.put, List.setIfInBounds_toArray, List.set_cons_zero, List.set_cons_succ, List.getElem_toArray, List.getElem_cons_succ, List.getElem_cons_zero]
          refine wpAnyZI_one (fun _ => trivial) (i := 25) (by kernel_rfl) rfl (fun K hK => ?_)
          go_simp
          refine ⟨trivial, ?_⟩
          refine (CallsIn.inRound l (callsIn_wide.2 WRH.out)).mono ?_
          rintro e w8 ⟨rfl, k8, o8⟩
          have K8 := Lib.hid k8
          have O8 := Lib.hid ((Only.refl P.own W).drew.trans o8 (fun _ _ h => h))
          have hPb : ∀ g, P.own g → g < w.heap.size := fun g h => hPl g (.inr (.inr h))
          have hbn : ¬ P.own b := fun h => (hA _ rfl).2 (.inr (.inr h))
          have kc := KeepsC.of_only o8
          have SS8 : Hid (SS w.heap.size P b off len cap k by_ (some ⟨d, o, none⟩) L.length bc ⟨x1, x2, x3, x4⟩ w8) := by
            obtain ⟨q0, q1, q2, q3, y0, y1, y2, y3, yl⟩ := HSD.out
            exact ⟨q0.only o8 (fun h => by have := hPb _ h; omega), q1.only o8 (fun h => by have := hPb _ h; omega), q2.only o8 (fun h => by have := hPb _ h; omega), q3.only o8 (fun h => by have := hPb _ h; omega), kc.cell y0 hbn, kc.cell y1 hbn, kc.cell y2 hbn, kc.cell y3 hbn, Nat.lt_of_lt_of_le yl o8.size⟩
          clear k8 o8 kc
          try gi_wp2
          refine hK.out _ _ (fun _ _ => SS8.out) ?_
          clear hK K
          refine wpAnyZI_done (by kernel_rfl) ?_ _
          gi_wp2
          have o9 := O8.out
          have kc := KeepsC.of_only o9
          have fe : ((pre ++ [(⟨k, hk⟩ : Rd' len)]).map (fun x => x.1)).foldl (stepW ps by_ L) bs = stepW ps by_ L ((pre.map (fun x => x.1)).foldl (stepW ps by_ L) bs) k := by rw [List.map_append, List.foldl_append]; rfl
          refine ⟨keepsFrom_only o9 (fun g h => by have := hPb g h; simp; omega), kc, ?_, ?_, H0.out.only o9 (fun h => by have := hPb _ h; omega), H1.out.only o9 (fun h => by have := hPb _ h; omega), H2.out.only o9 (fun h => by have := hPb _ h; omega), H3.out.only o9 (fun h => by have := hPb _ h; omega), H4.out.keepsC kc (fun a e => (fun h => (hA a e).2 (.inr (.inr h)))), H5.out.keep (fun p hp hpa => ?_), H6.out.trans o9 (fun _ _ h => h)⟩
          · rw [fe, ST.out]; exact K8.out
          · rw [fe]; exact SB.out
          · have hpb := hpa _ rfl
            have hnp : ¬ P.own p.block := fun h => (hbA _ rfl).2.2 (.inr (.inr (by rw [← hpb]; exact h)))
            have hb2 := o9.block p.block hp hnp
            unfold World.cell?
            rw [hb2]
      case done =>
        rintro D ys W hD hys ⟨hPf, -, h0, h1, h2, h3, h4, h5, h6⟩ hK
        rw [hys] at hPf
        replace hPf : IsP W P (scatF ps by_ L bs len) := hPf
        have HP := Lib.hid hPf
        have H1 := Lib.hid h1
        have H3 := Lib.hid h3
        have H4 := Lib.hid h4
        have H6 := Lib.hid h6
        have HSD : Hid (S13 w.heap.size A len cap bA L.length bc W.drew) := ⟨h1.drew, h3.drew⟩
        have LN := Lib.hid (len_any W.drew A len cap ps hl h16 (h4.below (Below.refl _ _).drew) (fun a e => Nat.lt_of_lt_of_le (hA a e).1 h6.size))
        clear hPf h1 h3 h4 h6
        obtain ⟨T, eT⟩ : ∃ T, (if atP ps len < (L.length : Int) then atP ps len else (L.length : Int)) = T := ⟨_, rfl⟩
        have ET := Lib.hid eT
        gi_wp2
        refine wpIn_mono (Q := noP _) ?_ (fun _ _ _ h => noP_imp h)
        refine wpIn_region_zone (S13 w.heap.size A len cap bA L.length bc) (fun j => true) (by kernel_rfl) ?_
        refine wpAnyZI_take (fun _ => trivial) (by kernel_rfl) (i := 0) (v := ?_) rfl (by kernel_rfl) (by kernel_rfl) (by kernel_rfl) (by kernel_rfl) (fun _ _ _ h => h) (Or.inl ⟨by rfl, ?_⟩) HSD.out ?_
        (rotate_left 1; (focus (intro W hS; have y0 := hS.1.cell 0; have y1 := hS.2.cell 0; have l0 := hS.1.lt; have l1 := hS.2.lt; go_simp; try with_reducible rfl)))
        try simp only [Act.put, List.setIfInBounds_toArray, List.set_cons_zero, List.set_cons_succ, List.getElem_toArray, List.getElem_cons_succ, List.getElem_cons_zero]
        refine wpAnyZI_move (fun _ => trivial) (by kernel_rfl) (i := 1) (v := ?_) rfl (by kernel_rfl) (by kernel_rfl) (by kernel_rfl) (fun _ _ _ h => h) (Or.inl ⟨by rfl, ?_⟩) ?_
        (rotate_left 1; (focus (intro W; go_simp; try with_reducible rfl)))
        try simp only [Act.put, List.setIfInBounds_toArray, List.set_cons_zero, List.set_cons_succ, List.getElem_toArray, List.getElem_cons_succ, List.getElem_cons_zero]
        refine wpAnyZI_take (fun _ => trivial) (by kernel_rfl) (i := 2) (v := ?_) rfl (by kernel_rfl) (by kernel_rfl) (by kernel_rfl) (by kernel_rfl) (fun _ _ _ h => h) (Or.inl ⟨by rfl, ?_⟩) HSD.out ?_
        (rotate_left 1; (focus (intro W hS; have y0 := hS.1.cell 0; have y1 := hS.2.cell 0; have l0 := hS.1.lt; have l1 := hS.2.lt; go_simp; try with_reducible rfl)))
        try simp only [Act.put, List.setIfInBounds_toArray, List.set_cons_zero, List.set_cons_succ, List.getElem_toArray, List.getElem_cons_succ, List.getElem_cons_zero]
        refine wpAnyZI_one (fun _ => trivial) (i := 3) (by kernel_rfl) rfl (fun K hK2 => ?_)
        go_simp
        refine ⟨trivial, ?_⟩
        refine (callsIn_wide.2 LN.out).mono ?_
        rintro e w9 ⟨rfl, b9⟩
        have B9 := Lib.hid (Below.next (Below.refl _ W).drew b9)
        have S9 : Hid (S13 w.heap.size A len cap bA L.length bc w9) := ⟨HSD.out.1.below b9 HSD.out.1.lt, HSD.out.2.below b9 HSD.out.2.lt⟩
        clear b9
        try gi_wp2
        refine hK2.out _ _ (fun _ _ => S9.out) ?_
        clear hK2 K
        refine wpAnyZI_move (fun _ => trivial) (by kernel_rfl) (i := 4) (v := ?_) rfl (by kernel_rfl) (by kernel_rfl) (by kernel_rfl) (fun _ _ _ h => h) (Or.inl ⟨by rfl, ?_⟩) ?_
        (rotate_left 1; (focus (intro W; go_simp; try with_reducible rfl)))
        try simp only [Act.put, List.setIfInBounds_toArray, List.set_cons_zero, List.set_cons_succ, List.getElem_toArray, List.getElem_cons_succ, List.getElem_cons_zero]
        refine wpAnyZI_move (fun _ => trivial) (by kernel_rfl) (i := 5) (v := ?_) rfl (by kernel_rfl) (by kernel_rfl) (by kernel_rfl) (fun _ _ _ h => h) (Or.inl ⟨by rfl, ?_⟩) ?_
        (rotate_left 1; (focus (intro W; go_simp; try with_reducible rfl)))
        try simp only [Act.put, List.setIfInBounds_toArray, List.set_cons_zero, List.set_cons_succ, List.getElem_toArray, List.getElem_cons_succ, List.getElem_cons_zero]
        refine wpAnyZI_move (fun _ => trivial) (by kernel_rfl) (i := 6) (v := ?_) rfl (by kernel_rfl) (by kernel_rfl) (by kernel_rfl) (fun _ _ _ h => h) (Or.inl ⟨by rfl, ?_⟩) ?_
        (rotate_left 1; (focus (intro W; go_simp; try with_reducible rfl)))
        try simp only [Act.put, List.setIfInBounds_toArray, List.set_cons_zero, List.set_cons_succ, List.getElem_toArray, List.getElem_cons_succ, List.getElem_cons_zero]
        refine wpAnyZI_done (by kernel_rfl) ?_ _
        simp only [noP]
        gi_wp2
        have hDl := (Array.getElem?_eq_some_iff.1 hK).1
        have hK' := (B9.out.block D hDl).trans hK
        refine ⟨by simp, .inl ⟨_, _, rfl, run_takeDeferred hK', ?_⟩⟩
        have og : Only (fun g => g = D) w9 (w9.putObj D (.deferred none)) := Only.of_grown (grownBy_putObj' _ D (.deferred none)) (fun r e _ => by cases e; rfl)
        have hDw : w.heap.size ≤ D := by simp at hD; omega
        have kf := (HP.out.below B9.out).only og (fun i e hp => by have := hPl i hp; omega)
        have of := (H6.out.trans (Only.of_below (F := P.own) B9.out) (fun _ _ h => h)).trans og (fun i hi e => by omega)
        refine ⟨.tuple #[.int .i64 T, .int .i64 0], ?_, (T, 0, scatF ps by_ L bs len), .inr (.inr ⟨HR.out.1 trivial, HAL.out, by rw [hl, ET.out]⟩), rfl, kf, of⟩
        simp [results, Try.f10, go_sem]
      case stop =>
        rintro D c pre W hD ⟨k, hk, hpre⟩ ⟨rfl, ini, kk, e1, e2, hPf, -, h0, h1, h2, h3, h4, h5, h6⟩ hK
        have him : ini.map (fun x => x.1) = List.range kk.1 := by
          subst e1
          rw [List.map_append] at hpre
          have hl := congrArg List.length hpre
          simp at hl
          obtain ⟨m, rfl⟩ : ∃ m, k = m + 1 := ⟨ini.length, by omega⟩
          rw [List.range_succ] at hpre
          obtain ⟨p1, p2⟩ := List.append_inj' hpre rfl
          have hkm : kk.1 = m := by simpa using p2
          rw [hkm]; exact p1
        rw [him] at hPf
        replace hPf : IsP W P (scatF ps by_ L bs len) := by
          rw [scatF_rest ps by_ L bs e2 (Nat.le_of_lt kk.2)]
          exact hPf
        have HP := Lib.hid hPf
        have H1 := Lib.hid h1
        have H3 := Lib.hid h3
        have H4 := Lib.hid h4
        have H6 := Lib.hid h6
        have HSD : Hid (S13 w.heap.size A len cap bA L.length bc W.drew) := ⟨h1.drew, h3.drew⟩
        have LN := Lib.hid (len_any W.drew A len cap ps hl h16 (h4.below (Below.refl _ _).drew) (fun a e => Nat.lt_of_lt_of_le (hA a e).1 h6.size))
        clear hPf h1 h3 h4 h6
        obtain ⟨T, eT⟩ : ∃ T, (if atP ps len < (L.length : Int) then atP ps len else (L.length : Int)) = T := ⟨_, rfl⟩
        have ET := Lib.hid eT
        gi_wp2
        refine wpIn_mono (Q := noP _) ?_ (fun _ _ _ h => noP_imp h)
        refine wpIn_region_zone (S13 w.heap.size A len cap bA L.length bc) (fun j => true) (by kernel_rfl) ?_
        refine wpAnyZI_take (fun _ => trivial) (by kernel_rfl) (i := 0) (v := ?_) rfl (by kernel_rfl) (by kernel_rfl) (by kernel_rfl) (by kernel_rfl) (fun _ _ _ h => h) (Or.inl ⟨by rfl, ?_⟩) HSD.out ?_
        (rotate_left 1; (focus (intro W hS; have y0 := hS.1.cell 0; have y1 := hS.2.cell 0; have l0 := hS.1.lt; have l1 := hS.2.lt; go_simp; try with_reducible rfl)))
        try simp only [Act.put, List.setIfInBounds_toArray, List.set_cons_zero, List.set_cons_succ, List.getElem_toArray, List.getElem_cons_succ, List.getElem_cons_zero]
        refine wpAnyZI_move (fun _ => trivial) (by kernel_rfl) (i := 1) (v := ?_) rfl (by kernel_rfl) (by kernel_rfl) (by kernel_rfl) (fun _ _ _ h => h) (Or.inl ⟨by rfl, ?_⟩) ?_
        (rotate_left 1; (focus (intro W; go_simp; try with_reducible rfl)))
        try simp only [Act.put, List.setIfInBounds_toArray, List.set_cons_zero, List.set_cons_succ, List.getElem_toArray, List.getElem_cons_succ, List.getElem_cons_zero]
        refine wpAnyZI_take (fun _ => trivial) (by kernel_rfl) (i := 2) (v := ?_) rfl (by kernel_rfl) (by kernel_rfl) (by kernel_rfl) (by kernel_rfl) (fun _ _ _ h => h) (Or.inl ⟨by rfl, ?_⟩) HSD.out ?_
        (rotate_left 1; (focus (intro W hS; have y0 := hS.1.cell 0; have y1 := hS.2.cell 0; have l0 := hS.1.lt; have l1 := hS.2.lt; go_simp; try with_reducible rfl)))
        try simp only [Act.put, List.setIfInBounds_toArray, List.set_cons_zero, List.set_cons_succ, List.getElem_toArray, List.getElem_cons_succ, List.getElem_cons_zero]
        refine wpAnyZI_one (fun _ => trivial) (i := 3) (by kernel_rfl) rfl (fun K hK2 => ?_)
        go_simp
        refine ⟨trivial, ?_⟩
        refine (callsIn_wide.2 LN.out).mono ?_
        rintro e w9 ⟨rfl, b9⟩
        have B9 := Lib.hid (Below.next (Below.refl _ W).drew b9)
        have S9 : Hid (S13 w.heap.size A len cap bA L.length bc w9) := ⟨HSD.out.1.below b9 HSD.out.1.lt, HSD.out.2.below b9 HSD.out.2.lt⟩
        clear b9
        try gi_wp2
        refine hK2.out _ _ (fun _ _ => S9.out) ?_
        clear hK2 K
        refine wpAnyZI_move (fun _ => trivial) (by kernel_rfl) (i := 4) (v := ?_) rfl (by kernel_rfl) (by kernel_rfl) (by kernel_rfl) (fun _ _ _ h => h) (Or.inl ⟨by rfl, ?_⟩) ?_
        (rotate_left 1; (focus (intro W; go_simp; try with_reducible rfl)))
        try simp only [Act.put, List.setIfInBounds_toArray, List.set_cons_zero, List.set_cons_succ, List.getElem_toArray, List.getElem_cons_succ, List.getElem_cons_zero]
        refine wpAnyZI_move (fun _ => trivial) (by kernel_rfl) (i := 5) (v := ?_) rfl (by kernel_rfl) (by kernel_rfl) (by kernel_rfl) (fun _ _ _ h => h) (Or.inl ⟨by rfl, ?_⟩) ?_
        (rotate_left 1; (focus (intro W; go_simp; try with_reducible rfl)))
        try simp only [Act.put, List.setIfInBounds_toArray, List.set_cons_zero, List.set_cons_succ, List.getElem_toArray, List.getElem_cons_succ, List.getElem_cons_zero]
        refine wpAnyZI_move (fun _ => trivial) (by kernel_rfl) (i := 6) (v := ?_) rfl (by kernel_rfl) (by kernel_rfl) (by kernel_rfl) (fun _ _ _ h => h) (Or.inl ⟨by rfl, ?_⟩) ?_
        (rotate_left 1; (focus (intro W; go_simp; try with_reducible rfl)))
        try simp only [Act.put, List.setIfInBounds_toArray, List.set_cons_zero, List.set_cons_succ, List.getElem_toArray, List.getElem_cons_succ, List.getElem_cons_zero]
        refine wpAnyZI_done (by kernel_rfl) ?_ _
        simp only [noP]
        gi_wp2
        have hDl := (Array.getElem?_eq_some_iff.1 hK).1
        have hK' := (B9.out.block D hDl).trans hK
        refine ⟨by simp, .inl ⟨_, _, rfl, run_takeDeferred hK', ?_⟩⟩
        have og : Only (fun g => g = D) w9 (w9.putObj D (.deferred none)) := Only.of_grown (grownBy_putObj' _ D (.deferred none)) (fun r e _ => by cases e; rfl)
        have hDw : w.heap.size ≤ D := by simp at hD; omega
        have kf := (HP.out.below B9.out).only og (fun i e hp => by have := hPl i hp; omega)
        have of := (H6.out.trans (Only.of_below (F := P.own) B9.out) (fun _ _ h => h)).trans og (fun i hi e => by omega)
        refine ⟨.tuple #[.int .i64 T, .int .i64 0], ?_, (T, 0, scatF ps by_ L bs len), .inr (.inr ⟨HR.out.1 trivial, HAL.out, by rw [hl, ET.out]⟩), rfl, kf, of⟩
        simp [results, Try.f10, go_sem]
end Go.Proofs.Ytajcjepolfmhmaa
