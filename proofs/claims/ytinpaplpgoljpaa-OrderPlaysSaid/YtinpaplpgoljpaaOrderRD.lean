/- Layer 18 (order): the document's queue: All. -/
import Derived.Test.YtinpaplpgoljpaaOrderRC
namespace Go.Proofs.Ytinpaplpgoljpaa
open Go.RowKit
set_option linter.unusedVariables false
set_option linter.unusedSimpArgs false
def allR (l : List Wt) : List Wt := l.foldl (fun out x => insW x out) []
def S3w (b o : Nat) (x : Wt) (W : World) : Prop := W.cell? ⟨b, o, none⟩ = some (.int .i64 x.id) ∧ W.cell? ⟨b, o + 1, none⟩ = some (.int .u64 x.dead) ∧ W.cell? ⟨b, o + 2, none⟩ = some (.int .i64 x.track) ∧ b < W.heap.size
theorem S3w.below {b o : Nat} {x : Wt} {w w' : World} (s : S3w b o x w) (h : Below w.heap.size w w') : S3w b o x w' :=
  ⟨(h.cell (p := ⟨b, o, none⟩) s.2.2.2).trans s.1, (h.cell (p := ⟨b, o + 1, none⟩) s.2.2.2).trans s.2.1, (h.cell (p := ⟨b, o + 2, none⟩) s.2.2.2).trans s.2.2.1, Nat.lt_of_lt_of_le s.2.2.2 h.size⟩
def SA (r : Nat) (v : Value) (b o : Nat) (x : Wt) (W : World) : Prop := (W.cell? ⟨r, 0, none⟩ = some v ∧ r < W.heap.size) ∧ S3w b o x W
theorem SA.below {r b o : Nat} {v : Value} {x : Wt} {w w' : World} (s : SA r v b o x w) (h : Below w.heap.size w w') : SA r v b o x w' := ⟨⟨(h.cell (p := ⟨r, 0, none⟩) s.1.2).trans s.1.1, Nat.lt_of_lt_of_le s.1.2 h.size⟩, s.2.below h⟩
def SB (r : Nat) (v : Value) (b o : Nat) (x : Wt) (b2 o2 : Nat) (y : Wt) (W : World) : Prop := SA r v b o x W ∧ S3w b2 o2 y W
theorem SB.below {r b o b2 o2 : Nat} {v : Value} {x y : Wt} {w w' : World} (s : SB r v b o x b2 o2 y w) (h : Below w.heap.size w w') : SB r v b o x b2 o2 y w' := ⟨s.1.below h, s.2.below h⟩
theorem insW_at {t : Wt} : ∀ {l : List Wt} {p : Nat}, p ≤ l.length → (∀ (j : Nat) y, j < p → l[j]? = some y → ltB y t = true) → (∀ y, l[p]? = some y → ltB y t = false) → l.take p ++ [t] ++ l.drop p = insW t l
  | [], p, h, _, _ => by simp at h; subst h; rfl
  | x :: r, 0, _, _, h2 => by
    have := h2 x rfl
    simp only [insW]
    rw [if_neg (fun e => by rw [ltB_iff.2 e] at this; cases this)]
    rfl
  | x :: r, p + 1, h, h1, h2 => by
    have := h1 0 x (by omega) rfl
    simp only [insW]
    rw [if_pos (ltB_iff.1 this), ← insW_at (l := r) (p := p) (by simpa using h) (fun j y hj hy => h1 (j + 1) y (by omega) (by simpa using hy)) (fun y hy => h2 y (by simpa using hy))]
    rfl
theorem allR_step {l : List Wt} {i : Nat} {x : Wt} (hx : l[i]? = some x) : allR (l.take (i + 1)) = insW x (allR (l.take i)) := by
  obtain ⟨hi, e⟩ := List.getElem?_eq_some_iff.1 hx
  unfold allR
  rw [List.take_add_one, hx, List.foldl_append]
  rfl
theorem allR_len : ∀ (l : List Wt), (allR l).length = l.length := by
  have : ∀ (l o : List Wt), (l.foldl (fun out x => insW x out) o).length = o.length + l.length := by
    intro l
    induction l with
    | nil => intro o; simp
    | cons x r ih => intro o; simp only [List.foldl_cons, ih, insW_len, List.length_cons]; omega
  intro l
  unfold allR
  rw [this]; simp
theorem forgetZ {P : Program} {ops : Array Oper} {Q : Exit → Act → World → Prop} {md : Region.Mode} {S : World → Prop} {pre : Nat → Bool} {fuel : Nat} {listed : Array Bool} {a : Act} {W : World} {F : World → Prop} (hF : F W)
    (h : ∀ W', F W' → wpAnyZ P md ops Q S pre fuel listed a W') : wpAnyZ P md ops Q S pre fuel listed a W := h W hF
def RelO (w : World) (l : List Wt) (n : Nat) (ov iv : Value) (wr : World) : Prop := ∃ i : Nat, iv = .int .i64 i ∧ i ≤ n ∧ Slc wr 30 3 ov i (flatW (allR (l.take i))) ∧ (∀ g, ov.ownBlock = some g → w.heap.size ≤ g) ∧ Below w.heap.size w wr
def RelI (w : World) (out : List Wt) (x : Wt) (kv : Value) (wr : World) : Prop := ∃ k : Nat, kv = .int .i64 k ∧ k ≤ out.length ∧ (∀ (j : Nat) y, j < k → out[j]? = some y → ltB y x = true) ∧ Below w.heap.size w wr
def AllPostR (w : World) (l : List Wt) (e : Ending) (w' : World) : Prop := ∃ A c, e = .returned (.slice A l.length c) ∧ Slc w' 30 3 (.slice A l.length c) l.length (flatW l) ∧ Below w.heap.size w w'
set_option maxRecDepth 100000 in
set_option maxHeartbeats 4000000 in
theorem rall_any {w : World} {R : Qp} {l : List Wt} {h : Int} {d : Bool} (k : IsR w R l h d) :
    Calls Try.prog 24 #[.pointer (some ⟨R.q, 0, none⟩)] w (AllPostR w (allR l)) := by
  have c0 : w.cell? ⟨R.q, 0, none⟩ = some R.v := k.blk.cell 0
  have hq := k.blk.lt
  obtain ⟨A0, c, ev, -⟩ := k.row.shape
  have hs := k.row
  rw [ev] at c0 hs
  have HS := Lib.hid hs
  have hn := k.len
  obtain ⟨n, hnl⟩ : ∃ n, n = l.length := ⟨_, rfl⟩
  rw [← hnl] at c0 hn
  have HL := Lib.hid hnl
  have C0 := Lib.hid c0
  have LE := fun a b W => Lib.hid (less_any a b W)
  unfold wv at LE
  obtain ⟨i0, hi0, hz0, hz1, hz2⟩ := info_parts infoW
  have HF := Lib.hid flatW_cell
  clear k ev hs hnl c0
  go_enter Try.func24, Try.ntmps24
  go_wp2_with fail
  go_loopw [3, 4] (fun ov iv wr => Hid (RelO w l n ov iv wr)) (fun _ iv _ => (n - intOf iv).toNat)
  case atStart => exact ⟨0, rfl, by omega, Slc.nil _ _ _, fun g e => by simp [Value.ownBlock] at e, Below.refl _ _⟩
  case round =>
    obtain ⟨i, rfl, hi, ho, hown, hb⟩ := hrel
    obtain ⟨Ao, co, rfl, hco⟩ := ho.shape
    have HO := Lib.hid ho
    have HW := Lib.hid hown
    have HB := Lib.hid hb
    have c0 := (hb.cell (p := ⟨R.q, 0, none⟩) hq).trans C0.out
    have hq2 := Nat.lt_of_lt_of_le hq hb.size
    clear ho hown hb
    by_cases hin : i < n
    · have hin2 : (i : Int) < n := by omega
      obtain ⟨x, hx⟩ : ∃ x, l[i]? = some x := ⟨_, List.getElem?_eq_getElem (by have := HL.out; omega)⟩
      obtain ⟨g, off, c', ev, -, hlt, u0, u1, u2⟩ := HS.out.wat hx
      simp only [Value.slice.injEq] at ev
      obtain ⟨rfl, -, -⟩ := ev
      have SAW := Lib.hid (show SA R.q (.slice (some ⟨g, off, none⟩) n c) g (off + i * 3) x w from ⟨⟨C0.out, hq⟩, u0, u1, u2, hlt⟩)
      have g1 : IntKind.i64.wrap ((i : Int) + 1) = i + 1 := IntWalk.i64_in _ (by omega)
      have ST := Lib.hid (allR_step hx)
      obtain ⟨out, hout⟩ : ∃ out, allR (l.take i) = out := ⟨_, rfl⟩
      have ol : out.length = i := by rw [← hout, allR_len, List.length_take]; have := HL.out; omega
      rw [hout] at HO ST
      have OL := Lib.hid ol
      obtain ⟨x1, x2, x3⟩ := x
      clear hx u0 u1 u2 hout ol
      go_wp2_with fail
      go_loopw [5] (fun kv w2 => Hid (RelI wr out ⟨x1, x2, x3⟩ kv w2)) (fun kv _ => (i - intOf kv).toNat)
      case atStart => exact ⟨0, rfl, by omega, fun j y hj => by omega, Below.refl _ _⟩
      case round =>
      obtain ⟨k, rfl, hk, hless, hb2⟩ := hrel
      have HLE := Lib.hid hless
      have B0 := Lib.hid hb2
      have B2 := Lib.hid (Below.next HB.out hb2)
      have c0 := (B2.out.cell (p := ⟨R.q, 0, none⟩) hq).trans C0.out
      have hq3 := Nat.lt_of_lt_of_le hq B2.out.size
      have hki : k ≤ i := by have := OL.out; omega
      clear hless hb2 hk
      by_cases hki2 : k < i
      · have hk1 : (k : Int) < (i : Int) := by omega
        have hk2 : decide ((k : Int) < (i : Int)) = true := decide_eq_true hk1
        obtain ⟨y, hy⟩ : ∃ y, out[k]? = some y := ⟨_, List.getElem?_eq_getElem (by have := OL.out; omega)⟩
        obtain ⟨g2, off2, c2', ev, -, hlt2, v0, v1, v2⟩ := HO.out.wat hy
        simp only [Value.slice.injEq] at ev
        obtain ⟨rfl, -, -⟩ := ev
        have SO := Lib.hid (show S3w g2 (off2 + k * 3) y _ from ⟨v0, v1, v2, hlt2⟩)
        have HY := Lib.hid hy
        have g2' : IntKind.i64.wrap ((k : Int) + 1) = k + 1 := IntWalk.i64_in _ (by omega)
        clear hy v0 v1 v2
        have HSD := Lib.hid (show SB R.q (.slice (some ⟨g, off, none⟩) n c) g (off + i * 3) ⟨x1, x2, x3⟩ g2 (off2 + k * 3) y _ from ⟨SAW.out.below B2.out.drew, SO.out.below B0.out.drew⟩)
        have SBB := Lib.hid (fun W (o : Below _ _ W) => HSD.out.below o)
        obtain ⟨y1, y2, y3⟩ := y
        cases hlb : ltB ⟨y1, y2, y3⟩ ⟨x1, x2, x3⟩ with
        | true =>
          have LS := LE ⟨y1, y2, y3⟩ ⟨x1, x2, x3⟩
          rw [hlb] at LS
          have HLE2 : Hid (∀ (j : Nat) y, j < k + 1 → out[j]? = some y → ltB y ⟨x1, x2, x3⟩ = true) := fun j y hj hy => by
            by_cases e : j = k
            · subst e
              have := HY.out
              rw [hy] at this; injection this with this; rw [this]; exact hlb
            · exact HLE.out j y (by omega) hy
          clear hlb
          go_wp2_with fail
          refine wp_region_zone (SB R.q (.slice (some ⟨g, off, none⟩) n c) g (off + i * 3) ⟨x1, x2, x3⟩ g2 (off2 + k * 3) ⟨y1, y2, y3⟩) (fun j => true) (by kernel_rfl) ?_
          refine wpAnyZ_move (i := 0) (v := ?_) rfl (by kernel_rfl) (by kernel_rfl) (by kernel_rfl) (fun _ _ _ h => h) (Or.inl ⟨by rfl, ?_⟩) ?_
          (rotate_left 1; (focus (intro W; go_simp; try with_reducible rfl)))
          try simp only [Act.put, List.setIfInBounds_toArray, List.set_cons_zero, List.set_cons_succ, List.getElem_toArray, List.getElem_cons_succ, List.getElem_cons_zero]
          refine wpAnyZ_move (i := 1) (v := ?_) rfl (by kernel_rfl) (by kernel_rfl) (by kernel_rfl) (fun _ _ _ h => h) (Or.inl ⟨by rfl, ?_⟩) ?_
          (rotate_left 1; (focus (intro W; go_simp; try with_reducible rfl)))
          try simp only [Act.put, List.setIfInBounds_toArray, List.set_cons_zero, List.set_cons_succ, List.getElem_toArray, List.getElem_cons_succ, List.getElem_cons_zero]
          refine wpAnyZ_move (i := 2) (v := ?_) rfl (by kernel_rfl) (by kernel_rfl) (by kernel_rfl) (fun _ _ _ h => h) (Or.inl ⟨by rfl, ?_⟩) ?_
          (rotate_left 1; (focus (intro W; go_simp; try with_reducible rfl)))
          try simp only [Act.put, List.setIfInBounds_toArray, List.set_cons_zero, List.set_cons_succ, List.getElem_toArray, List.getElem_cons_succ, List.getElem_cons_zero]
          refine wpAnyZ_move (i := 3) (v := ?_) rfl (by kernel_rfl) (by kernel_rfl) (by kernel_rfl) (fun _ _ _ h => h) (Or.inl ⟨by rfl, ?_⟩) ?_
          (rotate_left 1; (focus (intro W; go_simp; try with_reducible rfl)))
          try simp only [Act.put, List.setIfInBounds_toArray, List.set_cons_zero, List.set_cons_succ, List.getElem_toArray, List.getElem_cons_succ, List.getElem_cons_zero]
          refine wpAnyZ_move (i := 4) (v := ?_) rfl (by kernel_rfl) (by kernel_rfl) (by kernel_rfl) (fun _ _ _ h => h) (Or.inl ⟨by rfl, ?_⟩) ?_
          (rotate_left 1; (focus (intro W; go_simp; try with_reducible rfl)))
          try simp only [Act.put, List.setIfInBounds_toArray, List.set_cons_zero, List.set_cons_succ, List.getElem_toArray, List.getElem_cons_succ, List.getElem_cons_zero]
          refine wpAnyZ_move (i := 5) (v := ?_) rfl (by kernel_rfl) (by kernel_rfl) (by kernel_rfl) (fun _ _ _ h => h) (Or.inl ⟨by rfl, ?_⟩) ?_
          (rotate_left 1; (focus (intro W; go_simp; try with_reducible rfl)))
          try simp only [Act.put, List.setIfInBounds_toArray, List.set_cons_zero, List.set_cons_succ, List.getElem_toArray, List.getElem_cons_succ, List.getElem_cons_zero]
          refine wpAnyZ_move (i := 6) (v := ?_) rfl (by kernel_rfl) (by kernel_rfl) (by kernel_rfl) (fun _ _ _ h => h) (Or.inl ⟨by rfl, ?_⟩) ?_
          (rotate_left 1; (focus (intro W; go_simp; try with_reducible rfl)))
          try simp only [Act.put, List.setIfInBounds_toArray, List.set_cons_zero, List.set_cons_succ, List.getElem_toArray, List.getElem_cons_succ, List.getElem_cons_zero]
          refine wpAnyZ_move (i := 7) (v := ?_) rfl (by kernel_rfl) (by kernel_rfl) (by kernel_rfl) (fun _ _ _ h => h) (Or.inl ⟨by rfl, ?_⟩) ?_
          (rotate_left 1; (focus (intro W; go_simp; try with_reducible rfl)))
          try simp only [Act.put, List.setIfInBounds_toArray, List.set_cons_zero, List.set_cons_succ, List.getElem_toArray, List.getElem_cons_succ, List.getElem_cons_zero]
          refine wpAnyZ_take (i := 8) (v := ?_) rfl (by kernel_rfl) (by kernel_rfl) (by kernel_rfl) (by kernel_rfl) (fun _ _ _ h => h) (Or.inl ⟨by rfl, ?_⟩) HSD.out ?_
          (rotate_left 1; (focus (intro W hS; obtain ⟨⟨⟨p0, p1⟩, p2, p3, p4, p5⟩, q0, q1, q2, q3⟩ := hS; go_simp; try with_reducible rfl)))
          try simp only [Act.put, List.setIfInBounds_toArray, List.set_cons_zero, List.set_cons_succ, List.getElem_toArray, List.getElem_cons_succ, List.getElem_cons_zero]
          refine wpAnyZ_move (i := 9) (v := ?_) rfl (by kernel_rfl) (by kernel_rfl) (by kernel_rfl) (fun _ _ _ h => h) (Or.inl ⟨by rfl, ?_⟩) ?_
          (rotate_left 1; (focus (intro W; go_simp; try with_reducible rfl)))
          try simp only [Act.put, List.setIfInBounds_toArray, List.set_cons_zero, List.set_cons_succ, List.getElem_toArray, List.getElem_cons_succ, List.getElem_cons_zero]
          refine wpAnyZ_move (i := 10) (v := ?_) rfl (by kernel_rfl) (by kernel_rfl) (by kernel_rfl) (fun _ _ _ h => h) (Or.inl ⟨by rfl, ?_⟩) ?_
          (rotate_left 1; (focus (intro W; go_simp; try with_reducible rfl)))
          try simp only [Act.put, List.setIfInBounds_toArray, List.set_cons_zero, List.set_cons_succ, List.getElem_toArray, List.getElem_cons_succ, List.getElem_cons_zero]
          refine wpAnyZ_move (i := 11) (v := ?_) rfl (by kernel_rfl) (by kernel_rfl) (by kernel_rfl) (fun _ _ _ h => h) (Or.inl ⟨by rfl, ?_⟩) ?_
          (rotate_left 1; (focus (intro W; go_simp; try with_reducible rfl)))
          try simp only [Act.put, List.setIfInBounds_toArray, List.set_cons_zero, List.set_cons_succ, List.getElem_toArray, List.getElem_cons_succ, List.getElem_cons_zero]
          refine wpAnyZ_take (i := 12) (v := ?_) rfl (by kernel_rfl) (by kernel_rfl) (by kernel_rfl) (by kernel_rfl) (fun _ _ _ h => h) (Or.inl ⟨by rfl, ?_⟩) HSD.out ?_
          (rotate_left 1; (focus (intro W hS; obtain ⟨⟨⟨p0, p1⟩, p2, p3, p4, p5⟩, q0, q1, q2, q3⟩ := hS; go_simp; try with_reducible rfl)))
          try simp only [Act.put, List.setIfInBounds_toArray, List.set_cons_zero, List.set_cons_succ, List.getElem_toArray, List.getElem_cons_succ, List.getElem_cons_zero]
          refine wpAnyZ_move (i := 13) (v := ?_) rfl (by kernel_rfl) (by kernel_rfl) (by kernel_rfl) (fun _ _ _ h => h) (Or.inl ⟨by rfl, ?_⟩) ?_
          (rotate_left 1; (focus (intro W; go_simp; try with_reducible rfl)))
          try simp only [Act.put, List.setIfInBounds_toArray, List.set_cons_zero, List.set_cons_succ, List.getElem_toArray, List.getElem_cons_succ, List.getElem_cons_zero]
          refine wpAnyZ_move (i := 14) (v := ?_) rfl (by kernel_rfl) (by kernel_rfl) (by kernel_rfl) (fun _ _ _ h => h) (Or.inl ⟨by rfl, ?_⟩) ?_
          (rotate_left 1; (focus (intro W; go_simp; try with_reducible rfl)))
          try simp only [Act.put, List.setIfInBounds_toArray, List.set_cons_zero, List.set_cons_succ, List.getElem_toArray, List.getElem_cons_succ, List.getElem_cons_zero]
          refine wpAnyZ_take (i := 15) (v := ?_) rfl (by kernel_rfl) (by kernel_rfl) (by kernel_rfl) (by kernel_rfl) (fun _ _ _ h => h) (Or.inl ⟨by rfl, ?_⟩) HSD.out ?_
          (rotate_left 1; (focus (intro W hS; obtain ⟨⟨⟨p0, p1⟩, p2, p3, p4, p5⟩, q0, q1, q2, q3⟩ := hS; go_simp; try with_reducible rfl)))
          try simp only [Act.put, List.setIfInBounds_toArray, List.set_cons_zero, List.set_cons_succ, List.getElem_toArray, List.getElem_cons_succ, List.getElem_cons_zero]
          refine wpAnyZ_one (i := 16) (by kernel_rfl) rfl (fun K hK => ?_)
          go_simp
          go_wp2_with (go_at_call 36; (with_reducible refine Calls.mono (LS _).out ?_); rintro e w5 ⟨rfl, b5⟩; have SB5 := Lib.hid (SBB.out _ b5); have BL := Lib.hid (Below.next B0.out.drew b5); clear b5)
          refine hK.out _ _ (fun _ _ => SB5.out) ?_
          clear hK K
          refine wpAnyZ_move (i := 17) (v := ?_) rfl (by kernel_rfl) (by kernel_rfl) (by kernel_rfl) (fun _ _ _ h => h) (Or.inl ⟨by rfl, ?_⟩) ?_
          (rotate_left 1; (focus (intro W; go_simp; try with_reducible rfl)))
          try simp only [Act.put, List.setIfInBounds_toArray, List.set_cons_zero, List.set_cons_succ, List.getElem_toArray, List.getElem_cons_succ, List.getElem_cons_zero]
          refine wpAnyZ_done (by kernel_rfl) ?_ _
          go_wp2_with fail
          go_roundw
          case rel => exact ⟨k + 1, by go_num, by have := OL.out; omega, HLE2.out, BL.out⟩
          case measure => simp [intOf]; omega
        | false =>
          have LS := LE ⟨y1, y2, y3⟩ ⟨x1, x2, x3⟩
          rw [hlb] at LS
          have NX := Lib.hid (insW_at (t := ⟨x1, x2, x3⟩) (by have := OL.out; omega) HLE.out (fun y hy => by rw [HY.out] at hy; injection hy with hy; rw [← hy]; exact hlb))
          clear hlb
          go_wp2_with fail
          refine wp_region_zone (SB R.q (.slice (some ⟨g, off, none⟩) n c) g (off + i * 3) ⟨x1, x2, x3⟩ g2 (off2 + k * 3) ⟨y1, y2, y3⟩) (fun j => true) (by kernel_rfl) ?_
          refine wpAnyZ_move (i := 0) (v := ?_) rfl (by kernel_rfl) (by kernel_rfl) (by kernel_rfl) (fun _ _ _ h => h) (Or.inl ⟨by rfl, ?_⟩) ?_
          (rotate_left 1; (focus (intro W; go_simp; try with_reducible rfl)))
          try simp only [Act.put, List.setIfInBounds_toArray, List.set_cons_zero, List.set_cons_succ, List.getElem_toArray, List.getElem_cons_succ, List.getElem_cons_zero]
          refine wpAnyZ_move (i := 1) (v := ?_) rfl (by kernel_rfl) (by kernel_rfl) (by kernel_rfl) (fun _ _ _ h => h) (Or.inl ⟨by rfl, ?_⟩) ?_
          (rotate_left 1; (focus (intro W; go_simp; try with_reducible rfl)))
          try simp only [Act.put, List.setIfInBounds_toArray, List.set_cons_zero, List.set_cons_succ, List.getElem_toArray, List.getElem_cons_succ, List.getElem_cons_zero]
          refine wpAnyZ_move (i := 2) (v := ?_) rfl (by kernel_rfl) (by kernel_rfl) (by kernel_rfl) (fun _ _ _ h => h) (Or.inl ⟨by rfl, ?_⟩) ?_
          (rotate_left 1; (focus (intro W; go_simp; try with_reducible rfl)))
          try simp only [Act.put, List.setIfInBounds_toArray, List.set_cons_zero, List.set_cons_succ, List.getElem_toArray, List.getElem_cons_succ, List.getElem_cons_zero]
          refine wpAnyZ_move (i := 3) (v := ?_) rfl (by kernel_rfl) (by kernel_rfl) (by kernel_rfl) (fun _ _ _ h => h) (Or.inl ⟨by rfl, ?_⟩) ?_
          (rotate_left 1; (focus (intro W; go_simp; try with_reducible rfl)))
          try simp only [Act.put, List.setIfInBounds_toArray, List.set_cons_zero, List.set_cons_succ, List.getElem_toArray, List.getElem_cons_succ, List.getElem_cons_zero]
          refine wpAnyZ_move (i := 4) (v := ?_) rfl (by kernel_rfl) (by kernel_rfl) (by kernel_rfl) (fun _ _ _ h => h) (Or.inl ⟨by rfl, ?_⟩) ?_
          (rotate_left 1; (focus (intro W; go_simp; try with_reducible rfl)))
          try simp only [Act.put, List.setIfInBounds_toArray, List.set_cons_zero, List.set_cons_succ, List.getElem_toArray, List.getElem_cons_succ, List.getElem_cons_zero]
          refine wpAnyZ_move (i := 5) (v := ?_) rfl (by kernel_rfl) (by kernel_rfl) (by kernel_rfl) (fun _ _ _ h => h) (Or.inl ⟨by rfl, ?_⟩) ?_
          (rotate_left 1; (focus (intro W; go_simp; try with_reducible rfl)))
          try simp only [Act.put, List.setIfInBounds_toArray, List.set_cons_zero, List.set_cons_succ, List.getElem_toArray, List.getElem_cons_succ, List.getElem_cons_zero]
          refine wpAnyZ_move (i := 6) (v := ?_) rfl (by kernel_rfl) (by kernel_rfl) (by kernel_rfl) (fun _ _ _ h => h) (Or.inl ⟨by rfl, ?_⟩) ?_
          (rotate_left 1; (focus (intro W; go_simp; try with_reducible rfl)))
          try simp only [Act.put, List.setIfInBounds_toArray, List.set_cons_zero, List.set_cons_succ, List.getElem_toArray, List.getElem_cons_succ, List.getElem_cons_zero]
          refine wpAnyZ_move (i := 7) (v := ?_) rfl (by kernel_rfl) (by kernel_rfl) (by kernel_rfl) (fun _ _ _ h => h) (Or.inl ⟨by rfl, ?_⟩) ?_
          (rotate_left 1; (focus (intro W; go_simp; try with_reducible rfl)))
          try simp only [Act.put, List.setIfInBounds_toArray, List.set_cons_zero, List.set_cons_succ, List.getElem_toArray, List.getElem_cons_succ, List.getElem_cons_zero]
          refine wpAnyZ_take (i := 8) (v := ?_) rfl (by kernel_rfl) (by kernel_rfl) (by kernel_rfl) (by kernel_rfl) (fun _ _ _ h => h) (Or.inl ⟨by rfl, ?_⟩) HSD.out ?_
          (rotate_left 1; (focus (intro W hS; obtain ⟨⟨⟨p0, p1⟩, p2, p3, p4, p5⟩, q0, q1, q2, q3⟩ := hS; go_simp; try with_reducible rfl)))
          try simp only [Act.put, List.setIfInBounds_toArray, List.set_cons_zero, List.set_cons_succ, List.getElem_toArray, List.getElem_cons_succ, List.getElem_cons_zero]
          refine wpAnyZ_move (i := 9) (v := ?_) rfl (by kernel_rfl) (by kernel_rfl) (by kernel_rfl) (fun _ _ _ h => h) (Or.inl ⟨by rfl, ?_⟩) ?_
          (rotate_left 1; (focus (intro W; go_simp; try with_reducible rfl)))
          try simp only [Act.put, List.setIfInBounds_toArray, List.set_cons_zero, List.set_cons_succ, List.getElem_toArray, List.getElem_cons_succ, List.getElem_cons_zero]
          refine wpAnyZ_move (i := 10) (v := ?_) rfl (by kernel_rfl) (by kernel_rfl) (by kernel_rfl) (fun _ _ _ h => h) (Or.inl ⟨by rfl, ?_⟩) ?_
          (rotate_left 1; (focus (intro W; go_simp; try with_reducible rfl)))
          try simp only [Act.put, List.setIfInBounds_toArray, List.set_cons_zero, List.set_cons_succ, List.getElem_toArray, List.getElem_cons_succ, List.getElem_cons_zero]
          refine wpAnyZ_move (i := 11) (v := ?_) rfl (by kernel_rfl) (by kernel_rfl) (by kernel_rfl) (fun _ _ _ h => h) (Or.inl ⟨by rfl, ?_⟩) ?_
          (rotate_left 1; (focus (intro W; go_simp; try with_reducible rfl)))
          try simp only [Act.put, List.setIfInBounds_toArray, List.set_cons_zero, List.set_cons_succ, List.getElem_toArray, List.getElem_cons_succ, List.getElem_cons_zero]
          refine wpAnyZ_take (i := 12) (v := ?_) rfl (by kernel_rfl) (by kernel_rfl) (by kernel_rfl) (by kernel_rfl) (fun _ _ _ h => h) (Or.inl ⟨by rfl, ?_⟩) HSD.out ?_
          (rotate_left 1; (focus (intro W hS; obtain ⟨⟨⟨p0, p1⟩, p2, p3, p4, p5⟩, q0, q1, q2, q3⟩ := hS; go_simp; try with_reducible rfl)))
          try simp only [Act.put, List.setIfInBounds_toArray, List.set_cons_zero, List.set_cons_succ, List.getElem_toArray, List.getElem_cons_succ, List.getElem_cons_zero]
          refine wpAnyZ_move (i := 13) (v := ?_) rfl (by kernel_rfl) (by kernel_rfl) (by kernel_rfl) (fun _ _ _ h => h) (Or.inl ⟨by rfl, ?_⟩) ?_
          (rotate_left 1; (focus (intro W; go_simp; try with_reducible rfl)))
          try simp only [Act.put, List.setIfInBounds_toArray, List.set_cons_zero, List.set_cons_succ, List.getElem_toArray, List.getElem_cons_succ, List.getElem_cons_zero]
          refine wpAnyZ_move (i := 14) (v := ?_) rfl (by kernel_rfl) (by kernel_rfl) (by kernel_rfl) (fun _ _ _ h => h) (Or.inl ⟨by rfl, ?_⟩) ?_
          (rotate_left 1; (focus (intro W; go_simp; try with_reducible rfl)))
          try simp only [Act.put, List.setIfInBounds_toArray, List.set_cons_zero, List.set_cons_succ, List.getElem_toArray, List.getElem_cons_succ, List.getElem_cons_zero]
          refine wpAnyZ_take (i := 15) (v := ?_) rfl (by kernel_rfl) (by kernel_rfl) (by kernel_rfl) (by kernel_rfl) (fun _ _ _ h => h) (Or.inl ⟨by rfl, ?_⟩) HSD.out ?_
          (rotate_left 1; (focus (intro W hS; obtain ⟨⟨⟨p0, p1⟩, p2, p3, p4, p5⟩, q0, q1, q2, q3⟩ := hS; go_simp; try with_reducible rfl)))
          try simp only [Act.put, List.setIfInBounds_toArray, List.set_cons_zero, List.set_cons_succ, List.getElem_toArray, List.getElem_cons_succ, List.getElem_cons_zero]
          refine wpAnyZ_one (i := 16) (by kernel_rfl) rfl (fun K hK => ?_)
          go_simp
          go_wp2_with (go_at_call 36; (with_reducible refine Calls.mono (LS _).out ?_); rintro e w5 ⟨rfl, b5⟩; have SB5 := Lib.hid (SBB.out _ b5); have BL := Lib.hid (Below.next B0.out.drew b5); clear b5)
          refine hK.out _ _ (fun _ _ => SB5.out) ?_
          clear hK K
          refine wpAnyZ_move (i := 17) (v := ?_) rfl (by kernel_rfl) (by kernel_rfl) (by kernel_rfl) (fun _ _ _ h => h) (Or.inl ⟨by rfl, ?_⟩) ?_
          (rotate_left 1; (focus (intro W; go_simp; try with_reducible rfl)))
          try simp only [Act.put, List.setIfInBounds_toArray, List.set_cons_zero, List.set_cons_succ, List.getElem_toArray, List.getElem_cons_succ, List.getElem_cons_zero]
          refine wpAnyZ_done (by kernel_rfl) ?_ _
          go_wp2_with fail
          have hkI : (k : Int) ≤ (i : Int) := by omega
          have hkC : (k : Int) ≤ (co : Int) := by omega
          have hiC : (i : Int) ≤ (co : Int) := by omega
          have ne1 : ¬ co = k := by omega
          have ne2 : ¬ k = co := by omega
          have ne3 : ((k : Int) == (co : Int)) = false := beq_eq_false_iff_ne.2 (by omega)
          have LD := Lib.hid (show (out.drop k).take (i - k) = out.drop k from List.take_of_length_le (by rw [List.length_drop]; have := OL.out; omega))
          have KI := Lib.hid hki
          clear hki
          have HOX := HO.out.below BL.out (fun g hg => HO.out.lt hg)
          have hsa := SAW.out.below (Below.next HB.out BL.out)
          have bw0 := Below.next HB.out BL.out
          have HSD0 := hsa.below (Below.refl _ _).drew
          have bw1 := bw0.drew
          have hox1 := HOX.drew
          refine wp_region_zone (SA R.q (.slice (some ⟨g, off, none⟩) n c) g (off + i * 3) ⟨x1, x2, x3⟩) (fun j => true) (by kernel_rfl) ?_
          refine forgetZ (F := fun W => (SA R.q (.slice (some ⟨g, off, none⟩) n c) g (off + i * 3) ⟨x1, x2, x3⟩) W ∧ Below w.heap.size w W ∧ Slc W 30 3 (.slice (some ⟨g2, off2, none⟩) i co) i (flatW out)) ⟨HSD0, bw1, hox1⟩ ?_
          clear HOX hsa bw0 HSD0 bw1 hox1
          rintro W0 ⟨hsd, bw0, hox⟩
          have HSD := Lib.hid hsd
          have BW0 := Lib.hid bw0
          have HOX := Lib.hid hox
          have SAB : ∀ W, Hid (Below W0.heap.size W0 W → (SA R.q (.slice (some ⟨g, off, none⟩) n c) g (off + i * 3) ⟨x1, x2, x3⟩) W) := fun W o => hsd.below o
          have BC := Lib.hid (Below.refl W0.heap.size W0)
          clear hsd bw0 hox
          refine wpAnyZ_move (i := 1) (v := ?_) rfl (by kernel_rfl) (by kernel_rfl) (by kernel_rfl) (fun _ _ _ h => h) (Or.inl ⟨by rfl, ?_⟩) ?_
          (rotate_left 1; (focus (intro W; go_simp; try with_reducible rfl)))
          try simp only [Act.put, List.setIfInBounds_toArray, List.set_cons_zero, List.set_cons_succ, List.getElem_toArray, List.getElem_cons_succ, List.getElem_cons_zero]
          refine wpAnyZ_move (i := 2) (v := ?_) rfl (by kernel_rfl) (by kernel_rfl) (by kernel_rfl) (fun _ _ _ h => h) (Or.inl ⟨by rfl, ?_⟩) ?_
          (rotate_left 1; (focus (intro W; go_simp; try with_reducible rfl)))
          try simp only [Act.put, List.setIfInBounds_toArray, List.set_cons_zero, List.set_cons_succ, List.getElem_toArray, List.getElem_cons_succ, List.getElem_cons_zero]
          refine wpAnyZ_move (i := 3) (v := ?_) rfl (by kernel_rfl) (by kernel_rfl) (by kernel_rfl) (fun _ _ _ h => h) (Or.inl ⟨by rfl, ?_⟩) ?_
          (rotate_left 1; (focus (intro W; go_simp; try with_reducible rfl)))
          try simp only [Act.put, List.setIfInBounds_toArray, List.set_cons_zero, List.set_cons_succ, List.getElem_toArray, List.getElem_cons_succ, List.getElem_cons_zero]
          refine wpAnyZ_move (i := 5) (v := ?_) rfl (by kernel_rfl) (by kernel_rfl) (by kernel_rfl) (fun _ _ _ h => h) (Or.inl ⟨by rfl, ?_⟩) ?_
          (rotate_left 1; (focus (intro W; go_simp; try with_reducible rfl)))
          try simp only [Act.put, List.setIfInBounds_toArray, List.set_cons_zero, List.set_cons_succ, List.getElem_toArray, List.getElem_cons_succ, List.getElem_cons_zero]
          refine wpAnyZ_move (i := 6) (v := ?_) rfl (by kernel_rfl) (by kernel_rfl) (by kernel_rfl) (fun _ _ _ h => h) (Or.inl ⟨by rfl, ?_⟩) ?_
          (rotate_left 1; (focus (intro W; go_simp; try with_reducible rfl)))
          try simp only [Act.put, List.setIfInBounds_toArray, List.set_cons_zero, List.set_cons_succ, List.getElem_toArray, List.getElem_cons_succ, List.getElem_cons_zero]
          refine wpAnyZ_move (i := 7) (v := ?_) rfl (by kernel_rfl) (by kernel_rfl) (by kernel_rfl) (fun _ _ _ h => h) (Or.inl ⟨by rfl, ?_⟩) ?_
          (rotate_left 1; (focus (intro W; go_simp; try with_reducible rfl)))
          try simp only [Act.put, List.setIfInBounds_toArray, List.set_cons_zero, List.set_cons_succ, List.getElem_toArray, List.getElem_cons_succ, List.getElem_cons_zero]
          refine wpAnyZ_take (i := 8) (v := ?_) rfl (by kernel_rfl) (by kernel_rfl) (by kernel_rfl) (by kernel_rfl) (fun _ _ _ h => h) (Or.inl ⟨by rfl, ?_⟩) HSD.out ?_
          (rotate_left 1; (focus (intro W hS; obtain ⟨⟨p0, p1⟩, p2, p3, p4, p5⟩ := hS; go_simp; try with_reducible rfl)))
          try simp only [Act.put, List.setIfInBounds_toArray, List.set_cons_zero, List.set_cons_succ, List.getElem_toArray, List.getElem_cons_succ, List.getElem_cons_zero]
          refine wpAnyZ_move (i := 9) (v := ?_) rfl (by kernel_rfl) (by kernel_rfl) (by kernel_rfl) (fun _ _ _ h => h) (Or.inl ⟨by rfl, ?_⟩) ?_
          (rotate_left 1; (focus (intro W; go_simp; try with_reducible rfl)))
          try simp only [Act.put, List.setIfInBounds_toArray, List.set_cons_zero, List.set_cons_succ, List.getElem_toArray, List.getElem_cons_succ, List.getElem_cons_zero]
          refine wpAnyZ_move (i := 10) (v := ?_) rfl (by kernel_rfl) (by kernel_rfl) (by kernel_rfl) (fun _ _ _ h => h) (Or.inl ⟨by rfl, ?_⟩) ?_
          (rotate_left 1; (focus (intro W; go_simp; try with_reducible rfl)))
          try simp only [Act.put, List.setIfInBounds_toArray, List.set_cons_zero, List.set_cons_succ, List.getElem_toArray, List.getElem_cons_succ, List.getElem_cons_zero]
          refine wpAnyZ_take (i := 11) (v := ?_) rfl (by kernel_rfl) (by kernel_rfl) (by kernel_rfl) (by kernel_rfl) (fun _ _ _ h => h) (Or.inl ⟨by rfl, ?_⟩) HSD.out ?_
          (rotate_left 1; (focus (intro W hS; obtain ⟨⟨p0, p1⟩, p2, p3, p4, p5⟩ := hS; go_simp; try with_reducible rfl)))
          try simp only [Act.put, List.setIfInBounds_toArray, List.set_cons_zero, List.set_cons_succ, List.getElem_toArray, List.getElem_cons_succ, List.getElem_cons_zero]
          refine wpAnyZ_move (i := 14) (v := ?_) rfl (by kernel_rfl) (by kernel_rfl) (by kernel_rfl) (fun _ _ _ h => h) (Or.inl ⟨by rfl, ?_⟩) ?_
          (rotate_left 1; (focus (intro W; go_simp; try with_reducible rfl)))
          try simp only [Act.put, List.setIfInBounds_toArray, List.set_cons_zero, List.set_cons_succ, List.getElem_toArray, List.getElem_cons_succ, List.getElem_cons_zero]
          refine wpAnyZ_move (i := 15) (v := ?_) rfl (by kernel_rfl) (by kernel_rfl) (by kernel_rfl) (fun _ _ _ h => h) (Or.inl ⟨by rfl, ?_⟩) ?_
          (rotate_left 1; (focus (intro W; go_simp; try with_reducible rfl)))
          try simp only [Act.put, List.setIfInBounds_toArray, List.set_cons_zero, List.set_cons_succ, List.getElem_toArray, List.getElem_cons_succ, List.getElem_cons_zero]
          refine wpAnyZ_move (i := 16) (v := ?_) rfl (by kernel_rfl) (by kernel_rfl) (by kernel_rfl) (fun _ _ _ h => h) (Or.inl ⟨by rfl, ?_⟩) ?_
          (rotate_left 1; (focus (intro W; go_simp; try with_reducible rfl)))
          try simp only [Act.put, List.setIfInBounds_toArray, List.set_cons_zero, List.set_cons_succ, List.getElem_toArray, List.getElem_cons_succ, List.getElem_cons_zero]
          refine wpAnyZ_two (i := 0) (j := 12) (by kernel_rfl) rfl rfl (fun K hK => ?_) (fun K hK => ?_)
          · go_simp
            refine hK.out _ _ (fun _ _ => (SAB _).out (BC.out.alloc BC.out.size _)) ?_
            clear hK K
            have NN35 := Lib.hid BC.out.size
            refine forgetZ (F := fun W => Below W0.heap.size W0 W ∧ Slc W 30 3 (.slice (some ⟨W0.heap.size, 0, none⟩) 0 0) 0 []) ⟨BC.out.alloc BC.out.size _, Slc.new W0 30 3⟩ ?_
            clear BC
            rintro W1 ⟨bn, s5⟩
            have BC := Lib.hid bn
            have S35 := Lib.hid s5
            clear bn s5
            refine wpAnyZ_two (i := 4) (j := 12) (by kernel_rfl) rfl rfl (fun K hK => ?_) (fun K hK => ?_)
            · refine step_append_slc _ rfl (.tmp 35) (.tmp 38) _ rfl 30 i0 _ 3 24 Try.underlying22 hi0 hz0 hz1 hz2 rfl (by omega) (.slice (some ⟨W0.heap.size, 0, none⟩) 0 0) 0 [] rfl S35.out (some ⟨g2, off2, none⟩) k co (flatW (out.take k)) rfl (srcPart0 (HOX.out.below BC.out (fun g hg => HOX.out.lt hg)) (by omega)) (HF.out _) (by omega) (by simp only [maxLen]; omega) ?_
              intro v2 W2 hs ho hat
              obtain ⟨A3, c3, e3, -⟩ := hs.shape
              subst e3
              have bn : Below W0.heap.size W0 W2 := Below.onlyF BC.out ho (fun g h => by simp [Value.ownBlock] at h; have := NN35.out; omega)
              have s9 : Slc W2 30 3 (.slice A3 k c3) k (flatW (out.take k)) := by simpa using hs
              have at9 : ∃ g, (Value.slice A3 k c3).ownBlock = some g ∧ W0.heap.size ≤ g := by
                simp only [Nat.zero_add] at hat
                rcases hat with h | h
                · exact ⟨_, h.trans rfl, NN35.out⟩
                · exact ⟨_, h, BC.out.size⟩
              simp only [Nat.zero_add]
              have BC := Lib.hid bn
              have S39 := Lib.hid s9
              have AT9 := Lib.hid at9
              clear hs ho hat bn s9 at9
              try go_simp
              refine hK.out _ _ (fun _ _ => (SAB _).out BC.out) ?_
              clear hK K
              refine wpAnyZ_one (i := 12) (by kernel_rfl) rfl (fun K hK => ?_)
              go_simp
              refine hK.out _ _ (fun _ _ => (SAB _).out (BC.out.alloc BC.out.size _)) ?_
              clear hK K
              refine forgetZ (F := fun W => Below W0.heap.size W0 W ∧ Slc W 30 3 (.slice A3 k c3) k (flatW (out.take k)) ∧ Blk W W2.heap.size 30 [.int .i64 x1, .int .u64 x2, .int .i64 x3]) ⟨BC.out.alloc BC.out.size _, S39.out.alloc _, Blk.new W2 30 [.int .i64 x1, .int .u64 x2, .int .i64 x3]⟩ ?_
              clear BC S39
              rintro W3 ⟨bn, s9, x7⟩
              have BC := Lib.hid bn
              have S39 := Lib.hid s9
              have X47 := Lib.hid x7
              clear bn s9 x7
              refine wpAnyZ_one (i := 13) (by kernel_rfl) rfl (fun K hK => ?_)
              refine step_append_slc _ rfl (.tmp 39) (.tmp 47) _ rfl 30 i0 _ 3 24 Try.underlying22 hi0 hz0 hz1 hz2 rfl (by omega) (.slice A3 k c3) k (flatW (out.take k)) rfl S39.out (some ⟨W2.heap.size, 0, none⟩) 1 1 [.int .i64 x1, .int .u64 x2, .int .i64 x3] rfl (srcW X47.out rfl) (by simp [Value.oneCell']) (by omega) (by simp only [maxLen]; omega) ?_
              intro v4 W4 hs ho hat
              obtain ⟨A4, c4, e4, -⟩ := hs.shape
              subst e4
              have bn : Below W0.heap.size W0 W4 := Below.onlyF BC.out ho (fun g h => by obtain ⟨g', e, hg⟩ := AT9.out; rw [e] at h; injection h with h; omega)
              have at4 : ∃ g, (Value.slice A4 (k + 1) c4).ownBlock = some g ∧ W0.heap.size ≤ g := by
                rcases hat with h | h
                · obtain ⟨g', e, hg⟩ := AT9.out; exact ⟨g', h.trans e, hg⟩
                · exact ⟨_, h, BC.out.size⟩
              have BC := Lib.hid bn
              have S48 := Lib.hid hs
              have AT4 := Lib.hid at4
              clear hs ho hat bn at4
              try go_simp
              refine hK.out _ _ (fun _ _ => (SAB _).out BC.out) ?_
              clear hK K
              refine wpAnyZ_one (i := 17) (by kernel_rfl) rfl (fun K hK => ?_)
              refine step_append_slc _ rfl (.tmp 48) (.tmp 51) _ rfl 30 i0 _ 3 24 Try.underlying22 hi0 hz0 hz1 hz2 rfl (by omega) (.slice A4 (k + 1) c4) (k + 1) (flatW (out.take k) ++ [.int .i64 x1, .int .u64 x2, .int .i64 x3]) rfl S48.out (some ⟨g2, off2 + k * 3, none⟩) (i - k) (co - k) (flatW (out.drop k)) rfl (by have := srcPart (i := k) (m := i - k) (HOX.out.below BC.out (fun g hg => HOX.out.lt hg)) (by have := KI.out; omega); rwa [LD.out] at this) (HF.out _) (by omega) (by simp only [maxLen]; omega) ?_
              intro v5 W5 hs ho hat
              obtain ⟨A5, c5, e5, -⟩ := hs.shape
              subst e5
              have bn : Below W0.heap.size W0 W5 := Below.onlyF BC.out ho (fun g h => by obtain ⟨g', e, hg⟩ := AT4.out; rw [e] at h; injection h with h; omega)
              have ow : ∀ g, (Value.slice A5 (k + 1 + (i - k)) c5).ownBlock = some g → w.heap.size ≤ g := fun g e => by
                have := BW0.out.size
                rcases hat with h | h
                · obtain ⟨g', e', hg⟩ := AT4.out; rw [h, e'] at e; injection e with e; omega
                · rw [h] at e; injection e with e; have := BC.out.size; omega
              have EM : k + 1 + (i - k) = i + 1 := by have := OL.out; have := KI.out; omega
              have hs2 : Slc W5 30 3 (.slice A5 (i + 1) c5) (i + 1) (flatW (allR (l.take (i + 1)))) := by
                rw [ST.out, ← NX.out, flatW_app, flatW_app, ← EM]
                exact hs
              rw [EM] at ow ⊢
              have BC := Lib.hid bn
              have S5 := Lib.hid hs2
              have OW := Lib.hid ow
              clear hs ho hat bn ow hs2
              try go_simp
              refine hK.out _ _ (fun _ _ => (SAB _).out BC.out) ?_
              clear hK K
              refine wpAnyZ_move (i := 18) (v := ?_) rfl (by kernel_rfl) (by kernel_rfl) (by kernel_rfl) (fun _ _ _ h => h) (Or.inl ⟨by rfl, ?_⟩) ?_
              (rotate_left 1; (focus (intro W; go_simp; try with_reducible rfl)))
              try simp only [Act.put, List.setIfInBounds_toArray, List.set_cons_zero, List.set_cons_succ, List.getElem_toArray, List.getElem_cons_succ, List.getElem_cons_zero]
              refine wpAnyZ_done (by kernel_rfl) ?_ _
              go_wp2_with fail
              go_roundw
              case rel => exact ⟨i + 1, by go_num, by omega, S5.out, OW.out, Below.next BW0.out BC.out⟩
              case measure => simp [intOf]; omega
            · go_simp
              refine hK.out _ _ (fun _ _ => (SAB _).out (BC.out.alloc BC.out.size _)) ?_
              clear hK K
              have NE := Lib.hid (show ¬ (Value.slice (some ⟨W0.heap.size, 0, none⟩) 0 0).ownBlock = some W1.heap.size from fun e => by have h35 : W0.heap.size < W1.heap.size := S35.out.lt rfl; simp [Value.ownBlock] at e; omega)
              refine forgetZ (F := fun W => Below W0.heap.size W0 W ∧ Slc W 30 3 (.slice (some ⟨W0.heap.size, 0, none⟩) 0 0) 0 [] ∧ Blk W W1.heap.size 30 [.int .i64 x1, .int .u64 x2, .int .i64 x3]) ⟨BC.out.alloc BC.out.size _, S35.out.alloc _, Blk.new W1 30 [.int .i64 x1, .int .u64 x2, .int .i64 x3]⟩ ?_
              clear BC S35
              rintro W2 ⟨bn, s5, x7⟩
              have BC := Lib.hid bn
              have S35 := Lib.hid s5
              have X47 := Lib.hid x7
              clear bn s5 x7
              refine wpAnyZ_one (i := 4) (by kernel_rfl) rfl (fun K hK => ?_)
              refine step_append_slc _ rfl (.tmp 35) (.tmp 38) _ rfl 30 i0 _ 3 24 Try.underlying22 hi0 hz0 hz1 hz2 rfl (by omega) (.slice (some ⟨W0.heap.size, 0, none⟩) 0 0) 0 [] rfl S35.out (some ⟨g2, off2, none⟩) k co (flatW (out.take k)) rfl (srcPart0 (HOX.out.below BC.out (fun g hg => HOX.out.lt hg)) (by omega)) (HF.out _) (by omega) (by simp only [maxLen]; omega) ?_
              intro v2 W3 hs ho hat
              obtain ⟨A3, c3, e3, -⟩ := hs.shape
              subst e3
              have bn : Below W0.heap.size W0 W3 := Below.onlyF BC.out ho (fun g h => by simp [Value.ownBlock] at h; have := NN35.out; omega)
              have s9 : Slc W3 30 3 (.slice A3 k c3) k (flatW (out.take k)) := by simpa using hs
              have at9 : ∃ g, (Value.slice A3 k c3).ownBlock = some g ∧ W0.heap.size ≤ g := by
                simp only [Nat.zero_add] at hat
                rcases hat with h | h
                · exact ⟨_, h.trans rfl, NN35.out⟩
                · exact ⟨_, h, BC.out.size⟩
              simp only [Nat.zero_add]
              have x7 := X47.out.only ho NE.out
              have X47 := Lib.hid x7
              clear x7
              have BC := Lib.hid bn
              have S39 := Lib.hid s9
              have AT9 := Lib.hid at9
              clear hs ho hat bn s9 at9
              try go_simp
              refine hK.out _ _ (fun _ _ => (SAB _).out BC.out) ?_
              clear hK K
              refine wpAnyZ_one (i := 13) (by kernel_rfl) rfl (fun K hK => ?_)
              refine step_append_slc _ rfl (.tmp 39) (.tmp 47) _ rfl 30 i0 _ 3 24 Try.underlying22 hi0 hz0 hz1 hz2 rfl (by omega) (.slice A3 k c3) k (flatW (out.take k)) rfl S39.out (some ⟨W1.heap.size, 0, none⟩) 1 1 [.int .i64 x1, .int .u64 x2, .int .i64 x3] rfl (srcW X47.out rfl) (by simp [Value.oneCell']) (by omega) (by simp only [maxLen]; omega) ?_
              intro v4 W4 hs ho hat
              obtain ⟨A4, c4, e4, -⟩ := hs.shape
              subst e4
              have bn : Below W0.heap.size W0 W4 := Below.onlyF BC.out ho (fun g h => by obtain ⟨g', e, hg⟩ := AT9.out; rw [e] at h; injection h with h; omega)
              have at4 : ∃ g, (Value.slice A4 (k + 1) c4).ownBlock = some g ∧ W0.heap.size ≤ g := by
                rcases hat with h | h
                · obtain ⟨g', e, hg⟩ := AT9.out; exact ⟨g', h.trans e, hg⟩
                · exact ⟨_, h, BC.out.size⟩
              have BC := Lib.hid bn
              have S48 := Lib.hid hs
              have AT4 := Lib.hid at4
              clear hs ho hat bn at4
              try go_simp
              refine hK.out _ _ (fun _ _ => (SAB _).out BC.out) ?_
              clear hK K
              refine wpAnyZ_one (i := 17) (by kernel_rfl) rfl (fun K hK => ?_)
              refine step_append_slc _ rfl (.tmp 48) (.tmp 51) _ rfl 30 i0 _ 3 24 Try.underlying22 hi0 hz0 hz1 hz2 rfl (by omega) (.slice A4 (k + 1) c4) (k + 1) (flatW (out.take k) ++ [.int .i64 x1, .int .u64 x2, .int .i64 x3]) rfl S48.out (some ⟨g2, off2 + k * 3, none⟩) (i - k) (co - k) (flatW (out.drop k)) rfl (by have := srcPart (i := k) (m := i - k) (HOX.out.below BC.out (fun g hg => HOX.out.lt hg)) (by have := KI.out; omega); rwa [LD.out] at this) (HF.out _) (by omega) (by simp only [maxLen]; omega) ?_
              intro v5 W5 hs ho hat
              obtain ⟨A5, c5, e5, -⟩ := hs.shape
              subst e5
              have bn : Below W0.heap.size W0 W5 := Below.onlyF BC.out ho (fun g h => by obtain ⟨g', e, hg⟩ := AT4.out; rw [e] at h; injection h with h; omega)
              have ow : ∀ g, (Value.slice A5 (k + 1 + (i - k)) c5).ownBlock = some g → w.heap.size ≤ g := fun g e => by
                have := BW0.out.size
                rcases hat with h | h
                · obtain ⟨g', e', hg⟩ := AT4.out; rw [h, e'] at e; injection e with e; omega
                · rw [h] at e; injection e with e; have := BC.out.size; omega
              have EM : k + 1 + (i - k) = i + 1 := by have := OL.out; have := KI.out; omega
              have hs2 : Slc W5 30 3 (.slice A5 (i + 1) c5) (i + 1) (flatW (allR (l.take (i + 1)))) := by
                rw [ST.out, ← NX.out, flatW_app, flatW_app, ← EM]
                exact hs
              rw [EM] at ow ⊢
              have BC := Lib.hid bn
              have S5 := Lib.hid hs2
              have OW := Lib.hid ow
              clear hs ho hat bn ow hs2
              try go_simp
              refine hK.out _ _ (fun _ _ => (SAB _).out BC.out) ?_
              clear hK K
              refine wpAnyZ_move (i := 18) (v := ?_) rfl (by kernel_rfl) (by kernel_rfl) (by kernel_rfl) (fun _ _ _ h => h) (Or.inl ⟨by rfl, ?_⟩) ?_
              (rotate_left 1; (focus (intro W; go_simp; try with_reducible rfl)))
              try simp only [Act.put, List.setIfInBounds_toArray, List.set_cons_zero, List.set_cons_succ, List.getElem_toArray, List.getElem_cons_succ, List.getElem_cons_zero]
              refine wpAnyZ_done (by kernel_rfl) ?_ _
              go_wp2_with fail
              go_roundw
              case rel => exact ⟨i + 1, by go_num, by omega, S5.out, OW.out, Below.next BW0.out BC.out⟩
              case measure => simp [intOf]; omega
          · go_simp
            refine hK.out _ _ (fun _ _ => (SAB _).out (BC.out.alloc BC.out.size _)) ?_
            clear hK K
            refine forgetZ (F := fun W => Below W0.heap.size W0 W ∧ Blk W W0.heap.size 30 [.int .i64 x1, .int .u64 x2, .int .i64 x3]) ⟨BC.out.alloc BC.out.size _, Blk.new W0 30 [.int .i64 x1, .int .u64 x2, .int .i64 x3]⟩ ?_
            clear BC
            rintro W1 ⟨bn, x7⟩
            have BC := Lib.hid bn
            have X47 := Lib.hid x7
            clear bn x7
            refine wpAnyZ_one (i := 0) (by kernel_rfl) rfl (fun K hK => ?_)
            go_simp
            refine hK.out _ _ (fun _ _ => (SAB _).out (BC.out.alloc BC.out.size _)) ?_
            clear hK K
            have NN35 := Lib.hid BC.out.size
            have NE := Lib.hid (show ¬ (Value.slice (some ⟨W1.heap.size, 0, none⟩) 0 0).ownBlock = some W0.heap.size from fun e => by have := X47.out.lt; simp [Value.ownBlock] at e; omega)
            refine forgetZ (F := fun W => Below W0.heap.size W0 W ∧ Slc W 30 3 (.slice (some ⟨W1.heap.size, 0, none⟩) 0 0) 0 [] ∧ Blk W W0.heap.size 30 [.int .i64 x1, .int .u64 x2, .int .i64 x3]) ⟨BC.out.alloc BC.out.size _, Slc.new W1 30 3, X47.out.alloc _⟩ ?_
            clear BC X47
            rintro W2 ⟨bn, s5, x7⟩
            have BC := Lib.hid bn
            have S35 := Lib.hid s5
            have X47 := Lib.hid x7
            clear bn s5 x7
            refine wpAnyZ_one (i := 4) (by kernel_rfl) rfl (fun K hK => ?_)
            refine step_append_slc _ rfl (.tmp 35) (.tmp 38) _ rfl 30 i0 _ 3 24 Try.underlying22 hi0 hz0 hz1 hz2 rfl (by omega) (.slice (some ⟨W1.heap.size, 0, none⟩) 0 0) 0 [] rfl S35.out (some ⟨g2, off2, none⟩) k co (flatW (out.take k)) rfl (srcPart0 (HOX.out.below BC.out (fun g hg => HOX.out.lt hg)) (by omega)) (HF.out _) (by omega) (by simp only [maxLen]; omega) ?_
            intro v2 W3 hs ho hat
            obtain ⟨A3, c3, e3, -⟩ := hs.shape
            subst e3
            have bn : Below W0.heap.size W0 W3 := Below.onlyF BC.out ho (fun g h => by simp [Value.ownBlock] at h; have := NN35.out; omega)
            have s9 : Slc W3 30 3 (.slice A3 k c3) k (flatW (out.take k)) := by simpa using hs
            have at9 : ∃ g, (Value.slice A3 k c3).ownBlock = some g ∧ W0.heap.size ≤ g := by
              simp only [Nat.zero_add] at hat
              rcases hat with h | h
              · exact ⟨_, h.trans rfl, NN35.out⟩
              · exact ⟨_, h, BC.out.size⟩
            simp only [Nat.zero_add]
            have x7 := X47.out.only ho NE.out
            have X47 := Lib.hid x7
            clear x7
            have BC := Lib.hid bn
            have S39 := Lib.hid s9
            have AT9 := Lib.hid at9
            clear hs ho hat bn s9 at9
            try go_simp
            refine hK.out _ _ (fun _ _ => (SAB _).out BC.out) ?_
            clear hK K
            refine wpAnyZ_one (i := 13) (by kernel_rfl) rfl (fun K hK => ?_)
            refine step_append_slc _ rfl (.tmp 39) (.tmp 47) _ rfl 30 i0 _ 3 24 Try.underlying22 hi0 hz0 hz1 hz2 rfl (by omega) (.slice A3 k c3) k (flatW (out.take k)) rfl S39.out (some ⟨W0.heap.size, 0, none⟩) 1 1 [.int .i64 x1, .int .u64 x2, .int .i64 x3] rfl (srcW X47.out rfl) (by simp [Value.oneCell']) (by omega) (by simp only [maxLen]; omega) ?_
            intro v4 W4 hs ho hat
            obtain ⟨A4, c4, e4, -⟩ := hs.shape
            subst e4
            have bn : Below W0.heap.size W0 W4 := Below.onlyF BC.out ho (fun g h => by obtain ⟨g', e, hg⟩ := AT9.out; rw [e] at h; injection h with h; omega)
            have at4 : ∃ g, (Value.slice A4 (k + 1) c4).ownBlock = some g ∧ W0.heap.size ≤ g := by
              rcases hat with h | h
              · obtain ⟨g', e, hg⟩ := AT9.out; exact ⟨g', h.trans e, hg⟩
              · exact ⟨_, h, BC.out.size⟩
            have BC := Lib.hid bn
            have S48 := Lib.hid hs
            have AT4 := Lib.hid at4
            clear hs ho hat bn at4
            try go_simp
            refine hK.out _ _ (fun _ _ => (SAB _).out BC.out) ?_
            clear hK K
            refine wpAnyZ_one (i := 17) (by kernel_rfl) rfl (fun K hK => ?_)
            refine step_append_slc _ rfl (.tmp 48) (.tmp 51) _ rfl 30 i0 _ 3 24 Try.underlying22 hi0 hz0 hz1 hz2 rfl (by omega) (.slice A4 (k + 1) c4) (k + 1) (flatW (out.take k) ++ [.int .i64 x1, .int .u64 x2, .int .i64 x3]) rfl S48.out (some ⟨g2, off2 + k * 3, none⟩) (i - k) (co - k) (flatW (out.drop k)) rfl (by have := srcPart (i := k) (m := i - k) (HOX.out.below BC.out (fun g hg => HOX.out.lt hg)) (by have := KI.out; omega); rwa [LD.out] at this) (HF.out _) (by omega) (by simp only [maxLen]; omega) ?_
            intro v5 W5 hs ho hat
            obtain ⟨A5, c5, e5, -⟩ := hs.shape
            subst e5
            have bn : Below W0.heap.size W0 W5 := Below.onlyF BC.out ho (fun g h => by obtain ⟨g', e, hg⟩ := AT4.out; rw [e] at h; injection h with h; omega)
            have ow : ∀ g, (Value.slice A5 (k + 1 + (i - k)) c5).ownBlock = some g → w.heap.size ≤ g := fun g e => by
              have := BW0.out.size
              rcases hat with h | h
              · obtain ⟨g', e', hg⟩ := AT4.out; rw [h, e'] at e; injection e with e; omega
              · rw [h] at e; injection e with e; have := BC.out.size; omega
            have EM : k + 1 + (i - k) = i + 1 := by have := OL.out; have := KI.out; omega
            have hs2 : Slc W5 30 3 (.slice A5 (i + 1) c5) (i + 1) (flatW (allR (l.take (i + 1)))) := by
              rw [ST.out, ← NX.out, flatW_app, flatW_app, ← EM]
              exact hs
            rw [EM] at ow ⊢
            have BC := Lib.hid bn
            have S5 := Lib.hid hs2
            have OW := Lib.hid ow
            clear hs ho hat bn ow hs2
            try go_simp
            refine hK.out _ _ (fun _ _ => (SAB _).out BC.out) ?_
            clear hK K
            refine wpAnyZ_move (i := 18) (v := ?_) rfl (by kernel_rfl) (by kernel_rfl) (by kernel_rfl) (fun _ _ _ h => h) (Or.inl ⟨by rfl, ?_⟩) ?_
            (rotate_left 1; (focus (intro W; go_simp; try with_reducible rfl)))
            try simp only [Act.put, List.setIfInBounds_toArray, List.set_cons_zero, List.set_cons_succ, List.getElem_toArray, List.getElem_cons_succ, List.getElem_cons_zero]
            refine wpAnyZ_done (by kernel_rfl) ?_ _
            go_wp2_with fail
            go_roundw
            case rel => exact ⟨i + 1, by go_num, by omega, S5.out, OW.out, Below.next BW0.out BC.out⟩
            case measure => simp [intOf]; omega
      · have hk1 : ¬ (k : Int) < (i : Int) := by omega
        have hke : k = i := by omega
        have NX := Lib.hid (insW_at (t := ⟨x1, x2, x3⟩) (by have := OL.out; omega) HLE.out (fun y hy => by have := (List.getElem?_eq_some_iff.1 hy).1; have := OL.out; omega))
        have KE := Lib.hid hke
        have KI := Lib.hid hki
        clear hke hki
        go_wp2_with fail
        go_quiet (fail)
        go_wp2_with fail
        have BL := Lib.hid (Below.drewN' B0.out nq)
        rcases HO.out.2 with ⟨e, -⟩ | ⟨g2, off2, c2', -, e, -, -, -, -⟩
        · injection e with e1 e2 e3
          subst e1 e2 e3
          obtain rfl : k = 0 := by have := KI.out; omega
          clear KE hki2
          have SAW := Lib.hid (show SA R.q (.slice (some ⟨g, off, none⟩) n c) g off ⟨x1, x2, x3⟩ w by have := SAW.out; simpa using this)
          simp only [Int.natCast_zero]
          have HOX := HO.out.below BL.out (fun g hg => HO.out.lt hg)
          have hsa := SAW.out.below (Below.next HB.out BL.out)
          have bw0 := Below.next HB.out BL.out
          have HSD0 := hsa.below (Below.refl _ _).drew
          have bw1 := bw0.drew
          have hox1 := HOX.drew
          refine wp_region_zone (SA R.q (.slice (some ⟨g, off, none⟩) n c) g off ⟨x1, x2, x3⟩) (fun j => true) (by kernel_rfl) ?_
          refine forgetZ (F := fun W => (SA R.q (.slice (some ⟨g, off, none⟩) n c) g off ⟨x1, x2, x3⟩) W ∧ Below w.heap.size w W ∧ Slc W 30 3 (.slice none 0 0) 0 (flatW out)) ⟨HSD0, bw1, hox1⟩ ?_
          clear HOX hsa bw0 HSD0 bw1 hox1
          rintro W0 ⟨hsd, bw0, hox⟩
          have HSD := Lib.hid hsd
          have BW0 := Lib.hid bw0
          have HOX := Lib.hid hox
          have SAB : ∀ W, Hid (Below W0.heap.size W0 W → (SA R.q (.slice (some ⟨g, off, none⟩) n c) g off ⟨x1, x2, x3⟩) W) := fun W o => hsd.below o
          have BC := Lib.hid (Below.refl W0.heap.size W0)
          clear hsd bw0 hox
          refine wpAnyZ_move (i := 1) (v := ?_) rfl (by kernel_rfl) (by kernel_rfl) (by kernel_rfl) (fun _ _ _ h => h) (Or.inl ⟨by rfl, ?_⟩) ?_
          (rotate_left 1; (focus (intro W; go_simp; try with_reducible rfl)))
          try simp only [Act.put, List.setIfInBounds_toArray, List.set_cons_zero, List.set_cons_succ, List.getElem_toArray, List.getElem_cons_succ, List.getElem_cons_zero]
          refine wpAnyZ_move (i := 2) (v := ?_) rfl (by kernel_rfl) (by kernel_rfl) (by kernel_rfl) (fun _ _ _ h => h) (Or.inl ⟨by rfl, ?_⟩) ?_
          (rotate_left 1; (focus (intro W; go_simp; try with_reducible rfl)))
          try simp only [Act.put, List.setIfInBounds_toArray, List.set_cons_zero, List.set_cons_succ, List.getElem_toArray, List.getElem_cons_succ, List.getElem_cons_zero]
          refine wpAnyZ_move (i := 3) (v := ?_) rfl (by kernel_rfl) (by kernel_rfl) (by kernel_rfl) (fun _ _ _ h => h) (Or.inl ⟨by rfl, ?_⟩) ?_
          (rotate_left 1; (focus (intro W; go_simp; try with_reducible rfl)))
          try simp only [Act.put, List.setIfInBounds_toArray, List.set_cons_zero, List.set_cons_succ, List.getElem_toArray, List.getElem_cons_succ, List.getElem_cons_zero]
          refine wpAnyZ_move (i := 5) (v := ?_) rfl (by kernel_rfl) (by kernel_rfl) (by kernel_rfl) (fun _ _ _ h => h) (Or.inl ⟨by rfl, ?_⟩) ?_
          (rotate_left 1; (focus (intro W; go_simp; try with_reducible rfl)))
          try simp only [Act.put, List.setIfInBounds_toArray, List.set_cons_zero, List.set_cons_succ, List.getElem_toArray, List.getElem_cons_succ, List.getElem_cons_zero]
          refine wpAnyZ_move (i := 6) (v := ?_) rfl (by kernel_rfl) (by kernel_rfl) (by kernel_rfl) (fun _ _ _ h => h) (Or.inl ⟨by rfl, ?_⟩) ?_
          (rotate_left 1; (focus (intro W; go_simp; try with_reducible rfl)))
          try simp only [Act.put, List.setIfInBounds_toArray, List.set_cons_zero, List.set_cons_succ, List.getElem_toArray, List.getElem_cons_succ, List.getElem_cons_zero]
          refine wpAnyZ_move (i := 7) (v := ?_) rfl (by kernel_rfl) (by kernel_rfl) (by kernel_rfl) (fun _ _ _ h => h) (Or.inl ⟨by rfl, ?_⟩) ?_
          (rotate_left 1; (focus (intro W; go_simp; try with_reducible rfl)))
          try simp only [Act.put, List.setIfInBounds_toArray, List.set_cons_zero, List.set_cons_succ, List.getElem_toArray, List.getElem_cons_succ, List.getElem_cons_zero]
          refine wpAnyZ_take (i := 8) (v := ?_) rfl (by kernel_rfl) (by kernel_rfl) (by kernel_rfl) (by kernel_rfl) (fun _ _ _ h => h) (Or.inl ⟨by rfl, ?_⟩) HSD.out ?_
          (rotate_left 1; (focus (intro W hS; obtain ⟨⟨p0, p1⟩, p2, p3, p4, p5⟩ := hS; go_simp; try with_reducible rfl)))
          try simp only [Act.put, List.setIfInBounds_toArray, List.set_cons_zero, List.set_cons_succ, List.getElem_toArray, List.getElem_cons_succ, List.getElem_cons_zero]
          refine wpAnyZ_move (i := 9) (v := ?_) rfl (by kernel_rfl) (by kernel_rfl) (by kernel_rfl) (fun _ _ _ h => h) (Or.inl ⟨by rfl, ?_⟩) ?_
          (rotate_left 1; (focus (intro W; go_simp; try with_reducible rfl)))
          try simp only [Act.put, List.setIfInBounds_toArray, List.set_cons_zero, List.set_cons_succ, List.getElem_toArray, List.getElem_cons_succ, List.getElem_cons_zero]
          refine wpAnyZ_move (i := 10) (v := ?_) rfl (by kernel_rfl) (by kernel_rfl) (by kernel_rfl) (fun _ _ _ h => h) (Or.inl ⟨by rfl, ?_⟩) ?_
          (rotate_left 1; (focus (intro W; go_simp; try with_reducible rfl)))
          try simp only [Act.put, List.setIfInBounds_toArray, List.set_cons_zero, List.set_cons_succ, List.getElem_toArray, List.getElem_cons_succ, List.getElem_cons_zero]
          refine wpAnyZ_take (i := 11) (v := ?_) rfl (by kernel_rfl) (by kernel_rfl) (by kernel_rfl) (by kernel_rfl) (fun _ _ _ h => h) (Or.inl ⟨by rfl, ?_⟩) HSD.out ?_
          (rotate_left 1; (focus (intro W hS; obtain ⟨⟨p0, p1⟩, p2, p3, p4, p5⟩ := hS; go_simp; try with_reducible rfl)))
          try simp only [Act.put, List.setIfInBounds_toArray, List.set_cons_zero, List.set_cons_succ, List.getElem_toArray, List.getElem_cons_succ, List.getElem_cons_zero]
          refine wpAnyZ_move (i := 14) (v := ?_) rfl (by kernel_rfl) (by kernel_rfl) (by kernel_rfl) (fun _ _ _ h => h) (Or.inl ⟨by rfl, ?_⟩) ?_
          (rotate_left 1; (focus (intro W; go_simp; try with_reducible rfl)))
          try simp only [Act.put, List.setIfInBounds_toArray, List.set_cons_zero, List.set_cons_succ, List.getElem_toArray, List.getElem_cons_succ, List.getElem_cons_zero]
          refine wpAnyZ_move (i := 15) (v := ?_) rfl (by kernel_rfl) (by kernel_rfl) (by kernel_rfl) (fun _ _ _ h => h) (Or.inl ⟨by rfl, ?_⟩) ?_
          (rotate_left 1; (focus (intro W; go_simp; try with_reducible rfl)))
          try simp only [Act.put, List.setIfInBounds_toArray, List.set_cons_zero, List.set_cons_succ, List.getElem_toArray, List.getElem_cons_succ, List.getElem_cons_zero]
          refine wpAnyZ_move (i := 16) (v := ?_) rfl (by kernel_rfl) (by kernel_rfl) (by kernel_rfl) (fun _ _ _ h => h) (Or.inl ⟨by rfl, ?_⟩) ?_
          (rotate_left 1; (focus (intro W; go_simp; try with_reducible rfl)))
          try simp only [Act.put, List.setIfInBounds_toArray, List.set_cons_zero, List.set_cons_succ, List.getElem_toArray, List.getElem_cons_succ, List.getElem_cons_zero]
          refine wpAnyZ_two (i := 0) (j := 12) (by kernel_rfl) rfl rfl (fun K hK => ?_) (fun K hK => ?_)
          · go_simp
            refine hK.out _ _ (fun _ _ => (SAB _).out (BC.out.alloc BC.out.size _)) ?_
            clear hK K
            have NN35 := Lib.hid BC.out.size
            refine forgetZ (F := fun W => Below W0.heap.size W0 W ∧ Slc W 30 3 (.slice (some ⟨W0.heap.size, 0, none⟩) 0 0) 0 []) ⟨BC.out.alloc BC.out.size _, Slc.new W0 30 3⟩ ?_
            clear BC
            rintro W1 ⟨bn, s5⟩
            have BC := Lib.hid bn
            have S35 := Lib.hid s5
            clear bn s5
            refine wpAnyZ_two (i := 4) (j := 12) (by kernel_rfl) rfl rfl (fun K hK => ?_) (fun K hK => ?_)
            · refine step_append_slc _ rfl (.tmp 35) (.tmp 38) _ rfl 30 i0 _ 3 24 Try.underlying22 hi0 hz0 hz1 hz2 rfl (by omega) (.slice (some ⟨W0.heap.size, 0, none⟩) 0 0) 0 [] rfl S35.out none 0 0 (flatW (out.take 0)) rfl ⟨by rw [flatW_len, List.length_take]; omega, .inl rfl⟩ (HF.out _) (by omega) (by simp only [maxLen]; omega) ?_
              intro v2 W2 hs ho hat
              obtain ⟨A3, c3, e3, -⟩ := hs.shape
              subst e3
              have bn : Below W0.heap.size W0 W2 := Below.onlyF BC.out ho (fun g h => by simp [Value.ownBlock] at h; have := NN35.out; omega)
              have s9 : Slc W2 30 3 (.slice A3 0 c3) 0 (flatW (out.take 0)) := by simpa using hs
              have at9 : ∃ g, (Value.slice A3 0 c3).ownBlock = some g ∧ W0.heap.size ≤ g := by
                simp only [Nat.zero_add] at hat
                rcases hat with h | h
                · exact ⟨_, h.trans rfl, NN35.out⟩
                · exact ⟨_, h, BC.out.size⟩
              simp only [Nat.zero_add]
              have BC := Lib.hid bn
              have S39 := Lib.hid s9
              have AT9 := Lib.hid at9
              clear hs ho hat bn s9 at9
              try go_simp
              refine hK.out _ _ (fun _ _ => (SAB _).out BC.out) ?_
              clear hK K
              refine wpAnyZ_one (i := 12) (by kernel_rfl) rfl (fun K hK => ?_)
              go_simp
              refine hK.out _ _ (fun _ _ => (SAB _).out (BC.out.alloc BC.out.size _)) ?_
              clear hK K
              refine forgetZ (F := fun W => Below W0.heap.size W0 W ∧ Slc W 30 3 (.slice A3 0 c3) 0 (flatW (out.take 0)) ∧ Blk W W2.heap.size 30 [.int .i64 x1, .int .u64 x2, .int .i64 x3]) ⟨BC.out.alloc BC.out.size _, S39.out.alloc _, Blk.new W2 30 [.int .i64 x1, .int .u64 x2, .int .i64 x3]⟩ ?_
              clear BC S39
              rintro W3 ⟨bn, s9, x7⟩
              have BC := Lib.hid bn
              have S39 := Lib.hid s9
              have X47 := Lib.hid x7
              clear bn s9 x7
              refine wpAnyZ_one (i := 13) (by kernel_rfl) rfl (fun K hK => ?_)
              refine step_append_slc _ rfl (.tmp 39) (.tmp 47) _ rfl 30 i0 _ 3 24 Try.underlying22 hi0 hz0 hz1 hz2 rfl (by omega) (.slice A3 0 c3) 0 (flatW (out.take 0)) rfl S39.out (some ⟨W2.heap.size, 0, none⟩) 1 1 [.int .i64 x1, .int .u64 x2, .int .i64 x3] rfl (srcW X47.out rfl) (by simp [Value.oneCell']) (by omega) (by simp only [maxLen]; omega) ?_
              intro v4 W4 hs ho hat
              obtain ⟨A4, c4, e4, -⟩ := hs.shape
              subst e4
              have bn : Below W0.heap.size W0 W4 := Below.onlyF BC.out ho (fun g h => by obtain ⟨g', e, hg⟩ := AT9.out; rw [e] at h; injection h with h; omega)
              have at4 : ∃ g, (Value.slice A4 (0 + 1) c4).ownBlock = some g ∧ W0.heap.size ≤ g := by
                rcases hat with h | h
                · obtain ⟨g', e, hg⟩ := AT9.out; exact ⟨g', h.trans e, hg⟩
                · exact ⟨_, h, BC.out.size⟩
              have BC := Lib.hid bn
              have S48 := Lib.hid hs
              have AT4 := Lib.hid at4
              clear hs ho hat bn at4
              try go_simp
              refine hK.out _ _ (fun _ _ => (SAB _).out BC.out) ?_
              clear hK K
              refine wpAnyZ_one (i := 17) (by kernel_rfl) rfl (fun K hK => ?_)
              refine step_append_slc _ rfl (.tmp 48) (.tmp 51) _ rfl 30 i0 _ 3 24 Try.underlying22 hi0 hz0 hz1 hz2 rfl (by omega) (.slice A4 (0 + 1) c4) (0 + 1) (flatW (out.take 0) ++ [.int .i64 x1, .int .u64 x2, .int .i64 x3]) rfl S48.out none 0 0 (flatW (out.drop 0)) rfl ⟨by rw [flatW_len, List.length_drop]; have := OL.out; omega, .inl rfl⟩ (HF.out _) (by omega) (by simp only [maxLen]; omega) ?_
              intro v5 W5 hs ho hat
              obtain ⟨A5, c5, e5, -⟩ := hs.shape
              subst e5
              have bn : Below W0.heap.size W0 W5 := Below.onlyF BC.out ho (fun g h => by obtain ⟨g', e, hg⟩ := AT4.out; rw [e] at h; injection h with h; omega)
              have ow : ∀ g, (Value.slice A5 (0 + 1 + 0) c5).ownBlock = some g → w.heap.size ≤ g := fun g e => by
                have := BW0.out.size
                rcases hat with h | h
                · obtain ⟨g', e', hg⟩ := AT4.out; rw [h, e'] at e; injection e with e; omega
                · rw [h] at e; injection e with e; have := BC.out.size; omega
              have EM : 0 + 1 + 0 = 0 + 1 := by have := OL.out; have := KI.out; omega
              have hs2 : Slc W5 30 3 (.slice A5 (0 + 1) c5) (0 + 1) (flatW (allR (l.take (0 + 1)))) := by
                rw [ST.out, ← NX.out, flatW_app, flatW_app, ← EM]
                exact hs
              rw [EM] at ow ⊢
              have BC := Lib.hid bn
              have S5 := Lib.hid hs2
              have OW := Lib.hid ow
              clear hs ho hat bn ow hs2
              try go_simp
              refine hK.out _ _ (fun _ _ => (SAB _).out BC.out) ?_
              clear hK K
              refine wpAnyZ_move (i := 18) (v := ?_) rfl (by kernel_rfl) (by kernel_rfl) (by kernel_rfl) (fun _ _ _ h => h) (Or.inl ⟨by rfl, ?_⟩) ?_
              (rotate_left 1; (focus (intro W; go_simp; try with_reducible rfl)))
              try simp only [Act.put, List.setIfInBounds_toArray, List.set_cons_zero, List.set_cons_succ, List.getElem_toArray, List.getElem_cons_succ, List.getElem_cons_zero]
              refine wpAnyZ_done (by kernel_rfl) ?_ _
              go_wp2_with fail
              go_roundw
              case rel => exact ⟨0 + 1, by go_num, by omega, S5.out, OW.out, Below.next BW0.out BC.out⟩
              case measure => simp [intOf]; omega
            · go_simp
              refine hK.out _ _ (fun _ _ => (SAB _).out (BC.out.alloc BC.out.size _)) ?_
              clear hK K
              have NE := Lib.hid (show ¬ (Value.slice (some ⟨W0.heap.size, 0, none⟩) 0 0).ownBlock = some W1.heap.size from fun e => by have h35 : W0.heap.size < W1.heap.size := S35.out.lt rfl; simp [Value.ownBlock] at e; omega)
              refine forgetZ (F := fun W => Below W0.heap.size W0 W ∧ Slc W 30 3 (.slice (some ⟨W0.heap.size, 0, none⟩) 0 0) 0 [] ∧ Blk W W1.heap.size 30 [.int .i64 x1, .int .u64 x2, .int .i64 x3]) ⟨BC.out.alloc BC.out.size _, S35.out.alloc _, Blk.new W1 30 [.int .i64 x1, .int .u64 x2, .int .i64 x3]⟩ ?_
              clear BC S35
              rintro W2 ⟨bn, s5, x7⟩
              have BC := Lib.hid bn
              have S35 := Lib.hid s5
              have X47 := Lib.hid x7
              clear bn s5 x7
              refine wpAnyZ_one (i := 4) (by kernel_rfl) rfl (fun K hK => ?_)
              refine step_append_slc _ rfl (.tmp 35) (.tmp 38) _ rfl 30 i0 _ 3 24 Try.underlying22 hi0 hz0 hz1 hz2 rfl (by omega) (.slice (some ⟨W0.heap.size, 0, none⟩) 0 0) 0 [] rfl S35.out none 0 0 (flatW (out.take 0)) rfl ⟨by rw [flatW_len, List.length_take]; omega, .inl rfl⟩ (HF.out _) (by omega) (by simp only [maxLen]; omega) ?_
              intro v2 W3 hs ho hat
              obtain ⟨A3, c3, e3, -⟩ := hs.shape
              subst e3
              have bn : Below W0.heap.size W0 W3 := Below.onlyF BC.out ho (fun g h => by simp [Value.ownBlock] at h; have := NN35.out; omega)
              have s9 : Slc W3 30 3 (.slice A3 0 c3) 0 (flatW (out.take 0)) := by simpa using hs
              have at9 : ∃ g, (Value.slice A3 0 c3).ownBlock = some g ∧ W0.heap.size ≤ g := by
                simp only [Nat.zero_add] at hat
                rcases hat with h | h
                · exact ⟨_, h.trans rfl, NN35.out⟩
                · exact ⟨_, h, BC.out.size⟩
              simp only [Nat.zero_add]
              have x7 := X47.out.only ho NE.out
              have X47 := Lib.hid x7
              clear x7
              have BC := Lib.hid bn
              have S39 := Lib.hid s9
              have AT9 := Lib.hid at9
              clear hs ho hat bn s9 at9
              try go_simp
              refine hK.out _ _ (fun _ _ => (SAB _).out BC.out) ?_
              clear hK K
              refine wpAnyZ_one (i := 13) (by kernel_rfl) rfl (fun K hK => ?_)
              refine step_append_slc _ rfl (.tmp 39) (.tmp 47) _ rfl 30 i0 _ 3 24 Try.underlying22 hi0 hz0 hz1 hz2 rfl (by omega) (.slice A3 0 c3) 0 (flatW (out.take 0)) rfl S39.out (some ⟨W1.heap.size, 0, none⟩) 1 1 [.int .i64 x1, .int .u64 x2, .int .i64 x3] rfl (srcW X47.out rfl) (by simp [Value.oneCell']) (by omega) (by simp only [maxLen]; omega) ?_
              intro v4 W4 hs ho hat
              obtain ⟨A4, c4, e4, -⟩ := hs.shape
              subst e4
              have bn : Below W0.heap.size W0 W4 := Below.onlyF BC.out ho (fun g h => by obtain ⟨g', e, hg⟩ := AT9.out; rw [e] at h; injection h with h; omega)
              have at4 : ∃ g, (Value.slice A4 (0 + 1) c4).ownBlock = some g ∧ W0.heap.size ≤ g := by
                rcases hat with h | h
                · obtain ⟨g', e, hg⟩ := AT9.out; exact ⟨g', h.trans e, hg⟩
                · exact ⟨_, h, BC.out.size⟩
              have BC := Lib.hid bn
              have S48 := Lib.hid hs
              have AT4 := Lib.hid at4
              clear hs ho hat bn at4
              try go_simp
              refine hK.out _ _ (fun _ _ => (SAB _).out BC.out) ?_
              clear hK K
              refine wpAnyZ_one (i := 17) (by kernel_rfl) rfl (fun K hK => ?_)
              refine step_append_slc _ rfl (.tmp 48) (.tmp 51) _ rfl 30 i0 _ 3 24 Try.underlying22 hi0 hz0 hz1 hz2 rfl (by omega) (.slice A4 (0 + 1) c4) (0 + 1) (flatW (out.take 0) ++ [.int .i64 x1, .int .u64 x2, .int .i64 x3]) rfl S48.out none 0 0 (flatW (out.drop 0)) rfl ⟨by rw [flatW_len, List.length_drop]; have := OL.out; omega, .inl rfl⟩ (HF.out _) (by omega) (by simp only [maxLen]; omega) ?_
              intro v5 W5 hs ho hat
              obtain ⟨A5, c5, e5, -⟩ := hs.shape
              subst e5
              have bn : Below W0.heap.size W0 W5 := Below.onlyF BC.out ho (fun g h => by obtain ⟨g', e, hg⟩ := AT4.out; rw [e] at h; injection h with h; omega)
              have ow : ∀ g, (Value.slice A5 (0 + 1 + 0) c5).ownBlock = some g → w.heap.size ≤ g := fun g e => by
                have := BW0.out.size
                rcases hat with h | h
                · obtain ⟨g', e', hg⟩ := AT4.out; rw [h, e'] at e; injection e with e; omega
                · rw [h] at e; injection e with e; have := BC.out.size; omega
              have EM : 0 + 1 + 0 = 0 + 1 := by have := OL.out; have := KI.out; omega
              have hs2 : Slc W5 30 3 (.slice A5 (0 + 1) c5) (0 + 1) (flatW (allR (l.take (0 + 1)))) := by
                rw [ST.out, ← NX.out, flatW_app, flatW_app, ← EM]
                exact hs
              rw [EM] at ow ⊢
              have BC := Lib.hid bn
              have S5 := Lib.hid hs2
              have OW := Lib.hid ow
              clear hs ho hat bn ow hs2
              try go_simp
              refine hK.out _ _ (fun _ _ => (SAB _).out BC.out) ?_
              clear hK K
              refine wpAnyZ_move (i := 18) (v := ?_) rfl (by kernel_rfl) (by kernel_rfl) (by kernel_rfl) (fun _ _ _ h => h) (Or.inl ⟨by rfl, ?_⟩) ?_
              (rotate_left 1; (focus (intro W; go_simp; try with_reducible rfl)))
              try simp only [Act.put, List.setIfInBounds_toArray, List.set_cons_zero, List.set_cons_succ, List.getElem_toArray, List.getElem_cons_succ, List.getElem_cons_zero]
              refine wpAnyZ_done (by kernel_rfl) ?_ _
              go_wp2_with fail
              go_roundw
              case rel => exact ⟨0 + 1, by go_num, by omega, S5.out, OW.out, Below.next BW0.out BC.out⟩
              case measure => simp [intOf]; omega
          · go_simp
            refine hK.out _ _ (fun _ _ => (SAB _).out (BC.out.alloc BC.out.size _)) ?_
            clear hK K
            refine forgetZ (F := fun W => Below W0.heap.size W0 W ∧ Blk W W0.heap.size 30 [.int .i64 x1, .int .u64 x2, .int .i64 x3]) ⟨BC.out.alloc BC.out.size _, Blk.new W0 30 [.int .i64 x1, .int .u64 x2, .int .i64 x3]⟩ ?_
            clear BC
            rintro W1 ⟨bn, x7⟩
            have BC := Lib.hid bn
            have X47 := Lib.hid x7
            clear bn x7
            refine wpAnyZ_one (i := 0) (by kernel_rfl) rfl (fun K hK => ?_)
            go_simp
            refine hK.out _ _ (fun _ _ => (SAB _).out (BC.out.alloc BC.out.size _)) ?_
            clear hK K
            have NN35 := Lib.hid BC.out.size
            have NE := Lib.hid (show ¬ (Value.slice (some ⟨W1.heap.size, 0, none⟩) 0 0).ownBlock = some W0.heap.size from fun e => by have := X47.out.lt; simp [Value.ownBlock] at e; omega)
            refine forgetZ (F := fun W => Below W0.heap.size W0 W ∧ Slc W 30 3 (.slice (some ⟨W1.heap.size, 0, none⟩) 0 0) 0 [] ∧ Blk W W0.heap.size 30 [.int .i64 x1, .int .u64 x2, .int .i64 x3]) ⟨BC.out.alloc BC.out.size _, Slc.new W1 30 3, X47.out.alloc _⟩ ?_
            clear BC X47
            rintro W2 ⟨bn, s5, x7⟩
            have BC := Lib.hid bn
            have S35 := Lib.hid s5
            have X47 := Lib.hid x7
            clear bn s5 x7
            refine wpAnyZ_one (i := 4) (by kernel_rfl) rfl (fun K hK => ?_)
            refine step_append_slc _ rfl (.tmp 35) (.tmp 38) _ rfl 30 i0 _ 3 24 Try.underlying22 hi0 hz0 hz1 hz2 rfl (by omega) (.slice (some ⟨W1.heap.size, 0, none⟩) 0 0) 0 [] rfl S35.out none 0 0 (flatW (out.take 0)) rfl ⟨by rw [flatW_len, List.length_take]; omega, .inl rfl⟩ (HF.out _) (by omega) (by simp only [maxLen]; omega) ?_
            intro v2 W3 hs ho hat
            obtain ⟨A3, c3, e3, -⟩ := hs.shape
            subst e3
            have bn : Below W0.heap.size W0 W3 := Below.onlyF BC.out ho (fun g h => by simp [Value.ownBlock] at h; have := NN35.out; omega)
            have s9 : Slc W3 30 3 (.slice A3 0 c3) 0 (flatW (out.take 0)) := by simpa using hs
            have at9 : ∃ g, (Value.slice A3 0 c3).ownBlock = some g ∧ W0.heap.size ≤ g := by
              simp only [Nat.zero_add] at hat
              rcases hat with h | h
              · exact ⟨_, h.trans rfl, NN35.out⟩
              · exact ⟨_, h, BC.out.size⟩
            simp only [Nat.zero_add]
            have x7 := X47.out.only ho NE.out
            have X47 := Lib.hid x7
            clear x7
            have BC := Lib.hid bn
            have S39 := Lib.hid s9
            have AT9 := Lib.hid at9
            clear hs ho hat bn s9 at9
            try go_simp
            refine hK.out _ _ (fun _ _ => (SAB _).out BC.out) ?_
            clear hK K
            refine wpAnyZ_one (i := 13) (by kernel_rfl) rfl (fun K hK => ?_)
            refine step_append_slc _ rfl (.tmp 39) (.tmp 47) _ rfl 30 i0 _ 3 24 Try.underlying22 hi0 hz0 hz1 hz2 rfl (by omega) (.slice A3 0 c3) 0 (flatW (out.take 0)) rfl S39.out (some ⟨W0.heap.size, 0, none⟩) 1 1 [.int .i64 x1, .int .u64 x2, .int .i64 x3] rfl (srcW X47.out rfl) (by simp [Value.oneCell']) (by omega) (by simp only [maxLen]; omega) ?_
            intro v4 W4 hs ho hat
            obtain ⟨A4, c4, e4, -⟩ := hs.shape
            subst e4
            have bn : Below W0.heap.size W0 W4 := Below.onlyF BC.out ho (fun g h => by obtain ⟨g', e, hg⟩ := AT9.out; rw [e] at h; injection h with h; omega)
            have at4 : ∃ g, (Value.slice A4 (0 + 1) c4).ownBlock = some g ∧ W0.heap.size ≤ g := by
              rcases hat with h | h
              · obtain ⟨g', e, hg⟩ := AT9.out; exact ⟨g', h.trans e, hg⟩
              · exact ⟨_, h, BC.out.size⟩
            have BC := Lib.hid bn
            have S48 := Lib.hid hs
            have AT4 := Lib.hid at4
            clear hs ho hat bn at4
            try go_simp
            refine hK.out _ _ (fun _ _ => (SAB _).out BC.out) ?_
            clear hK K
            refine wpAnyZ_one (i := 17) (by kernel_rfl) rfl (fun K hK => ?_)
            refine step_append_slc _ rfl (.tmp 48) (.tmp 51) _ rfl 30 i0 _ 3 24 Try.underlying22 hi0 hz0 hz1 hz2 rfl (by omega) (.slice A4 (0 + 1) c4) (0 + 1) (flatW (out.take 0) ++ [.int .i64 x1, .int .u64 x2, .int .i64 x3]) rfl S48.out none 0 0 (flatW (out.drop 0)) rfl ⟨by rw [flatW_len, List.length_drop]; have := OL.out; omega, .inl rfl⟩ (HF.out _) (by omega) (by simp only [maxLen]; omega) ?_
            intro v5 W5 hs ho hat
            obtain ⟨A5, c5, e5, -⟩ := hs.shape
            subst e5
            have bn : Below W0.heap.size W0 W5 := Below.onlyF BC.out ho (fun g h => by obtain ⟨g', e, hg⟩ := AT4.out; rw [e] at h; injection h with h; omega)
            have ow : ∀ g, (Value.slice A5 (0 + 1 + 0) c5).ownBlock = some g → w.heap.size ≤ g := fun g e => by
              have := BW0.out.size
              rcases hat with h | h
              · obtain ⟨g', e', hg⟩ := AT4.out; rw [h, e'] at e; injection e with e; omega
              · rw [h] at e; injection e with e; have := BC.out.size; omega
            have EM : 0 + 1 + 0 = 0 + 1 := by have := OL.out; have := KI.out; omega
            have hs2 : Slc W5 30 3 (.slice A5 (0 + 1) c5) (0 + 1) (flatW (allR (l.take (0 + 1)))) := by
              rw [ST.out, ← NX.out, flatW_app, flatW_app, ← EM]
              exact hs
            rw [EM] at ow ⊢
            have BC := Lib.hid bn
            have S5 := Lib.hid hs2
            have OW := Lib.hid ow
            clear hs ho hat bn ow hs2
            try go_simp
            refine hK.out _ _ (fun _ _ => (SAB _).out BC.out) ?_
            clear hK K
            refine wpAnyZ_move (i := 18) (v := ?_) rfl (by kernel_rfl) (by kernel_rfl) (by kernel_rfl) (fun _ _ _ h => h) (Or.inl ⟨by rfl, ?_⟩) ?_
            (rotate_left 1; (focus (intro W; go_simp; try with_reducible rfl)))
            try simp only [Act.put, List.setIfInBounds_toArray, List.set_cons_zero, List.set_cons_succ, List.getElem_toArray, List.getElem_cons_succ, List.getElem_cons_zero]
            refine wpAnyZ_done (by kernel_rfl) ?_ _
            go_wp2_with fail
            go_roundw
            case rel => exact ⟨0 + 1, by go_num, by omega, S5.out, OW.out, Below.next BW0.out BC.out⟩
            case measure => simp [intOf]; omega
        · simp only [Value.slice.injEq] at e
          obtain ⟨rfl, -, rfl⟩ := e
          have hki := KI.out
          by_cases hck : co = k
          · obtain rfl : co = i := by have := KE.out; omega
            obtain rfl : co = k := hck
            have hkk : (co : Int) ≤ (co : Int) := by omega
            clear KE hki
            have HOX := HO.out.below BL.out (fun g hg => HO.out.lt hg)
            have hsa := SAW.out.below (Below.next HB.out BL.out)
            have bw0 := Below.next HB.out BL.out
            have HSD0 := hsa.below (Below.refl _ _).drew
            have bw1 := bw0.drew
            have hox1 := HOX.drew
            refine wp_region_zone (SA R.q (.slice (some ⟨g, off, none⟩) n c) g (off + co * 3) ⟨x1, x2, x3⟩) (fun j => true) (by kernel_rfl) ?_
            refine forgetZ (F := fun W => (SA R.q (.slice (some ⟨g, off, none⟩) n c) g (off + co * 3) ⟨x1, x2, x3⟩) W ∧ Below w.heap.size w W ∧ Slc W 30 3 (.slice (some ⟨g2, off2, none⟩) co co) co (flatW out)) ⟨HSD0, bw1, hox1⟩ ?_
            clear HOX hsa bw0 HSD0 bw1 hox1
            rintro W0 ⟨hsd, bw0, hox⟩
            have HSD := Lib.hid hsd
            have BW0 := Lib.hid bw0
            have HOX := Lib.hid hox
            have SAB : ∀ W, Hid (Below W0.heap.size W0 W → (SA R.q (.slice (some ⟨g, off, none⟩) n c) g (off + co * 3) ⟨x1, x2, x3⟩) W) := fun W o => hsd.below o
            have BC := Lib.hid (Below.refl W0.heap.size W0)
            clear hsd bw0 hox
            refine wpAnyZ_move (i := 1) (v := ?_) rfl (by kernel_rfl) (by kernel_rfl) (by kernel_rfl) (fun _ _ _ h => h) (Or.inl ⟨by rfl, ?_⟩) ?_
            (rotate_left 1; (focus (intro W; go_simp; try with_reducible rfl)))
            try simp only [Act.put, List.setIfInBounds_toArray, List.set_cons_zero, List.set_cons_succ, List.getElem_toArray, List.getElem_cons_succ, List.getElem_cons_zero]
            refine wpAnyZ_move (i := 2) (v := ?_) rfl (by kernel_rfl) (by kernel_rfl) (by kernel_rfl) (fun _ _ _ h => h) (Or.inl ⟨by rfl, ?_⟩) ?_
            (rotate_left 1; (focus (intro W; go_simp; try with_reducible rfl)))
            try simp only [Act.put, List.setIfInBounds_toArray, List.set_cons_zero, List.set_cons_succ, List.getElem_toArray, List.getElem_cons_succ, List.getElem_cons_zero]
            refine wpAnyZ_move (i := 3) (v := ?_) rfl (by kernel_rfl) (by kernel_rfl) (by kernel_rfl) (fun _ _ _ h => h) (Or.inl ⟨by rfl, ?_⟩) ?_
            (rotate_left 1; (focus (intro W; go_simp; try with_reducible rfl)))
            try simp only [Act.put, List.setIfInBounds_toArray, List.set_cons_zero, List.set_cons_succ, List.getElem_toArray, List.getElem_cons_succ, List.getElem_cons_zero]
            refine wpAnyZ_move (i := 5) (v := ?_) rfl (by kernel_rfl) (by kernel_rfl) (by kernel_rfl) (fun _ _ _ h => h) (Or.inl ⟨by rfl, ?_⟩) ?_
            (rotate_left 1; (focus (intro W; go_simp; try with_reducible rfl)))
            try simp only [Act.put, List.setIfInBounds_toArray, List.set_cons_zero, List.set_cons_succ, List.getElem_toArray, List.getElem_cons_succ, List.getElem_cons_zero]
            refine wpAnyZ_move (i := 6) (v := ?_) rfl (by kernel_rfl) (by kernel_rfl) (by kernel_rfl) (fun _ _ _ h => h) (Or.inl ⟨by rfl, ?_⟩) ?_
            (rotate_left 1; (focus (intro W; go_simp; try with_reducible rfl)))
            try simp only [Act.put, List.setIfInBounds_toArray, List.set_cons_zero, List.set_cons_succ, List.getElem_toArray, List.getElem_cons_succ, List.getElem_cons_zero]
            refine wpAnyZ_move (i := 7) (v := ?_) rfl (by kernel_rfl) (by kernel_rfl) (by kernel_rfl) (fun _ _ _ h => h) (Or.inl ⟨by rfl, ?_⟩) ?_
            (rotate_left 1; (focus (intro W; go_simp; try with_reducible rfl)))
            try simp only [Act.put, List.setIfInBounds_toArray, List.set_cons_zero, List.set_cons_succ, List.getElem_toArray, List.getElem_cons_succ, List.getElem_cons_zero]
            refine wpAnyZ_take (i := 8) (v := ?_) rfl (by kernel_rfl) (by kernel_rfl) (by kernel_rfl) (by kernel_rfl) (fun _ _ _ h => h) (Or.inl ⟨by rfl, ?_⟩) HSD.out ?_
            (rotate_left 1; (focus (intro W hS; obtain ⟨⟨p0, p1⟩, p2, p3, p4, p5⟩ := hS; go_simp; try with_reducible rfl)))
            try simp only [Act.put, List.setIfInBounds_toArray, List.set_cons_zero, List.set_cons_succ, List.getElem_toArray, List.getElem_cons_succ, List.getElem_cons_zero]
            refine wpAnyZ_move (i := 9) (v := ?_) rfl (by kernel_rfl) (by kernel_rfl) (by kernel_rfl) (fun _ _ _ h => h) (Or.inl ⟨by rfl, ?_⟩) ?_
            (rotate_left 1; (focus (intro W; go_simp; try with_reducible rfl)))
            try simp only [Act.put, List.setIfInBounds_toArray, List.set_cons_zero, List.set_cons_succ, List.getElem_toArray, List.getElem_cons_succ, List.getElem_cons_zero]
            refine wpAnyZ_move (i := 10) (v := ?_) rfl (by kernel_rfl) (by kernel_rfl) (by kernel_rfl) (fun _ _ _ h => h) (Or.inl ⟨by rfl, ?_⟩) ?_
            (rotate_left 1; (focus (intro W; go_simp; try with_reducible rfl)))
            try simp only [Act.put, List.setIfInBounds_toArray, List.set_cons_zero, List.set_cons_succ, List.getElem_toArray, List.getElem_cons_succ, List.getElem_cons_zero]
            refine wpAnyZ_take (i := 11) (v := ?_) rfl (by kernel_rfl) (by kernel_rfl) (by kernel_rfl) (by kernel_rfl) (fun _ _ _ h => h) (Or.inl ⟨by rfl, ?_⟩) HSD.out ?_
            (rotate_left 1; (focus (intro W hS; obtain ⟨⟨p0, p1⟩, p2, p3, p4, p5⟩ := hS; go_simp; try with_reducible rfl)))
            try simp only [Act.put, List.setIfInBounds_toArray, List.set_cons_zero, List.set_cons_succ, List.getElem_toArray, List.getElem_cons_succ, List.getElem_cons_zero]
            refine wpAnyZ_move (i := 14) (v := ?_) rfl (by kernel_rfl) (by kernel_rfl) (by kernel_rfl) (fun _ _ _ h => h) (Or.inl ⟨by rfl, ?_⟩) ?_
            (rotate_left 1; (focus (intro W; go_simp; try with_reducible rfl)))
            try simp only [Act.put, List.setIfInBounds_toArray, List.set_cons_zero, List.set_cons_succ, List.getElem_toArray, List.getElem_cons_succ, List.getElem_cons_zero]
            refine wpAnyZ_move (i := 15) (v := ?_) rfl (by kernel_rfl) (by kernel_rfl) (by kernel_rfl) (fun _ _ _ h => h) (Or.inl ⟨by rfl, ?_⟩) ?_
            (rotate_left 1; (focus (intro W; go_simp; try with_reducible rfl)))
            try simp only [Act.put, List.setIfInBounds_toArray, List.set_cons_zero, List.set_cons_succ, List.getElem_toArray, List.getElem_cons_succ, List.getElem_cons_zero]
            refine wpAnyZ_move (i := 16) (v := ?_) rfl (by kernel_rfl) (by kernel_rfl) (by kernel_rfl) (fun _ _ _ h => h) (Or.inl ⟨by rfl, ?_⟩) ?_
            (rotate_left 1; (focus (intro W; go_simp; try with_reducible rfl)))
            try simp only [Act.put, List.setIfInBounds_toArray, List.set_cons_zero, List.set_cons_succ, List.getElem_toArray, List.getElem_cons_succ, List.getElem_cons_zero]
            refine wpAnyZ_two (i := 0) (j := 12) (by kernel_rfl) rfl rfl (fun K hK => ?_) (fun K hK => ?_)
            · go_simp
              refine hK.out _ _ (fun _ _ => (SAB _).out (BC.out.alloc BC.out.size _)) ?_
              clear hK K
              have NN35 := Lib.hid BC.out.size
              refine forgetZ (F := fun W => Below W0.heap.size W0 W ∧ Slc W 30 3 (.slice (some ⟨W0.heap.size, 0, none⟩) 0 0) 0 []) ⟨BC.out.alloc BC.out.size _, Slc.new W0 30 3⟩ ?_
              clear BC
              rintro W1 ⟨bn, s5⟩
              have BC := Lib.hid bn
              have S35 := Lib.hid s5
              clear bn s5
              refine wpAnyZ_two (i := 4) (j := 12) (by kernel_rfl) rfl rfl (fun K hK => ?_) (fun K hK => ?_)
              · refine step_append_slc _ rfl (.tmp 35) (.tmp 38) _ rfl 30 i0 _ 3 24 Try.underlying22 hi0 hz0 hz1 hz2 rfl (by omega) (.slice (some ⟨W0.heap.size, 0, none⟩) 0 0) 0 [] rfl S35.out (some ⟨g2, off2, none⟩) co co (flatW (out.take co)) rfl (srcPart0 (HOX.out.below BC.out (fun g hg => HOX.out.lt hg)) (by omega)) (HF.out _) (by omega) (by simp only [maxLen]; omega) ?_
                intro v2 W2 hs ho hat
                obtain ⟨A3, c3, e3, -⟩ := hs.shape
                subst e3
                have bn : Below W0.heap.size W0 W2 := Below.onlyF BC.out ho (fun g h => by simp [Value.ownBlock] at h; have := NN35.out; omega)
                have s9 : Slc W2 30 3 (.slice A3 co c3) co (flatW (out.take co)) := by simpa using hs
                have at9 : ∃ g, (Value.slice A3 co c3).ownBlock = some g ∧ W0.heap.size ≤ g := by
                  simp only [Nat.zero_add] at hat
                  rcases hat with h | h
                  · exact ⟨_, h.trans rfl, NN35.out⟩
                  · exact ⟨_, h, BC.out.size⟩
                simp only [Nat.zero_add]
                have BC := Lib.hid bn
                have S39 := Lib.hid s9
                have AT9 := Lib.hid at9
                clear hs ho hat bn s9 at9
                try go_simp
                refine hK.out _ _ (fun _ _ => (SAB _).out BC.out) ?_
                clear hK K
                refine wpAnyZ_one (i := 12) (by kernel_rfl) rfl (fun K hK => ?_)
                go_simp
                refine hK.out _ _ (fun _ _ => (SAB _).out (BC.out.alloc BC.out.size _)) ?_
                clear hK K
                refine forgetZ (F := fun W => Below W0.heap.size W0 W ∧ Slc W 30 3 (.slice A3 co c3) co (flatW (out.take co)) ∧ Blk W W2.heap.size 30 [.int .i64 x1, .int .u64 x2, .int .i64 x3]) ⟨BC.out.alloc BC.out.size _, S39.out.alloc _, Blk.new W2 30 [.int .i64 x1, .int .u64 x2, .int .i64 x3]⟩ ?_
                clear BC S39
                rintro W3 ⟨bn, s9, x7⟩
                have BC := Lib.hid bn
                have S39 := Lib.hid s9
                have X47 := Lib.hid x7
                clear bn s9 x7
                refine wpAnyZ_one (i := 13) (by kernel_rfl) rfl (fun K hK => ?_)
                refine step_append_slc _ rfl (.tmp 39) (.tmp 47) _ rfl 30 i0 _ 3 24 Try.underlying22 hi0 hz0 hz1 hz2 rfl (by omega) (.slice A3 co c3) co (flatW (out.take co)) rfl S39.out (some ⟨W2.heap.size, 0, none⟩) 1 1 [.int .i64 x1, .int .u64 x2, .int .i64 x3] rfl (srcW X47.out rfl) (by simp [Value.oneCell']) (by omega) (by simp only [maxLen]; omega) ?_
                intro v4 W4 hs ho hat
                obtain ⟨A4, c4, e4, -⟩ := hs.shape
                subst e4
                have bn : Below W0.heap.size W0 W4 := Below.onlyF BC.out ho (fun g h => by obtain ⟨g', e, hg⟩ := AT9.out; rw [e] at h; injection h with h; omega)
                have at4 : ∃ g, (Value.slice A4 (co + 1) c4).ownBlock = some g ∧ W0.heap.size ≤ g := by
                  rcases hat with h | h
                  · obtain ⟨g', e, hg⟩ := AT9.out; exact ⟨g', h.trans e, hg⟩
                  · exact ⟨_, h, BC.out.size⟩
                have BC := Lib.hid bn
                have S48 := Lib.hid hs
                have AT4 := Lib.hid at4
                clear hs ho hat bn at4
                try go_simp
                refine hK.out _ _ (fun _ _ => (SAB _).out BC.out) ?_
                clear hK K
                refine wpAnyZ_one (i := 17) (by kernel_rfl) rfl (fun K hK => ?_)
                refine step_append_slc _ rfl (.tmp 48) (.tmp 51) _ rfl 30 i0 _ 3 24 Try.underlying22 hi0 hz0 hz1 hz2 rfl (by omega) (.slice A4 (co + 1) c4) (co + 1) (flatW (out.take co) ++ [.int .i64 x1, .int .u64 x2, .int .i64 x3]) rfl S48.out (some ⟨g2, off2, none⟩) 0 0 (flatW (out.drop co)) rfl ⟨by rw [flatW_len, List.length_drop]; have := OL.out; omega, .inl rfl⟩ (HF.out _) (by omega) (by simp only [maxLen]; omega) ?_
                intro v5 W5 hs ho hat
                obtain ⟨A5, c5, e5, -⟩ := hs.shape
                subst e5
                have bn : Below W0.heap.size W0 W5 := Below.onlyF BC.out ho (fun g h => by obtain ⟨g', e, hg⟩ := AT4.out; rw [e] at h; injection h with h; omega)
                have ow : ∀ g, (Value.slice A5 (co + 1 + 0) c5).ownBlock = some g → w.heap.size ≤ g := fun g e => by
                  have := BW0.out.size
                  rcases hat with h | h
                  · obtain ⟨g', e', hg⟩ := AT4.out; rw [h, e'] at e; injection e with e; omega
                  · rw [h] at e; injection e with e; have := BC.out.size; omega
                have EM : co + 1 + 0 = co + 1 := by have := OL.out; have := KI.out; omega
                have hs2 : Slc W5 30 3 (.slice A5 (co + 1) c5) (co + 1) (flatW (allR (l.take (co + 1)))) := by
                  rw [ST.out, ← NX.out, flatW_app, flatW_app, ← EM]
                  exact hs
                rw [EM] at ow ⊢
                have BC := Lib.hid bn
                have S5 := Lib.hid hs2
                have OW := Lib.hid ow
                clear hs ho hat bn ow hs2
                try go_simp
                refine hK.out _ _ (fun _ _ => (SAB _).out BC.out) ?_
                clear hK K
                refine wpAnyZ_move (i := 18) (v := ?_) rfl (by kernel_rfl) (by kernel_rfl) (by kernel_rfl) (fun _ _ _ h => h) (Or.inl ⟨by rfl, ?_⟩) ?_
                (rotate_left 1; (focus (intro W; go_simp; try with_reducible rfl)))
                try simp only [Act.put, List.setIfInBounds_toArray, List.set_cons_zero, List.set_cons_succ, List.getElem_toArray, List.getElem_cons_succ, List.getElem_cons_zero]
                refine wpAnyZ_done (by kernel_rfl) ?_ _
                go_wp2_with fail
                go_roundw
                case rel => exact ⟨co + 1, by go_num, by omega, S5.out, OW.out, Below.next BW0.out BC.out⟩
                case measure => simp [intOf]; omega
              · go_simp
                refine hK.out _ _ (fun _ _ => (SAB _).out (BC.out.alloc BC.out.size _)) ?_
                clear hK K
                have NE := Lib.hid (show ¬ (Value.slice (some ⟨W0.heap.size, 0, none⟩) 0 0).ownBlock = some W1.heap.size from fun e => by have h35 : W0.heap.size < W1.heap.size := S35.out.lt rfl; simp [Value.ownBlock] at e; omega)
                refine forgetZ (F := fun W => Below W0.heap.size W0 W ∧ Slc W 30 3 (.slice (some ⟨W0.heap.size, 0, none⟩) 0 0) 0 [] ∧ Blk W W1.heap.size 30 [.int .i64 x1, .int .u64 x2, .int .i64 x3]) ⟨BC.out.alloc BC.out.size _, S35.out.alloc _, Blk.new W1 30 [.int .i64 x1, .int .u64 x2, .int .i64 x3]⟩ ?_
                clear BC S35
                rintro W2 ⟨bn, s5, x7⟩
                have BC := Lib.hid bn
                have S35 := Lib.hid s5
                have X47 := Lib.hid x7
                clear bn s5 x7
                refine wpAnyZ_one (i := 4) (by kernel_rfl) rfl (fun K hK => ?_)
                refine step_append_slc _ rfl (.tmp 35) (.tmp 38) _ rfl 30 i0 _ 3 24 Try.underlying22 hi0 hz0 hz1 hz2 rfl (by omega) (.slice (some ⟨W0.heap.size, 0, none⟩) 0 0) 0 [] rfl S35.out (some ⟨g2, off2, none⟩) co co (flatW (out.take co)) rfl (srcPart0 (HOX.out.below BC.out (fun g hg => HOX.out.lt hg)) (by omega)) (HF.out _) (by omega) (by simp only [maxLen]; omega) ?_
                intro v2 W3 hs ho hat
                obtain ⟨A3, c3, e3, -⟩ := hs.shape
                subst e3
                have bn : Below W0.heap.size W0 W3 := Below.onlyF BC.out ho (fun g h => by simp [Value.ownBlock] at h; have := NN35.out; omega)
                have s9 : Slc W3 30 3 (.slice A3 co c3) co (flatW (out.take co)) := by simpa using hs
                have at9 : ∃ g, (Value.slice A3 co c3).ownBlock = some g ∧ W0.heap.size ≤ g := by
                  simp only [Nat.zero_add] at hat
                  rcases hat with h | h
                  · exact ⟨_, h.trans rfl, NN35.out⟩
                  · exact ⟨_, h, BC.out.size⟩
                simp only [Nat.zero_add]
                have x7 := X47.out.only ho NE.out
                have X47 := Lib.hid x7
                clear x7
                have BC := Lib.hid bn
                have S39 := Lib.hid s9
                have AT9 := Lib.hid at9
                clear hs ho hat bn s9 at9
                try go_simp
                refine hK.out _ _ (fun _ _ => (SAB _).out BC.out) ?_
                clear hK K
                refine wpAnyZ_one (i := 13) (by kernel_rfl) rfl (fun K hK => ?_)
                refine step_append_slc _ rfl (.tmp 39) (.tmp 47) _ rfl 30 i0 _ 3 24 Try.underlying22 hi0 hz0 hz1 hz2 rfl (by omega) (.slice A3 co c3) co (flatW (out.take co)) rfl S39.out (some ⟨W1.heap.size, 0, none⟩) 1 1 [.int .i64 x1, .int .u64 x2, .int .i64 x3] rfl (srcW X47.out rfl) (by simp [Value.oneCell']) (by omega) (by simp only [maxLen]; omega) ?_
                intro v4 W4 hs ho hat
                obtain ⟨A4, c4, e4, -⟩ := hs.shape
                subst e4
                have bn : Below W0.heap.size W0 W4 := Below.onlyF BC.out ho (fun g h => by obtain ⟨g', e, hg⟩ := AT9.out; rw [e] at h; injection h with h; omega)
                have at4 : ∃ g, (Value.slice A4 (co + 1) c4).ownBlock = some g ∧ W0.heap.size ≤ g := by
                  rcases hat with h | h
                  · obtain ⟨g', e, hg⟩ := AT9.out; exact ⟨g', h.trans e, hg⟩
                  · exact ⟨_, h, BC.out.size⟩
                have BC := Lib.hid bn
                have S48 := Lib.hid hs
                have AT4 := Lib.hid at4
                clear hs ho hat bn at4
                try go_simp
                refine hK.out _ _ (fun _ _ => (SAB _).out BC.out) ?_
                clear hK K
                refine wpAnyZ_one (i := 17) (by kernel_rfl) rfl (fun K hK => ?_)
                refine step_append_slc _ rfl (.tmp 48) (.tmp 51) _ rfl 30 i0 _ 3 24 Try.underlying22 hi0 hz0 hz1 hz2 rfl (by omega) (.slice A4 (co + 1) c4) (co + 1) (flatW (out.take co) ++ [.int .i64 x1, .int .u64 x2, .int .i64 x3]) rfl S48.out (some ⟨g2, off2, none⟩) 0 0 (flatW (out.drop co)) rfl ⟨by rw [flatW_len, List.length_drop]; have := OL.out; omega, .inl rfl⟩ (HF.out _) (by omega) (by simp only [maxLen]; omega) ?_
                intro v5 W5 hs ho hat
                obtain ⟨A5, c5, e5, -⟩ := hs.shape
                subst e5
                have bn : Below W0.heap.size W0 W5 := Below.onlyF BC.out ho (fun g h => by obtain ⟨g', e, hg⟩ := AT4.out; rw [e] at h; injection h with h; omega)
                have ow : ∀ g, (Value.slice A5 (co + 1 + 0) c5).ownBlock = some g → w.heap.size ≤ g := fun g e => by
                  have := BW0.out.size
                  rcases hat with h | h
                  · obtain ⟨g', e', hg⟩ := AT4.out; rw [h, e'] at e; injection e with e; omega
                  · rw [h] at e; injection e with e; have := BC.out.size; omega
                have EM : co + 1 + 0 = co + 1 := by have := OL.out; have := KI.out; omega
                have hs2 : Slc W5 30 3 (.slice A5 (co + 1) c5) (co + 1) (flatW (allR (l.take (co + 1)))) := by
                  rw [ST.out, ← NX.out, flatW_app, flatW_app, ← EM]
                  exact hs
                rw [EM] at ow ⊢
                have BC := Lib.hid bn
                have S5 := Lib.hid hs2
                have OW := Lib.hid ow
                clear hs ho hat bn ow hs2
                try go_simp
                refine hK.out _ _ (fun _ _ => (SAB _).out BC.out) ?_
                clear hK K
                refine wpAnyZ_move (i := 18) (v := ?_) rfl (by kernel_rfl) (by kernel_rfl) (by kernel_rfl) (fun _ _ _ h => h) (Or.inl ⟨by rfl, ?_⟩) ?_
                (rotate_left 1; (focus (intro W; go_simp; try with_reducible rfl)))
                try simp only [Act.put, List.setIfInBounds_toArray, List.set_cons_zero, List.set_cons_succ, List.getElem_toArray, List.getElem_cons_succ, List.getElem_cons_zero]
                refine wpAnyZ_done (by kernel_rfl) ?_ _
                go_wp2_with fail
                go_roundw
                case rel => exact ⟨co + 1, by go_num, by omega, S5.out, OW.out, Below.next BW0.out BC.out⟩
                case measure => simp [intOf]; omega
            · go_simp
              refine hK.out _ _ (fun _ _ => (SAB _).out (BC.out.alloc BC.out.size _)) ?_
              clear hK K
              refine forgetZ (F := fun W => Below W0.heap.size W0 W ∧ Blk W W0.heap.size 30 [.int .i64 x1, .int .u64 x2, .int .i64 x3]) ⟨BC.out.alloc BC.out.size _, Blk.new W0 30 [.int .i64 x1, .int .u64 x2, .int .i64 x3]⟩ ?_
              clear BC
              rintro W1 ⟨bn, x7⟩
              have BC := Lib.hid bn
              have X47 := Lib.hid x7
              clear bn x7
              refine wpAnyZ_one (i := 0) (by kernel_rfl) rfl (fun K hK => ?_)
              go_simp
              refine hK.out _ _ (fun _ _ => (SAB _).out (BC.out.alloc BC.out.size _)) ?_
              clear hK K
              have NN35 := Lib.hid BC.out.size
              have NE := Lib.hid (show ¬ (Value.slice (some ⟨W1.heap.size, 0, none⟩) 0 0).ownBlock = some W0.heap.size from fun e => by have := X47.out.lt; simp [Value.ownBlock] at e; omega)
              refine forgetZ (F := fun W => Below W0.heap.size W0 W ∧ Slc W 30 3 (.slice (some ⟨W1.heap.size, 0, none⟩) 0 0) 0 [] ∧ Blk W W0.heap.size 30 [.int .i64 x1, .int .u64 x2, .int .i64 x3]) ⟨BC.out.alloc BC.out.size _, Slc.new W1 30 3, X47.out.alloc _⟩ ?_
              clear BC X47
              rintro W2 ⟨bn, s5, x7⟩
              have BC := Lib.hid bn
              have S35 := Lib.hid s5
              have X47 := Lib.hid x7
              clear bn s5 x7
              refine wpAnyZ_one (i := 4) (by kernel_rfl) rfl (fun K hK => ?_)
              refine step_append_slc _ rfl (.tmp 35) (.tmp 38) _ rfl 30 i0 _ 3 24 Try.underlying22 hi0 hz0 hz1 hz2 rfl (by omega) (.slice (some ⟨W1.heap.size, 0, none⟩) 0 0) 0 [] rfl S35.out (some ⟨g2, off2, none⟩) co co (flatW (out.take co)) rfl (srcPart0 (HOX.out.below BC.out (fun g hg => HOX.out.lt hg)) (by omega)) (HF.out _) (by omega) (by simp only [maxLen]; omega) ?_
              intro v2 W3 hs ho hat
              obtain ⟨A3, c3, e3, -⟩ := hs.shape
              subst e3
              have bn : Below W0.heap.size W0 W3 := Below.onlyF BC.out ho (fun g h => by simp [Value.ownBlock] at h; have := NN35.out; omega)
              have s9 : Slc W3 30 3 (.slice A3 co c3) co (flatW (out.take co)) := by simpa using hs
              have at9 : ∃ g, (Value.slice A3 co c3).ownBlock = some g ∧ W0.heap.size ≤ g := by
                simp only [Nat.zero_add] at hat
                rcases hat with h | h
                · exact ⟨_, h.trans rfl, NN35.out⟩
                · exact ⟨_, h, BC.out.size⟩
              simp only [Nat.zero_add]
              have x7 := X47.out.only ho NE.out
              have X47 := Lib.hid x7
              clear x7
              have BC := Lib.hid bn
              have S39 := Lib.hid s9
              have AT9 := Lib.hid at9
              clear hs ho hat bn s9 at9
              try go_simp
              refine hK.out _ _ (fun _ _ => (SAB _).out BC.out) ?_
              clear hK K
              refine wpAnyZ_one (i := 13) (by kernel_rfl) rfl (fun K hK => ?_)
              refine step_append_slc _ rfl (.tmp 39) (.tmp 47) _ rfl 30 i0 _ 3 24 Try.underlying22 hi0 hz0 hz1 hz2 rfl (by omega) (.slice A3 co c3) co (flatW (out.take co)) rfl S39.out (some ⟨W0.heap.size, 0, none⟩) 1 1 [.int .i64 x1, .int .u64 x2, .int .i64 x3] rfl (srcW X47.out rfl) (by simp [Value.oneCell']) (by omega) (by simp only [maxLen]; omega) ?_
              intro v4 W4 hs ho hat
              obtain ⟨A4, c4, e4, -⟩ := hs.shape
              subst e4
              have bn : Below W0.heap.size W0 W4 := Below.onlyF BC.out ho (fun g h => by obtain ⟨g', e, hg⟩ := AT9.out; rw [e] at h; injection h with h; omega)
              have at4 : ∃ g, (Value.slice A4 (co + 1) c4).ownBlock = some g ∧ W0.heap.size ≤ g := by
                rcases hat with h | h
                · obtain ⟨g', e, hg⟩ := AT9.out; exact ⟨g', h.trans e, hg⟩
                · exact ⟨_, h, BC.out.size⟩
              have BC := Lib.hid bn
              have S48 := Lib.hid hs
              have AT4 := Lib.hid at4
              clear hs ho hat bn at4
              try go_simp
              refine hK.out _ _ (fun _ _ => (SAB _).out BC.out) ?_
              clear hK K
              refine wpAnyZ_one (i := 17) (by kernel_rfl) rfl (fun K hK => ?_)
              refine step_append_slc _ rfl (.tmp 48) (.tmp 51) _ rfl 30 i0 _ 3 24 Try.underlying22 hi0 hz0 hz1 hz2 rfl (by omega) (.slice A4 (co + 1) c4) (co + 1) (flatW (out.take co) ++ [.int .i64 x1, .int .u64 x2, .int .i64 x3]) rfl S48.out (some ⟨g2, off2, none⟩) 0 0 (flatW (out.drop co)) rfl ⟨by rw [flatW_len, List.length_drop]; have := OL.out; omega, .inl rfl⟩ (HF.out _) (by omega) (by simp only [maxLen]; omega) ?_
              intro v5 W5 hs ho hat
              obtain ⟨A5, c5, e5, -⟩ := hs.shape
              subst e5
              have bn : Below W0.heap.size W0 W5 := Below.onlyF BC.out ho (fun g h => by obtain ⟨g', e, hg⟩ := AT4.out; rw [e] at h; injection h with h; omega)
              have ow : ∀ g, (Value.slice A5 (co + 1 + 0) c5).ownBlock = some g → w.heap.size ≤ g := fun g e => by
                have := BW0.out.size
                rcases hat with h | h
                · obtain ⟨g', e', hg⟩ := AT4.out; rw [h, e'] at e; injection e with e; omega
                · rw [h] at e; injection e with e; have := BC.out.size; omega
              have EM : co + 1 + 0 = co + 1 := by have := OL.out; have := KI.out; omega
              have hs2 : Slc W5 30 3 (.slice A5 (co + 1) c5) (co + 1) (flatW (allR (l.take (co + 1)))) := by
                rw [ST.out, ← NX.out, flatW_app, flatW_app, ← EM]
                exact hs
              rw [EM] at ow ⊢
              have BC := Lib.hid bn
              have S5 := Lib.hid hs2
              have OW := Lib.hid ow
              clear hs ho hat bn ow hs2
              try go_simp
              refine hK.out _ _ (fun _ _ => (SAB _).out BC.out) ?_
              clear hK K
              refine wpAnyZ_move (i := 18) (v := ?_) rfl (by kernel_rfl) (by kernel_rfl) (by kernel_rfl) (fun _ _ _ h => h) (Or.inl ⟨by rfl, ?_⟩) ?_
              (rotate_left 1; (focus (intro W; go_simp; try with_reducible rfl)))
              try simp only [Act.put, List.setIfInBounds_toArray, List.set_cons_zero, List.set_cons_succ, List.getElem_toArray, List.getElem_cons_succ, List.getElem_cons_zero]
              refine wpAnyZ_done (by kernel_rfl) ?_ _
              go_wp2_with fail
              go_roundw
              case rel => exact ⟨co + 1, by go_num, by omega, S5.out, OW.out, Below.next BW0.out BC.out⟩
              case measure => simp [intOf]; omega
          · clear KE
            have hkI : (k : Int) ≤ (i : Int) := by omega
            have hkC : (k : Int) ≤ (co : Int) := by omega
            have hiC : (i : Int) ≤ (co : Int) := by omega
            have ne1 : ¬ co = k := by omega
            have ne2 : ¬ k = co := by omega
            have ne3 : ((k : Int) == (co : Int)) = false := beq_eq_false_iff_ne.2 (by omega)
            have LD := Lib.hid (show (out.drop k).take (i - k) = out.drop k from List.take_of_length_le (by rw [List.length_drop]; have := OL.out; omega))
            have KI := Lib.hid hki
            clear hki
            have HOX := HO.out.below BL.out (fun g hg => HO.out.lt hg)
            have hsa := SAW.out.below (Below.next HB.out BL.out)
            have bw0 := Below.next HB.out BL.out
            have HSD0 := hsa.below (Below.refl _ _).drew
            have bw1 := bw0.drew
            have hox1 := HOX.drew
            refine wp_region_zone (SA R.q (.slice (some ⟨g, off, none⟩) n c) g (off + i * 3) ⟨x1, x2, x3⟩) (fun j => true) (by kernel_rfl) ?_
            refine forgetZ (F := fun W => (SA R.q (.slice (some ⟨g, off, none⟩) n c) g (off + i * 3) ⟨x1, x2, x3⟩) W ∧ Below w.heap.size w W ∧ Slc W 30 3 (.slice (some ⟨g2, off2, none⟩) i co) i (flatW out)) ⟨HSD0, bw1, hox1⟩ ?_
            clear HOX hsa bw0 HSD0 bw1 hox1
            rintro W0 ⟨hsd, bw0, hox⟩
            have HSD := Lib.hid hsd
            have BW0 := Lib.hid bw0
            have HOX := Lib.hid hox
            have SAB : ∀ W, Hid (Below W0.heap.size W0 W → (SA R.q (.slice (some ⟨g, off, none⟩) n c) g (off + i * 3) ⟨x1, x2, x3⟩) W) := fun W o => hsd.below o
            have BC := Lib.hid (Below.refl W0.heap.size W0)
            clear hsd bw0 hox
            refine wpAnyZ_move (i := 1) (v := ?_) rfl (by kernel_rfl) (by kernel_rfl) (by kernel_rfl) (fun _ _ _ h => h) (Or.inl ⟨by rfl, ?_⟩) ?_
            (rotate_left 1; (focus (intro W; go_simp; try with_reducible rfl)))
            try simp only [Act.put, List.setIfInBounds_toArray, List.set_cons_zero, List.set_cons_succ, List.getElem_toArray, List.getElem_cons_succ, List.getElem_cons_zero]
            refine wpAnyZ_move (i := 2) (v := ?_) rfl (by kernel_rfl) (by kernel_rfl) (by kernel_rfl) (fun _ _ _ h => h) (Or.inl ⟨by rfl, ?_⟩) ?_
            (rotate_left 1; (focus (intro W; go_simp; try with_reducible rfl)))
            try simp only [Act.put, List.setIfInBounds_toArray, List.set_cons_zero, List.set_cons_succ, List.getElem_toArray, List.getElem_cons_succ, List.getElem_cons_zero]
            refine wpAnyZ_move (i := 3) (v := ?_) rfl (by kernel_rfl) (by kernel_rfl) (by kernel_rfl) (fun _ _ _ h => h) (Or.inl ⟨by rfl, ?_⟩) ?_
            (rotate_left 1; (focus (intro W; go_simp; try with_reducible rfl)))
            try simp only [Act.put, List.setIfInBounds_toArray, List.set_cons_zero, List.set_cons_succ, List.getElem_toArray, List.getElem_cons_succ, List.getElem_cons_zero]
            refine wpAnyZ_move (i := 5) (v := ?_) rfl (by kernel_rfl) (by kernel_rfl) (by kernel_rfl) (fun _ _ _ h => h) (Or.inl ⟨by rfl, ?_⟩) ?_
            (rotate_left 1; (focus (intro W; go_simp; try with_reducible rfl)))
            try simp only [Act.put, List.setIfInBounds_toArray, List.set_cons_zero, List.set_cons_succ, List.getElem_toArray, List.getElem_cons_succ, List.getElem_cons_zero]
            refine wpAnyZ_move (i := 6) (v := ?_) rfl (by kernel_rfl) (by kernel_rfl) (by kernel_rfl) (fun _ _ _ h => h) (Or.inl ⟨by rfl, ?_⟩) ?_
            (rotate_left 1; (focus (intro W; go_simp; try with_reducible rfl)))
            try simp only [Act.put, List.setIfInBounds_toArray, List.set_cons_zero, List.set_cons_succ, List.getElem_toArray, List.getElem_cons_succ, List.getElem_cons_zero]
            refine wpAnyZ_move (i := 7) (v := ?_) rfl (by kernel_rfl) (by kernel_rfl) (by kernel_rfl) (fun _ _ _ h => h) (Or.inl ⟨by rfl, ?_⟩) ?_
            (rotate_left 1; (focus (intro W; go_simp; try with_reducible rfl)))
            try simp only [Act.put, List.setIfInBounds_toArray, List.set_cons_zero, List.set_cons_succ, List.getElem_toArray, List.getElem_cons_succ, List.getElem_cons_zero]
            refine wpAnyZ_take (i := 8) (v := ?_) rfl (by kernel_rfl) (by kernel_rfl) (by kernel_rfl) (by kernel_rfl) (fun _ _ _ h => h) (Or.inl ⟨by rfl, ?_⟩) HSD.out ?_
            (rotate_left 1; (focus (intro W hS; obtain ⟨⟨p0, p1⟩, p2, p3, p4, p5⟩ := hS; go_simp; try with_reducible rfl)))
            try simp only [Act.put, List.setIfInBounds_toArray, List.set_cons_zero, List.set_cons_succ, List.getElem_toArray, List.getElem_cons_succ, List.getElem_cons_zero]
            refine wpAnyZ_move (i := 9) (v := ?_) rfl (by kernel_rfl) (by kernel_rfl) (by kernel_rfl) (fun _ _ _ h => h) (Or.inl ⟨by rfl, ?_⟩) ?_
            (rotate_left 1; (focus (intro W; go_simp; try with_reducible rfl)))
            try simp only [Act.put, List.setIfInBounds_toArray, List.set_cons_zero, List.set_cons_succ, List.getElem_toArray, List.getElem_cons_succ, List.getElem_cons_zero]
            refine wpAnyZ_move (i := 10) (v := ?_) rfl (by kernel_rfl) (by kernel_rfl) (by kernel_rfl) (fun _ _ _ h => h) (Or.inl ⟨by rfl, ?_⟩) ?_
            (rotate_left 1; (focus (intro W; go_simp; try with_reducible rfl)))
            try simp only [Act.put, List.setIfInBounds_toArray, List.set_cons_zero, List.set_cons_succ, List.getElem_toArray, List.getElem_cons_succ, List.getElem_cons_zero]
            refine wpAnyZ_take (i := 11) (v := ?_) rfl (by kernel_rfl) (by kernel_rfl) (by kernel_rfl) (by kernel_rfl) (fun _ _ _ h => h) (Or.inl ⟨by rfl, ?_⟩) HSD.out ?_
            (rotate_left 1; (focus (intro W hS; obtain ⟨⟨p0, p1⟩, p2, p3, p4, p5⟩ := hS; go_simp; try with_reducible rfl)))
            try simp only [Act.put, List.setIfInBounds_toArray, List.set_cons_zero, List.set_cons_succ, List.getElem_toArray, List.getElem_cons_succ, List.getElem_cons_zero]
            refine wpAnyZ_move (i := 14) (v := ?_) rfl (by kernel_rfl) (by kernel_rfl) (by kernel_rfl) (fun _ _ _ h => h) (Or.inl ⟨by rfl, ?_⟩) ?_
            (rotate_left 1; (focus (intro W; go_simp; try with_reducible rfl)))
            try simp only [Act.put, List.setIfInBounds_toArray, List.set_cons_zero, List.set_cons_succ, List.getElem_toArray, List.getElem_cons_succ, List.getElem_cons_zero]
            refine wpAnyZ_move (i := 15) (v := ?_) rfl (by kernel_rfl) (by kernel_rfl) (by kernel_rfl) (fun _ _ _ h => h) (Or.inl ⟨by rfl, ?_⟩) ?_
            (rotate_left 1; (focus (intro W; go_simp; try with_reducible rfl)))
            try simp only [Act.put, List.setIfInBounds_toArray, List.set_cons_zero, List.set_cons_succ, List.getElem_toArray, List.getElem_cons_succ, List.getElem_cons_zero]
            refine wpAnyZ_move (i := 16) (v := ?_) rfl (by kernel_rfl) (by kernel_rfl) (by kernel_rfl) (fun _ _ _ h => h) (Or.inl ⟨by rfl, ?_⟩) ?_
            (rotate_left 1; (focus (intro W; go_simp; try with_reducible rfl)))
            try simp only [Act.put, List.setIfInBounds_toArray, List.set_cons_zero, List.set_cons_succ, List.getElem_toArray, List.getElem_cons_succ, List.getElem_cons_zero]
            refine wpAnyZ_two (i := 0) (j := 12) (by kernel_rfl) rfl rfl (fun K hK => ?_) (fun K hK => ?_)
            · go_simp
              refine hK.out _ _ (fun _ _ => (SAB _).out (BC.out.alloc BC.out.size _)) ?_
              clear hK K
              have NN35 := Lib.hid BC.out.size
              refine forgetZ (F := fun W => Below W0.heap.size W0 W ∧ Slc W 30 3 (.slice (some ⟨W0.heap.size, 0, none⟩) 0 0) 0 []) ⟨BC.out.alloc BC.out.size _, Slc.new W0 30 3⟩ ?_
              clear BC
              rintro W1 ⟨bn, s5⟩
              have BC := Lib.hid bn
              have S35 := Lib.hid s5
              clear bn s5
              refine wpAnyZ_two (i := 4) (j := 12) (by kernel_rfl) rfl rfl (fun K hK => ?_) (fun K hK => ?_)
              · refine step_append_slc _ rfl (.tmp 35) (.tmp 38) _ rfl 30 i0 _ 3 24 Try.underlying22 hi0 hz0 hz1 hz2 rfl (by omega) (.slice (some ⟨W0.heap.size, 0, none⟩) 0 0) 0 [] rfl S35.out (some ⟨g2, off2, none⟩) k co (flatW (out.take k)) rfl (srcPart0 (HOX.out.below BC.out (fun g hg => HOX.out.lt hg)) (by omega)) (HF.out _) (by omega) (by simp only [maxLen]; omega) ?_
                intro v2 W2 hs ho hat
                obtain ⟨A3, c3, e3, -⟩ := hs.shape
                subst e3
                have bn : Below W0.heap.size W0 W2 := Below.onlyF BC.out ho (fun g h => by simp [Value.ownBlock] at h; have := NN35.out; omega)
                have s9 : Slc W2 30 3 (.slice A3 k c3) k (flatW (out.take k)) := by simpa using hs
                have at9 : ∃ g, (Value.slice A3 k c3).ownBlock = some g ∧ W0.heap.size ≤ g := by
                  simp only [Nat.zero_add] at hat
                  rcases hat with h | h
                  · exact ⟨_, h.trans rfl, NN35.out⟩
                  · exact ⟨_, h, BC.out.size⟩
                simp only [Nat.zero_add]
                have BC := Lib.hid bn
                have S39 := Lib.hid s9
                have AT9 := Lib.hid at9
                clear hs ho hat bn s9 at9
                try go_simp
                refine hK.out _ _ (fun _ _ => (SAB _).out BC.out) ?_
                clear hK K
                refine wpAnyZ_one (i := 12) (by kernel_rfl) rfl (fun K hK => ?_)
                go_simp
                refine hK.out _ _ (fun _ _ => (SAB _).out (BC.out.alloc BC.out.size _)) ?_
                clear hK K
                refine forgetZ (F := fun W => Below W0.heap.size W0 W ∧ Slc W 30 3 (.slice A3 k c3) k (flatW (out.take k)) ∧ Blk W W2.heap.size 30 [.int .i64 x1, .int .u64 x2, .int .i64 x3]) ⟨BC.out.alloc BC.out.size _, S39.out.alloc _, Blk.new W2 30 [.int .i64 x1, .int .u64 x2, .int .i64 x3]⟩ ?_
                clear BC S39
                rintro W3 ⟨bn, s9, x7⟩
                have BC := Lib.hid bn
                have S39 := Lib.hid s9
                have X47 := Lib.hid x7
                clear bn s9 x7
                refine wpAnyZ_one (i := 13) (by kernel_rfl) rfl (fun K hK => ?_)
                refine step_append_slc _ rfl (.tmp 39) (.tmp 47) _ rfl 30 i0 _ 3 24 Try.underlying22 hi0 hz0 hz1 hz2 rfl (by omega) (.slice A3 k c3) k (flatW (out.take k)) rfl S39.out (some ⟨W2.heap.size, 0, none⟩) 1 1 [.int .i64 x1, .int .u64 x2, .int .i64 x3] rfl (srcW X47.out rfl) (by simp [Value.oneCell']) (by omega) (by simp only [maxLen]; omega) ?_
                intro v4 W4 hs ho hat
                obtain ⟨A4, c4, e4, -⟩ := hs.shape
                subst e4
                have bn : Below W0.heap.size W0 W4 := Below.onlyF BC.out ho (fun g h => by obtain ⟨g', e, hg⟩ := AT9.out; rw [e] at h; injection h with h; omega)
                have at4 : ∃ g, (Value.slice A4 (k + 1) c4).ownBlock = some g ∧ W0.heap.size ≤ g := by
                  rcases hat with h | h
                  · obtain ⟨g', e, hg⟩ := AT9.out; exact ⟨g', h.trans e, hg⟩
                  · exact ⟨_, h, BC.out.size⟩
                have BC := Lib.hid bn
                have S48 := Lib.hid hs
                have AT4 := Lib.hid at4
                clear hs ho hat bn at4
                try go_simp
                refine hK.out _ _ (fun _ _ => (SAB _).out BC.out) ?_
                clear hK K
                refine wpAnyZ_one (i := 17) (by kernel_rfl) rfl (fun K hK => ?_)
                refine step_append_slc _ rfl (.tmp 48) (.tmp 51) _ rfl 30 i0 _ 3 24 Try.underlying22 hi0 hz0 hz1 hz2 rfl (by omega) (.slice A4 (k + 1) c4) (k + 1) (flatW (out.take k) ++ [.int .i64 x1, .int .u64 x2, .int .i64 x3]) rfl S48.out (some ⟨g2, off2 + k * 3, none⟩) (i - k) (co - k) (flatW (out.drop k)) rfl (by have := srcPart (i := k) (m := i - k) (HOX.out.below BC.out (fun g hg => HOX.out.lt hg)) (by have := KI.out; omega); rwa [LD.out] at this) (HF.out _) (by omega) (by simp only [maxLen]; omega) ?_
                intro v5 W5 hs ho hat
                obtain ⟨A5, c5, e5, -⟩ := hs.shape
                subst e5
                have bn : Below W0.heap.size W0 W5 := Below.onlyF BC.out ho (fun g h => by obtain ⟨g', e, hg⟩ := AT4.out; rw [e] at h; injection h with h; omega)
                have ow : ∀ g, (Value.slice A5 (k + 1 + (i - k)) c5).ownBlock = some g → w.heap.size ≤ g := fun g e => by
                  have := BW0.out.size
                  rcases hat with h | h
                  · obtain ⟨g', e', hg⟩ := AT4.out; rw [h, e'] at e; injection e with e; omega
                  · rw [h] at e; injection e with e; have := BC.out.size; omega
                have EM : k + 1 + (i - k) = i + 1 := by have := OL.out; have := KI.out; omega
                have hs2 : Slc W5 30 3 (.slice A5 (i + 1) c5) (i + 1) (flatW (allR (l.take (i + 1)))) := by
                  rw [ST.out, ← NX.out, flatW_app, flatW_app, ← EM]
                  exact hs
                rw [EM] at ow ⊢
                have BC := Lib.hid bn
                have S5 := Lib.hid hs2
                have OW := Lib.hid ow
                clear hs ho hat bn ow hs2
                try go_simp
                refine hK.out _ _ (fun _ _ => (SAB _).out BC.out) ?_
                clear hK K
                refine wpAnyZ_move (i := 18) (v := ?_) rfl (by kernel_rfl) (by kernel_rfl) (by kernel_rfl) (fun _ _ _ h => h) (Or.inl ⟨by rfl, ?_⟩) ?_
                (rotate_left 1; (focus (intro W; go_simp; try with_reducible rfl)))
                try simp only [Act.put, List.setIfInBounds_toArray, List.set_cons_zero, List.set_cons_succ, List.getElem_toArray, List.getElem_cons_succ, List.getElem_cons_zero]
                refine wpAnyZ_done (by kernel_rfl) ?_ _
                go_wp2_with fail
                go_roundw
                case rel => exact ⟨i + 1, by go_num, by omega, S5.out, OW.out, Below.next BW0.out BC.out⟩
                case measure => simp [intOf]; omega
              · go_simp
                refine hK.out _ _ (fun _ _ => (SAB _).out (BC.out.alloc BC.out.size _)) ?_
                clear hK K
                have NE := Lib.hid (show ¬ (Value.slice (some ⟨W0.heap.size, 0, none⟩) 0 0).ownBlock = some W1.heap.size from fun e => by have h35 : W0.heap.size < W1.heap.size := S35.out.lt rfl; simp [Value.ownBlock] at e; omega)
                refine forgetZ (F := fun W => Below W0.heap.size W0 W ∧ Slc W 30 3 (.slice (some ⟨W0.heap.size, 0, none⟩) 0 0) 0 [] ∧ Blk W W1.heap.size 30 [.int .i64 x1, .int .u64 x2, .int .i64 x3]) ⟨BC.out.alloc BC.out.size _, S35.out.alloc _, Blk.new W1 30 [.int .i64 x1, .int .u64 x2, .int .i64 x3]⟩ ?_
                clear BC S35
                rintro W2 ⟨bn, s5, x7⟩
                have BC := Lib.hid bn
                have S35 := Lib.hid s5
                have X47 := Lib.hid x7
                clear bn s5 x7
                refine wpAnyZ_one (i := 4) (by kernel_rfl) rfl (fun K hK => ?_)
                refine step_append_slc _ rfl (.tmp 35) (.tmp 38) _ rfl 30 i0 _ 3 24 Try.underlying22 hi0 hz0 hz1 hz2 rfl (by omega) (.slice (some ⟨W0.heap.size, 0, none⟩) 0 0) 0 [] rfl S35.out (some ⟨g2, off2, none⟩) k co (flatW (out.take k)) rfl (srcPart0 (HOX.out.below BC.out (fun g hg => HOX.out.lt hg)) (by omega)) (HF.out _) (by omega) (by simp only [maxLen]; omega) ?_
                intro v2 W3 hs ho hat
                obtain ⟨A3, c3, e3, -⟩ := hs.shape
                subst e3
                have bn : Below W0.heap.size W0 W3 := Below.onlyF BC.out ho (fun g h => by simp [Value.ownBlock] at h; have := NN35.out; omega)
                have s9 : Slc W3 30 3 (.slice A3 k c3) k (flatW (out.take k)) := by simpa using hs
                have at9 : ∃ g, (Value.slice A3 k c3).ownBlock = some g ∧ W0.heap.size ≤ g := by
                  simp only [Nat.zero_add] at hat
                  rcases hat with h | h
                  · exact ⟨_, h.trans rfl, NN35.out⟩
                  · exact ⟨_, h, BC.out.size⟩
                simp only [Nat.zero_add]
                have x7 := X47.out.only ho NE.out
                have X47 := Lib.hid x7
                clear x7
                have BC := Lib.hid bn
                have S39 := Lib.hid s9
                have AT9 := Lib.hid at9
                clear hs ho hat bn s9 at9
                try go_simp
                refine hK.out _ _ (fun _ _ => (SAB _).out BC.out) ?_
                clear hK K
                refine wpAnyZ_one (i := 13) (by kernel_rfl) rfl (fun K hK => ?_)
                refine step_append_slc _ rfl (.tmp 39) (.tmp 47) _ rfl 30 i0 _ 3 24 Try.underlying22 hi0 hz0 hz1 hz2 rfl (by omega) (.slice A3 k c3) k (flatW (out.take k)) rfl S39.out (some ⟨W1.heap.size, 0, none⟩) 1 1 [.int .i64 x1, .int .u64 x2, .int .i64 x3] rfl (srcW X47.out rfl) (by simp [Value.oneCell']) (by omega) (by simp only [maxLen]; omega) ?_
                intro v4 W4 hs ho hat
                obtain ⟨A4, c4, e4, -⟩ := hs.shape
                subst e4
                have bn : Below W0.heap.size W0 W4 := Below.onlyF BC.out ho (fun g h => by obtain ⟨g', e, hg⟩ := AT9.out; rw [e] at h; injection h with h; omega)
                have at4 : ∃ g, (Value.slice A4 (k + 1) c4).ownBlock = some g ∧ W0.heap.size ≤ g := by
                  rcases hat with h | h
                  · obtain ⟨g', e, hg⟩ := AT9.out; exact ⟨g', h.trans e, hg⟩
                  · exact ⟨_, h, BC.out.size⟩
                have BC := Lib.hid bn
                have S48 := Lib.hid hs
                have AT4 := Lib.hid at4
                clear hs ho hat bn at4
                try go_simp
                refine hK.out _ _ (fun _ _ => (SAB _).out BC.out) ?_
                clear hK K
                refine wpAnyZ_one (i := 17) (by kernel_rfl) rfl (fun K hK => ?_)
                refine step_append_slc _ rfl (.tmp 48) (.tmp 51) _ rfl 30 i0 _ 3 24 Try.underlying22 hi0 hz0 hz1 hz2 rfl (by omega) (.slice A4 (k + 1) c4) (k + 1) (flatW (out.take k) ++ [.int .i64 x1, .int .u64 x2, .int .i64 x3]) rfl S48.out (some ⟨g2, off2 + k * 3, none⟩) (i - k) (co - k) (flatW (out.drop k)) rfl (by have := srcPart (i := k) (m := i - k) (HOX.out.below BC.out (fun g hg => HOX.out.lt hg)) (by have := KI.out; omega); rwa [LD.out] at this) (HF.out _) (by omega) (by simp only [maxLen]; omega) ?_
                intro v5 W5 hs ho hat
                obtain ⟨A5, c5, e5, -⟩ := hs.shape
                subst e5
                have bn : Below W0.heap.size W0 W5 := Below.onlyF BC.out ho (fun g h => by obtain ⟨g', e, hg⟩ := AT4.out; rw [e] at h; injection h with h; omega)
                have ow : ∀ g, (Value.slice A5 (k + 1 + (i - k)) c5).ownBlock = some g → w.heap.size ≤ g := fun g e => by
                  have := BW0.out.size
                  rcases hat with h | h
                  · obtain ⟨g', e', hg⟩ := AT4.out; rw [h, e'] at e; injection e with e; omega
                  · rw [h] at e; injection e with e; have := BC.out.size; omega
                have EM : k + 1 + (i - k) = i + 1 := by have := OL.out; have := KI.out; omega
                have hs2 : Slc W5 30 3 (.slice A5 (i + 1) c5) (i + 1) (flatW (allR (l.take (i + 1)))) := by
                  rw [ST.out, ← NX.out, flatW_app, flatW_app, ← EM]
                  exact hs
                rw [EM] at ow ⊢
                have BC := Lib.hid bn
                have S5 := Lib.hid hs2
                have OW := Lib.hid ow
                clear hs ho hat bn ow hs2
                try go_simp
                refine hK.out _ _ (fun _ _ => (SAB _).out BC.out) ?_
                clear hK K
                refine wpAnyZ_move (i := 18) (v := ?_) rfl (by kernel_rfl) (by kernel_rfl) (by kernel_rfl) (fun _ _ _ h => h) (Or.inl ⟨by rfl, ?_⟩) ?_
                (rotate_left 1; (focus (intro W; go_simp; try with_reducible rfl)))
                try simp only [Act.put, List.setIfInBounds_toArray, List.set_cons_zero, List.set_cons_succ, List.getElem_toArray, List.getElem_cons_succ, List.getElem_cons_zero]
                refine wpAnyZ_done (by kernel_rfl) ?_ _
                go_wp2_with fail
                go_roundw
                case rel => exact ⟨i + 1, by go_num, by omega, S5.out, OW.out, Below.next BW0.out BC.out⟩
                case measure => simp [intOf]; omega
            · go_simp
              refine hK.out _ _ (fun _ _ => (SAB _).out (BC.out.alloc BC.out.size _)) ?_
              clear hK K
              refine forgetZ (F := fun W => Below W0.heap.size W0 W ∧ Blk W W0.heap.size 30 [.int .i64 x1, .int .u64 x2, .int .i64 x3]) ⟨BC.out.alloc BC.out.size _, Blk.new W0 30 [.int .i64 x1, .int .u64 x2, .int .i64 x3]⟩ ?_
              clear BC
              rintro W1 ⟨bn, x7⟩
              have BC := Lib.hid bn
              have X47 := Lib.hid x7
              clear bn x7
              refine wpAnyZ_one (i := 0) (by kernel_rfl) rfl (fun K hK => ?_)
              go_simp
              refine hK.out _ _ (fun _ _ => (SAB _).out (BC.out.alloc BC.out.size _)) ?_
              clear hK K
              have NN35 := Lib.hid BC.out.size
              have NE := Lib.hid (show ¬ (Value.slice (some ⟨W1.heap.size, 0, none⟩) 0 0).ownBlock = some W0.heap.size from fun e => by have := X47.out.lt; simp [Value.ownBlock] at e; omega)
              refine forgetZ (F := fun W => Below W0.heap.size W0 W ∧ Slc W 30 3 (.slice (some ⟨W1.heap.size, 0, none⟩) 0 0) 0 [] ∧ Blk W W0.heap.size 30 [.int .i64 x1, .int .u64 x2, .int .i64 x3]) ⟨BC.out.alloc BC.out.size _, Slc.new W1 30 3, X47.out.alloc _⟩ ?_
              clear BC X47
              rintro W2 ⟨bn, s5, x7⟩
              have BC := Lib.hid bn
              have S35 := Lib.hid s5
              have X47 := Lib.hid x7
              clear bn s5 x7
              refine wpAnyZ_one (i := 4) (by kernel_rfl) rfl (fun K hK => ?_)
              refine step_append_slc _ rfl (.tmp 35) (.tmp 38) _ rfl 30 i0 _ 3 24 Try.underlying22 hi0 hz0 hz1 hz2 rfl (by omega) (.slice (some ⟨W1.heap.size, 0, none⟩) 0 0) 0 [] rfl S35.out (some ⟨g2, off2, none⟩) k co (flatW (out.take k)) rfl (srcPart0 (HOX.out.below BC.out (fun g hg => HOX.out.lt hg)) (by omega)) (HF.out _) (by omega) (by simp only [maxLen]; omega) ?_
              intro v2 W3 hs ho hat
              obtain ⟨A3, c3, e3, -⟩ := hs.shape
              subst e3
              have bn : Below W0.heap.size W0 W3 := Below.onlyF BC.out ho (fun g h => by simp [Value.ownBlock] at h; have := NN35.out; omega)
              have s9 : Slc W3 30 3 (.slice A3 k c3) k (flatW (out.take k)) := by simpa using hs
              have at9 : ∃ g, (Value.slice A3 k c3).ownBlock = some g ∧ W0.heap.size ≤ g := by
                simp only [Nat.zero_add] at hat
                rcases hat with h | h
                · exact ⟨_, h.trans rfl, NN35.out⟩
                · exact ⟨_, h, BC.out.size⟩
              simp only [Nat.zero_add]
              have x7 := X47.out.only ho NE.out
              have X47 := Lib.hid x7
              clear x7
              have BC := Lib.hid bn
              have S39 := Lib.hid s9
              have AT9 := Lib.hid at9
              clear hs ho hat bn s9 at9
              try go_simp
              refine hK.out _ _ (fun _ _ => (SAB _).out BC.out) ?_
              clear hK K
              refine wpAnyZ_one (i := 13) (by kernel_rfl) rfl (fun K hK => ?_)
              refine step_append_slc _ rfl (.tmp 39) (.tmp 47) _ rfl 30 i0 _ 3 24 Try.underlying22 hi0 hz0 hz1 hz2 rfl (by omega) (.slice A3 k c3) k (flatW (out.take k)) rfl S39.out (some ⟨W0.heap.size, 0, none⟩) 1 1 [.int .i64 x1, .int .u64 x2, .int .i64 x3] rfl (srcW X47.out rfl) (by simp [Value.oneCell']) (by omega) (by simp only [maxLen]; omega) ?_
              intro v4 W4 hs ho hat
              obtain ⟨A4, c4, e4, -⟩ := hs.shape
              subst e4
              have bn : Below W0.heap.size W0 W4 := Below.onlyF BC.out ho (fun g h => by obtain ⟨g', e, hg⟩ := AT9.out; rw [e] at h; injection h with h; omega)
              have at4 : ∃ g, (Value.slice A4 (k + 1) c4).ownBlock = some g ∧ W0.heap.size ≤ g := by
                rcases hat with h | h
                · obtain ⟨g', e, hg⟩ := AT9.out; exact ⟨g', h.trans e, hg⟩
                · exact ⟨_, h, BC.out.size⟩
              have BC := Lib.hid bn
              have S48 := Lib.hid hs
              have AT4 := Lib.hid at4
              clear hs ho hat bn at4
              try go_simp
              refine hK.out _ _ (fun _ _ => (SAB _).out BC.out) ?_
              clear hK K
              refine wpAnyZ_one (i := 17) (by kernel_rfl) rfl (fun K hK => ?_)
              refine step_append_slc _ rfl (.tmp 48) (.tmp 51) _ rfl 30 i0 _ 3 24 Try.underlying22 hi0 hz0 hz1 hz2 rfl (by omega) (.slice A4 (k + 1) c4) (k + 1) (flatW (out.take k) ++ [.int .i64 x1, .int .u64 x2, .int .i64 x3]) rfl S48.out (some ⟨g2, off2 + k * 3, none⟩) (i - k) (co - k) (flatW (out.drop k)) rfl (by have := srcPart (i := k) (m := i - k) (HOX.out.below BC.out (fun g hg => HOX.out.lt hg)) (by have := KI.out; omega); rwa [LD.out] at this) (HF.out _) (by omega) (by simp only [maxLen]; omega) ?_
              intro v5 W5 hs ho hat
              obtain ⟨A5, c5, e5, -⟩ := hs.shape
              subst e5
              have bn : Below W0.heap.size W0 W5 := Below.onlyF BC.out ho (fun g h => by obtain ⟨g', e, hg⟩ := AT4.out; rw [e] at h; injection h with h; omega)
              have ow : ∀ g, (Value.slice A5 (k + 1 + (i - k)) c5).ownBlock = some g → w.heap.size ≤ g := fun g e => by
                have := BW0.out.size
                rcases hat with h | h
                · obtain ⟨g', e', hg⟩ := AT4.out; rw [h, e'] at e; injection e with e; omega
                · rw [h] at e; injection e with e; have := BC.out.size; omega
              have EM : k + 1 + (i - k) = i + 1 := by have := OL.out; have := KI.out; omega
              have hs2 : Slc W5 30 3 (.slice A5 (i + 1) c5) (i + 1) (flatW (allR (l.take (i + 1)))) := by
                rw [ST.out, ← NX.out, flatW_app, flatW_app, ← EM]
                exact hs
              rw [EM] at ow ⊢
              have BC := Lib.hid bn
              have S5 := Lib.hid hs2
              have OW := Lib.hid ow
              clear hs ho hat bn ow hs2
              try go_simp
              refine hK.out _ _ (fun _ _ => (SAB _).out BC.out) ?_
              clear hK K
              refine wpAnyZ_move (i := 18) (v := ?_) rfl (by kernel_rfl) (by kernel_rfl) (by kernel_rfl) (fun _ _ _ h => h) (Or.inl ⟨by rfl, ?_⟩) ?_
              (rotate_left 1; (focus (intro W; go_simp; try with_reducible rfl)))
              try simp only [Act.put, List.setIfInBounds_toArray, List.set_cons_zero, List.set_cons_succ, List.getElem_toArray, List.getElem_cons_succ, List.getElem_cons_zero]
              refine wpAnyZ_done (by kernel_rfl) ?_ _
              go_wp2_with fail
              go_roundw
              case rel => exact ⟨i + 1, by go_num, by omega, S5.out, OW.out, Below.next BW0.out BC.out⟩
              case measure => simp [intOf]; omega
    · obtain rfl : i = n := by omega
      have hin2 : ¬ (i : Int) < i := by omega
      go_wp2_with fail
      go_ret
      have e : l.take i = l := List.take_of_length_le (by have := HL.out; omega)
      have e2 : (allR l).length = i := by rw [allR_len]; exact HL.out.symm
      have hO := HO.out
      rw [e] at hO
      unfold AllPostR
      rw [e2]
      exact ⟨_, _, rfl, hO, HB.out⟩
end Go.Proofs.Ytinpaplpgoljpaa
