/- Layer 7 (pool): Size and Read. -/
import Derived.Test.YtajcjepolfmhmaaPoolOpsB
import Derived.Test.YtajcjepolfmhmaaCells
import Derived.Lib.BufferMore
namespace Go.Proofs.Ytajcjepolfmhmaa
open Go.RowKit
set_option linter.unusedVariables false
set_option linter.unusedSimpArgs false
theorem infoByte2 : (Try.prog.info? 5).map (fun i => (i.zero, i.size, i.bytes)) = some (some (.int .u8 0), 1, 1) := by kernel_rfl
theorem clone_any (w : World) (A : Addr) (c : Nat) (l : List Int) (m : Nat) (hm : l.length = m) (hs : Src w 1 (some A) m (byteCells l)) (hl : m ≤ 140737488351232) :
    Calls Try.prog 37 #[.slice (some A) m c] w fun e w' => ∃ v, e = .returned v ∧ Slc w' 5 1 v m (byteCells l) ∧ Below w.heap.size w w' ∧ ∀ g, v.ownBlock = some g → w.heap.size ≤ g := by
  obtain ⟨i0, hi0, hz0, hz1, hz2⟩ := info_parts infoByte2
  have HS := Lib.hid hs
  have h1 : ∀ u ∈ byteCells l, u.oneCell' = true := fun u hu => by
    simp [byteCells] at hu
    obtain ⟨a, -, rfl⟩ := hu
    rfl
  have H1 := Lib.hid h1
  clear hs h1
  have hnil : ∀ W, (binOp .eql 23 (.slice (some A) m c) (.slice none 0 0)).run Try.prog W = .ok (.bool false) W := fun W => Lib.run_eql_slice_some_nil W A m c Try.underlying23
  go_enter Try.func37, Try.ntmps37
  go_wp2_with (at_builtin; refine wpList_append_slc _ rfl (.tmp 5) (.tmp 6) _ rfl 5 i0 _ 1 1 Try.underlying23 hi0 hz0 hz1 hz2 rfl (by omega) (.slice (some ⟨w.heap.size, 0, none⟩) 0 0) 0 [] rfl (Slc.new w 5 1) (some A) m c (byteCells l) rfl (HS.out.alloc _) H1.out (by omega) (by simp only [maxLen]; omega) ?_)
  intro v2 w2 hs2 ho2 hat2
  have H2 := Lib.hid hs2
  have O2 := Lib.hid ho2
  have A2 := Lib.hid hat2
  clear hs2 ho2 hat2
  go_wp2_with fail
  go_ret
  have o2 := O2.out.size
  simp only [World.size_alloc] at o2
  refine ⟨v2, rfl, by simpa using H2.out, Below.trans ((Below.refl _ _).alloc (Nat.le_refl _) _) (O2.out.below (by simp) (fun i hi e => by simp [Value.ownBlock] at e; omega)), fun g hg => ?_⟩
  rcases A2.out with h | h <;> rw [h] at hg <;> simp [Value.ownBlock] at hg <;> omega
/-- What is read. -/
def readB (at_ n : Int) (b : Bf) : Option (List Int) × Int :=
  if at_ < 0 ∨ n < 0 ∨ b.bytes.length < at_ ∨ (b.bytes.length : Int) - at_ < n then (none, 1) else (some ((b.bytes.drop at_.toNat).take n.toNat), 0)
def readQ (s g at_ n : Int) (bs : List Bf) : Option (List Int) × Int := match look bs s g with
  | none => (none, 3)
  | some (i, b) => readB at_ n b
/-- A slice that was read: nil, or bytes in a block of their own behind base. -/
def Rd (w : World) (base : Nat) (v : Value) : Option (List Int) → Prop
  | none => v = .slice none 0 0
  | some l => Slc w 5 1 v l.length (byteCells l) ∧ ∀ g, v.ownBlock = some g → base ≤ g
theorem read_tail {w w1 : World} {N z m : Nat} {A3 : Option Addr} {c3 : Nat} {l : List Int} (hz : Blk w z 23 [.slice none 0 0]) (hr : Slc w1 5 1 (.slice A3 m c3) m (byteCells l)) (hb : Below (w.drewN N).heap.size (w.drewN N) w1)
    (own : ∀ g, (Value.slice A3 m c3).ownBlock = some g → (w.drewN N).heap.size ≤ g) (hl : l.length = m) :
    ∃ r, Blk (w1.setCell ⟨z, 0, none⟩ (.slice A3 m c3)) z 23 [r] ∧ Rd (w1.setCell ⟨z, 0, none⟩ (.slice A3 m c3)) w.heap.size r (some l) ∧ Only (· = z) w (w1.setCell ⟨z, 0, none⟩ (.slice A3 m c3)) := by
  have hzl := hz.lt
  have hzr : (Value.slice A3 m c3).ownBlock ≠ some z := fun e => by
    have h : w.heap.size ≤ z := own _ e
    omega
  have bz : Blk w1 z 23 [.slice none 0 0] := (hz.drewN N).below hb hzl
  subst hl
  exact ⟨_, bz.put 0 _, ⟨hr.far (p := ⟨z, 0, none⟩) hzr _, own⟩, Only.setCell (F := (· = z)) (p := ⟨z, 0, none⟩) (Only.of_below (Below.trans (Below.drewN' (Below.refl w.heap.size w) N) hb)) (fun _ => rfl) _⟩
set_option maxHeartbeats 4000000 in
theorem read1_any {w : World} {P : Pl} {bs : List Bf} (k : IsP w P bs) {i x : Nat} {b : Bf} (hb : bs[i]? = some b) (hx : P.xs[i]? = some x) (at_ n : Int) (hl : b.bytes.length ≤ 65536) (ha : -9223372036854775808 ≤ at_) (ha' : at_ ≤ 9223372036854775807) (hn : -9223372036854775808 ≤ n) (hn' : n ≤ 9223372036854775807)
    (u v z : Nat) (hu : w.cell? ⟨u, 0, none⟩ = some (.int .i64 at_)) (hv : w.cell? ⟨v, 0, none⟩ = some (.int .i64 n)) (hz : Blk w z 23 [.slice none 0 0]) :
    Calls Try.prog 36 #[.pointer (some ⟨x, 0, none⟩), .pointer (some ⟨u, 0, none⟩), .pointer (some ⟨v, 0, none⟩), .pointer (some ⟨z, 0, none⟩)] w fun e w' => e = .returned (.int .i64 (readB at_ n b).2) ∧ ∃ r, Blk w' z 23 [r] ∧ Rd w' w.heap.size r (readB at_ n b).1 ∧ Only (· = z) w w' := by
  obtain ⟨x', y, hx', hy, mx, my, kx, ky, hi⟩ := k.xy hb
  rw [hx] at hx'
  injection hx' with hx'
  subst hx'
  have K := Lib.hid k
  have KX := Lib.hid kx
  have KY := Lib.hid ky
  have HZ := Lib.hid hz
  have zf : w.frozen? ⟨z, 0, none⟩ = false := hz.free 0
  have hzy : z ≠ y := hz.ne ky (by decide)
  have zlt := hz.lt
  have x3 : w.cell? ⟨x, 3, none⟩ = some (.slice (some ⟨y, 0, none⟩) b.bytes.length b.bytes.length) := kx.cell 3
  generalize hL : b.bytes.length = L at *
  clear k kx ky hz
  by_cases z3 : at_ < 0
  · have d3 : decide (at_ < 0) = true := decide_eq_true z3
    have e : readB at_ n b = (none, 1) := by unfold readB; rw [if_pos (.inl z3)]
    rw [e]
    clear e
    go_enter Try.func36, Try.ntmps36
    go_wp2_with fail
    go_quiet (fail)
    go_wp2_with fail
    go_ret
    exact ⟨rfl, _, HZ.out.drewN _, rfl, (Only.refl _ _).drewN _⟩
  · have d3 : decide (at_ < 0) = false := decide_eq_false z3
    by_cases z4 : n < 0
    · have d4 : decide (n < 0) = true := decide_eq_true z4
      have e : readB at_ n b = (none, 1) := by unfold readB; rw [if_pos (.inr (.inl z4))]
      rw [e]
      clear e
      go_enter Try.func36, Try.ntmps36
      go_wp2_with fail
      go_quiet (fail)
      go_wp2_with fail
      go_ret
      exact ⟨rfl, _, HZ.out.drewN _, rfl, (Only.refl _ _).drewN _⟩
    · have d4 : decide (n < 0) = false := decide_eq_false z4
      obtain ⟨a, rfl⟩ : ∃ a : Nat, at_ = a := ⟨at_.toNat, by omega⟩
      obtain ⟨m, rfl⟩ : ∃ m : Nat, n = m := ⟨n.toNat, by omega⟩
      by_cases z5 : L < a
      · have d5 : decide ((L : Int) < a) = true := decide_eq_true (by omega)
        have d5' : decide (L < a) = true := decide_eq_true z5
        have e : readB a m b = (none, 1) := by unfold readB; rw [hL, if_pos (.inr (.inr (.inl (by omega))))]
        rw [e]
        clear e
        go_enter Try.func36, Try.ntmps36
        go_wp2_with fail
        go_quiet (fail)
        go_wp2_with fail
        go_ret
        exact ⟨rfl, _, HZ.out.drewN _, rfl, (Only.refl _ _).drewN _⟩
      · have d5 : decide ((L : Int) < a) = false := decide_eq_false (by omega)
        have d5' : decide (L < a) = false := decide_eq_false z5
        have g1 : IntKind.i64.wrap ((L : Int) - a) = (L : Int) - a := IntWalk.i64_in _ (by omega)
        by_cases z6 : (L : Int) - a < m
        · have d6 : decide ((L : Int) - a < m) = true := decide_eq_true z6
          have e : readB a m b = (none, 1) := by unfold readB; rw [hL, if_pos (.inr (.inr (.inr z6)))]
          rw [e]
          clear e
          go_enter Try.func36, Try.ntmps36
          go_wp2_with fail
          go_quiet (fail)
          go_wp2_with fail
          go_ret
          exact ⟨rfl, _, HZ.out.drewN _, rfl, (Only.refl _ _).drewN _⟩
        · have d6 : decide ((L : Int) - a < m) = false := decide_eq_false z6
          have e : readB a m b = (some ((b.bytes.drop a).take m), 0) := by unfold readB; rw [hL, if_neg (by omega)]; simp
          rw [e]
          clear e
          go_enter Try.func36, Try.ntmps36
          go_wp2_with fail
          go_quiet (fail)
          go_wp2_with fail
          have CL := fun W A c (hs : Src W 1 (some A) m (byteCells ((b.bytes.drop a).take m))) => Lib.hid (clone_any W A c ((b.bytes.drop a).take m) m (by simp; omega) hs (by omega))
          have hsrc : ∀ N, Src (w.drewN N) 1 (some ⟨y, a, none⟩) m (byteCells ((b.bytes.drop a).take m)) := fun N => by
            refine ⟨by simp [byteCells]; omega, .inr ⟨_, rfl, fun j q hq => ?_⟩⟩
            have := (KY.out.drewN N).cell (a + j)
            rw [Addr.add_lit, this]
            have hj : j < m := by
              have := (List.getElem?_eq_some_iff.1 hq).1
              simp [byteCells] at this
              omega
            unfold byteCells at hq ⊢
            rw [List.getElem?_map, List.getElem?_take_of_lt hj, List.getElem?_drop] at hq
            rw [List.getElem?_map]
            exact hq
          have HSRC := Lib.hid hsrc
          have g2 : IntKind.i64.wrap ((a : Int) + m) = ((a + m : Nat) : Int) := by rw [IntWalk.i64_in _ (by omega)]; simp
          clear hsrc
          by_cases hLa : L = a
          · subst hLa
            obtain rfl : m = 0 := by omega
            have hv0 : w.cell? ⟨v, 0, none⟩ = some (.int .i64 0) := hv
            have g3 : IntKind.i64.wrap (L : Int) = L := IntWalk.i64_in _ (by omega)
            clear g2
            have s0 : ∀ N, Src (w.drewN N) 1 (some ⟨y, 0, none⟩) 0 (byteCells ((b.bytes.drop L).take 0)) := fun N => ⟨by simp [byteCells], .inl rfl⟩
            go_region_with (go_at_call 37; (with_reducible refine Calls.mono (CL _ _ _ (s0 _)).out ?_); rintro e w1 ⟨r, rfl, hr, hb1, hown⟩; obtain ⟨A3, c3, rfl, -⟩ := hr.shape; have bz := (HZ.out.drewN _).below hb1 zlt; have zf1 : w1.frozen? ⟨z, 0, none⟩ = false := bz.free 0; have zlt1 := bz.lt; have z0 : w1.cell? ⟨z, 0, none⟩ = some (.slice none 0 0) := bz.cell 0; have BZ := Lib.hid bz; have HR := Lib.hid hr; have HB := Lib.hid hb1; have OWN := Lib.hid hown; clear bz hr hb1 hown)
            all_goals
              go_wp2_with fail
              go_ret
              have hl9 : ((b.bytes.drop L).take 0).length = 0 := by simp
              exact ⟨rfl, read_tail HZ.out HR.out HB.out OWN.out hl9⟩
          · have hLa2 : ¬ (L - a = 0) := by omega
            go_region_with (go_at_call 37; (with_reducible refine Calls.mono (CL _ _ _ (HSRC.out _)).out ?_); rintro e w1 ⟨r, rfl, hr, hb1, hown⟩; obtain ⟨A3, c3, rfl, -⟩ := hr.shape; have bz := (HZ.out.drewN _).below hb1 zlt; have zf1 : w1.frozen? ⟨z, 0, none⟩ = false := bz.free 0; have zlt1 := bz.lt; have z0 : w1.cell? ⟨z, 0, none⟩ = some (.slice none 0 0) := bz.cell 0; have BZ := Lib.hid bz; have HR := Lib.hid hr; have HB := Lib.hid hb1; have OWN := Lib.hid hown; clear bz hr hb1 hown)
            all_goals
              go_wp2_with fail
              go_ret
              have hl9 : ((b.bytes.drop a).take m).length = m := by simp; omega
              exact ⟨rfl, read_tail HZ.out HR.out HB.out OWN.out hl9⟩
end Go.Proofs.Ytajcjepolfmhmaa
