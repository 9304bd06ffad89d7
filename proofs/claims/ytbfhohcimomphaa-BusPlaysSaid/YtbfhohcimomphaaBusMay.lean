/- Layer 6 (bus): whether a master may be; a new bus. -/
import Derived.Test.YtbfhohcimomphaaBusE
import Derived.Deep.RegionLaw
import Derived.Deep.OwnRows
namespace Go.Proofs.Ytbfhohcimomphaa
open Go.RowKit
set_option linter.unusedVariables false
set_option linter.unusedSimpArgs false
structure Mp.rng (m : Mp) : Prop where
  q0 : -9223372036854775808 ≤ m.q
  q1 : m.q ≤ 9223372036854775807
  u0 : -9223372036854775808 ≤ m.u
  u1 : m.u ≤ 9223372036854775807
  b0 : 0 ≤ m.b
  b1 : m.b ≤ 18446744073709551615
  p0 : 0 ≤ m.p
  p1 : m.p ≤ 18446744073709551615
def mayBu (m : Mp) : Bool := decide (0 ≤ m.q ∧ m.q ≤ 100 ∧ 0 ≤ m.u ∧ m.u ≤ 1000) && mayM m.b m.p
theorem mayBu_ok {m : Mp} : mayBu m = true ↔ m.ok := by
  unfold mayBu
  simp
  constructor
  · rintro ⟨⟨h1, h2, h3, h4⟩, h5⟩; exact ⟨h1, h2, h3, h4, h5⟩
  · rintro ⟨h1, h2, h3, h4, h5⟩; exact ⟨⟨h1, h2, h3, h4⟩, h5⟩
theorem Mp.ok.rng {m : Mp} (h : m.ok) : m.rng := by
  obtain ⟨h1, h2, h3, h4, h5⟩ := h
  obtain ⟨m1, m2, m3, m4⟩ := mayM_iff.1 h5
  constructor <;> omega
set_option maxHeartbeats 1000000 in
theorem mayBu_any (m : Mp) (r : m.rng) (w : World) :
    Calls Try.prog 15 #[.agg #[.int .i64 m.q, .int .i64 m.u, .int .u64 m.b, .int .u64 m.p]] w fun e w' => e = .returned (.bool (mayBu m)) ∧ Below w.heap.size w w' := by
  have M := fun W => Lib.hid (maym_any m.b m.p W r.b0 r.b1 r.p0 r.p1)
  have hm : mayBu m = (decide (0 ≤ m.q ∧ m.q ≤ 100 ∧ 0 ≤ m.u ∧ m.u ≤ 1000) && mayM m.b m.p) := rfl
  rw [hm]
  clear hm r
  generalize mayM m.b m.p = mb at *
  obtain ⟨q, u, b, p⟩ := m
  simp only at *
  by_cases a1 : 0 ≤ q
  · have e1 : decide (0 ≤ q) = true := decide_eq_true a1
    by_cases a2 : q ≤ 100
    · have e2 : decide (q ≤ 100) = true := decide_eq_true a2
      by_cases a3 : 0 ≤ u
      · have e3 : decide (0 ≤ u) = true := decide_eq_true a3
        by_cases a4 : u ≤ 1000
        · have e4 : decide (u ≤ 1000) = true := decide_eq_true a4
          rw [decide_eq_true (show 0 ≤ q ∧ q ≤ 100 ∧ 0 ≤ u ∧ u ≤ 1000 from ⟨a1, a2, a3, a4⟩)]
          go_enter Try.func15, Try.ntmps15
          go_wp2_with (go_at_call 30; (with_reducible refine Calls.mono (M _).out ?_); rintro e w1 ⟨rfl, b1⟩; have B1 := Lib.hid b1; clear b1)
          go_ret
          exact ⟨retb (by simp), Below.next ((Below.refl _ _).alloc (Nat.le_refl _) _) B1.out⟩
        · have e4 : decide (u ≤ 1000) = false := decide_eq_false a4
          rw [decide_eq_false (show ¬ (0 ≤ q ∧ q ≤ 100 ∧ 0 ≤ u ∧ u ≤ 1000) from fun h => a4 h.2.2.2)]
          go_enter Try.func15, Try.ntmps15
          go_wp2_with fail
          go_ret
          exact ⟨retb (by simp), (Below.refl _ _).alloc (Nat.le_refl _) _⟩
      · have e3 : decide (0 ≤ u) = false := decide_eq_false a3
        rw [decide_eq_false (show ¬ (0 ≤ q ∧ q ≤ 100 ∧ 0 ≤ u ∧ u ≤ 1000) from fun h => a3 h.2.2.1)]
        go_enter Try.func15, Try.ntmps15
        go_wp2_with fail
        go_ret
        exact ⟨retb (by simp), (Below.refl _ _).alloc (Nat.le_refl _) _⟩
    · have e2 : decide (q ≤ 100) = false := decide_eq_false a2
      rw [decide_eq_false (show ¬ (0 ≤ q ∧ q ≤ 100 ∧ 0 ≤ u ∧ u ≤ 1000) from fun h => a2 h.2.1)]
      go_enter Try.func15, Try.ntmps15
      go_wp2_with fail
      go_ret
      exact ⟨retb (by simp), (Below.refl _ _).alloc (Nat.le_refl _) _⟩
  · have e1 : decide (0 ≤ q) = false := decide_eq_false a1
    rw [decide_eq_false (show ¬ (0 ≤ q ∧ q ≤ 100 ∧ 0 ≤ u ∧ u ≤ 1000) from fun h => a1 h.1)]
    go_enter Try.func15, Try.ntmps15
    go_wp2_with fail
    go_ret
    exact ⟨retb (by simp), (Below.refl _ _).alloc (Nat.le_refl _) _⟩
/-- Masters, one behind the other. -/
def Mps (w : World) (A : Option Addr) (L : List Mp) : Prop :=
  ∀ i m, L[i]? = some m → ∃ b off, A = some ⟨b, off, none⟩ ∧ b < w.heap.size ∧ w.cell? ⟨b, off + i * 4, none⟩ = some (.int .i64 m.q) ∧ w.cell? ⟨b, off + i * 4 + 1, none⟩ = some (.int .i64 m.u) ∧ w.cell? ⟨b, off + i * 4 + 2, none⟩ = some (.int .u64 m.b) ∧ w.cell? ⟨b, off + i * 4 + 3, none⟩ = some (.int .u64 m.p)
theorem Mps.below {w w' : World} {A : Option Addr} {L : List Mp} (h : Mps w A L) (o : Below w.heap.size w w') : Mps w' A L := by
  intro i m hm
  obtain ⟨b, off, e, hb, h0, h1, h2, h3⟩ := h i m hm
  have k := fun j => o.cell (p := ⟨b, j, none⟩) hb
  exact ⟨b, off, e, Nat.lt_of_lt_of_le hb o.size, (k _).trans h0, (k _).trans h1, (k _).trans h2, (k _).trans h3⟩
def newB (L : List Mp) (ph : Int) (i : Nat) : Bu := ⟨L.take i, (L.take i).map fun m => ⟨m.b, m.p, ph, ph, 0, 0⟩, List.replicate 16 0, false, 0, ph, -1, 0⟩
def RelN1 (w : World) (L : List Mp) (p : Nat) (cs : List Value) (iv : Value) (wr : World) : Prop := ∃ i : Nat, iv = .int .i64 i ∧ i ≤ L.length ∧ Blk wr p 65 cs ∧ Below w.heap.size w wr
def RelN2 (w : World) (L : List Mp) (ph : Int) (p : Nat) (iv : Value) (wr : World) : Prop := ∃ (i : Nat) (A : Bl), iv = .int .i64 i ∧ i ≤ L.length ∧ A.p = p ∧ IsB wr A (newB L ph i) ∧ (∀ a, A.all a → w.heap.size ≤ a) ∧ Below w.heap.size w wr
def MadeB (w : World) (L : List Mp) (ph : Int) (e : Ending) (w' : World) : Prop := ∃ A, e = .returned (.tuple #[.pointer (some ⟨A.p, 0, none⟩), .int .i64 0]) ∧ IsB w' A (newB L ph L.length) ∧ (∀ a, A.all a → w.heap.size ≤ a) ∧ Below w.heap.size w w'
theorem infoMa : (Try.prog.info? 41).map (fun i => (i.zero, i.size, i.bytes)) = some (some (.agg #[.int .i64 0, .int .i64 0, .int .u64 0, .int .u64 0]), 4, 32) := by kernel_rfl
theorem infoMt : (Try.prog.info? 67).map (fun i => (i.zero, i.size, i.bytes)) = some (some (.pointer none), 1, 8) := by kernel_rfl
theorem Src.block {w : World} {g : Nat} {t : TypeId} {cs : List Value} (k : Blk w g t cs) {size m : Nat} (h : cs.length = m * size) : Src w size (some ⟨g, 0, none⟩) m cs := by
  refine ⟨h, .inr ⟨_, rfl, fun j u hu => ?_⟩⟩
  have e : (⟨g, 0, none⟩ : Addr).add j = ⟨g, j, none⟩ := by cases j <;> simp [Addr.add]
  rw [e, k.cell j]
  exact hu
theorem slcBlk {w : World} {e : TypeId} {size n : Nat} {v : Value} {xs : List Value} (h : Slc w e size v n xs) {g : Nat} (hg : v.ownBlock = some g) : ∃ cs, Blk w g e cs := by
  rcases h.2 with ⟨rfl, _⟩ | ⟨g', off, c, cs, rfl, hh, _⟩
  · simp [Value.ownBlock] at hg
  · simp [Value.ownBlock] at hg; subst hg; exact ⟨cs.toList, hh⟩
theorem IsB.push {w1 W : World} {A : Bl} {L : List Mp} {ph : Int} {i : Nat} {m : Mp} {x : Nat} {v1 u1 : Value} {F : Nat → Prop}
    (k : IsB w1 A (newB L ph i)) (hm : L[i]? = some m) (kx : IsM w1 x ⟨m.b, m.p, ph, ph, 0, 0⟩) (hx : x ∉ A.xs)
    (hblk : Blk W A.p 65 (((buHead A (newB L ph i).S ++ buTail (newB L ph i)).set 0 v1).set 1 u1))
    (hv : Slc W 41 4 v1 (i + 1) (flatM (L.take i) ++ mpCells m)) (hu : Slc W 67 1 u1 (i + 1) (A.xs.map mptr ++ [mptr x]))
    (o : Only F w1 W) (hF : ∀ a, F a → a ∉ A.xs ∧ a ≠ x) : IsB W ⟨A.p, v1, u1, A.xs ++ [x]⟩ (newB L ph (i + 1)) := by
  have ht : L.take (i + 1) = L.take i ++ [m] := by rw [List.take_add_one, hm]; rfl
  have hi := (List.getElem?_eq_some_iff.1 hm).1
  have hl : (L.take i).length = i := by rw [List.length_take]; omega
  have hxl : A.xs.length = i := k.lx.trans hl
  refine ⟨hblk, by simp [newB], ?_, ?_, ?_, ?_, ?_, ?_⟩
  · show Slc W _ 4 v1 (L.take (i + 1)).length (flatM (L.take (i + 1)))
    rw [ht, show flatM (L.take i ++ [m]) = flatM (L.take i) ++ mpCells m from by simp [flatM], List.length_append, hl]
    exact hv
  · show Slc W _ 1 u1 (L.take (i + 1)).length ((A.xs ++ [x]).map mptr)
    rw [ht, List.map_append, List.length_append, hl]
    exact hu
  · simp [newB]
  · show (A.xs ++ [x]).length = (L.take (i + 1)).length
    rw [ht, List.length_append, List.length_append, hl, hxl]; rfl
  · intro j y s hy hs
    have hs' : ((L.take i ++ [m]).map fun m => (⟨m.b, m.p, ph, ph, 0, 0⟩ : Ms))[j]? = some s := by rw [← ht]; exact hs
    rw [List.map_append] at hs'
    have hy' : (A.xs ++ [x])[j]? = some y := hy
    by_cases hj : j < i
    · rw [List.getElem?_append_left (by rw [hxl]; exact hj)] at hy'
      rw [List.getElem?_append_left (by rw [List.length_map, hl]; exact hj)] at hs'
      exact Blk.only (k.met j y s hy' hs') o fun f => (hF _ f).1 (List.mem_of_getElem? hy')
    · rw [List.getElem?_append_right (by rw [hxl]; omega), hxl] at hy'
      rw [List.getElem?_append_right (by rw [List.length_map, hl]; omega), List.length_map, hl] at hs'
      have hj2 : j - i = 0 := by
        have := (List.getElem?_eq_some_iff.1 hy').1
        simp at this
        omega
      rw [hj2] at hy' hs'
      simp at hy' hs'
      subst hy' hs'
      exact Blk.only kx o fun f => (hF _ f).2 rfl
  · show (A.xs ++ [x]).Nodup
    rw [List.nodup_append]
    exact ⟨k.nx, by simp, fun a ha b hb e => by simp at hb; subst hb; subst e; exact hx ha⟩
theorem newb_rel {w wr w1 wl W : World} {A : Bl} {L : List Mp} {ph : Int} {i : Nat} {m : Mp} {x : Nat} {v1 u1 iv : Value} {G : Nat → Prop}
    (kr : IsB wr A (newB L ph i)) (k1 : IsB w1 A (newB L ph i)) (hAp : A.p = w.heap.size) (hm : L[i]? = some m) (kx : IsM w1 x ⟨m.b, m.p, ph, ph, 0, 0⟩) (hx : wr.heap.size ≤ x)
    (hG : ∀ g, G g → A.v.ownBlock = some g ∨ A.u.ownBlock = some g) (bel : Below w.heap.size w wr) (b1 : Below wr.heap.size wr w1) (low : ∀ a, A.all a → w.heap.size ≤ a) (og : Only G w1 wl)
    (hW : W = (wl.setCell ⟨w.heap.size, 0, none⟩ v1).setCell ⟨w.heap.size, 1, none⟩ u1 ∨ W = (wl.setCell ⟨w.heap.size, 1, none⟩ u1).setCell ⟨w.heap.size, 0, none⟩ v1)
    (hv : Slc wl 41 4 v1 (i + 1) (flatM (L.take i) ++ mpCells m)) (hu : Slc wl 67 1 u1 (i + 1) (A.xs.map mptr ++ [mptr x]))
    (sv : v1.ownBlock = A.v.ownBlock ∨ ∃ g, w1.heap.size ≤ g ∧ v1.ownBlock = some g) (su : u1.ownBlock = A.u.ownBlock ∨ ∃ g, w1.heap.size ≤ g ∧ u1.ownBlock = some g)
    (hiv : iv = .int .i64 ((i + 1 : Nat) : Int)) : RelN2 w L ph w.heap.size iv W := by
  have hi := (List.getElem?_eq_some_iff.1 hm).1
  have hpl := k1.blk.lt
  have hGp : ¬ G A.p := fun h => by
    rcases hG _ h with h | h
    · exact k1.list.ne k1.blk (by decide) h
    · exact k1.row.ne k1.blk (by decide) h
  have kp := k1.blk.only og hGp
  have nv : v1.ownBlock ≠ some A.p := by
    rcases sv with e | ⟨g, hg, e⟩
    · rw [e]; exact k1.list.ne k1.blk (by decide)
    · rw [e]; intro h; cases h; omega
  have nu : u1.ownBlock ≠ some A.p := by
    rcases su with e | ⟨g, hg, e⟩
    · rw [e]; exact k1.row.ne k1.blk (by decide)
    · rw [e]; intro h; cases h; omega
  have hxA : x ∉ A.xs := fun h => by
    have := kr.lt (i := x) (.inl (.inr h))
    omega
  have sz := bel.size
  have hWl : Only (fun g => g = A.p) wl W := by
    rcases hW with rfl | rfl <;> rw [← hAp] <;> refine Only.setCell (F := fun g => g = A.p) (Only.setCell (F := fun g => g = A.p) (Only.refl _ _) (fun _ => rfl) _) (fun _ => rfl) _
  have o : Only (fun g => G g ∨ g = A.p) w1 W := Only.trans (Only.mono og fun _ _ h => Or.inl h) hWl fun _ _ h => Or.inr h
  have hb : Blk W A.p 65 (((buHead A (newB L ph i).S ++ buTail (newB L ph i)).set 0 v1).set 1 u1) := by
    rcases hW with rfl | rfl
    · rw [← hAp]; exact (kp.put 0 v1).put 1 u1
    · rw [← hAp, List.set_comm _ _ (by decide)]; exact (kp.put 1 u1).put 0 v1
  have hF : ∀ a, (G a ∨ a = A.p) → a ∉ A.xs ∧ a ≠ x := fun a h => by
    rcases h with h | rfl
    · rcases hG _ h with h | h
      · refine ⟨fun hm2 => ?_, fun e => ?_⟩
        · obtain ⟨j, hj⟩ := List.mem_iff_getElem?.1 hm2
          have hj2 : j < (newB L ph i).M.length := by rw [k1.lm, ← k1.lx]; exact (List.getElem?_eq_some_iff.1 hj).1
          exact k1.list.ne (k1.met j a _ hj (List.getElem?_eq_getElem hj2)) (by decide) h
        · subst e; exact k1.list.ne kx (by decide) h
      · refine ⟨fun hm2 => ?_, fun e => ?_⟩
        · obtain ⟨j, hj⟩ := List.mem_iff_getElem?.1 hm2
          have hj2 : j < (newB L ph i).M.length := by rw [k1.lm, ← k1.lx]; exact (List.getElem?_eq_some_iff.1 hj).1
          exact k1.row.ne (k1.met j a _ hj (List.getElem?_eq_getElem hj2)) (by decide) h
        · subst e; exact k1.row.ne kx (by decide) h
    · refine ⟨fun hm2 => ?_, fun e => ?_⟩
      · obtain ⟨j, hj⟩ := List.mem_iff_getElem?.1 hm2
        have hj2 : j < (newB L ph i).M.length := by rw [k1.lm, ← k1.lx]; exact (List.getElem?_eq_some_iff.1 hj).1
        exact Blk.ne k1.blk (k1.met j _ _ hj (List.getElem?_eq_getElem hj2)) (by decide) rfl
      · have := kr.blk.lt; omega
  have k2 := IsB.push k1 hm kx hxA hb (hv.only hWl fun g hg e => nv (by rw [hg, e])) (hu.only hWl fun g hg e => nu (by rw [hg, e])) o hF
  have lowG : ∀ g, (G g ∨ g = A.p) → w.heap.size ≤ g := fun g h => by
    rcases h with h | rfl
    · rcases hG _ h with h | h
      · exact low _ (.inr (.inl h))
      · exact low _ (.inr (.inr h))
    · exact Nat.le_of_eq hAp.symm
  have s1 := b1.size
  refine ⟨i + 1, ⟨A.p, v1, u1, A.xs ++ [x]⟩, hiv, hi, hAp, k2, fun a ha => ?_, ?_⟩
  · rcases ha with (ha | ha) | ha | ha
    · exact Nat.le_of_eq (hAp.symm.trans ha.symm)
    · rcases List.mem_append.1 (show a ∈ A.xs ++ [x] from ha) with h | h
      · exact low _ (.inl (.inr h))
      · simp at h; subst h; omega
    · rcases sv with e | ⟨g, hg, e⟩
      · exact low _ (.inr (.inl (e.symm.trans ha)))
      · have : some g = some a := e.symm.trans ha
        cases this; omega
    · rcases su with e | ⟨g, hg, e⟩
      · exact low _ (.inr (.inr (e.symm.trans ha)))
      · have : some g = some a := e.symm.trans ha
        cases this; omega
  · have b1' : Below w.heap.size wr w1 := b1.mono sz
    have b2 : Below w.heap.size w1 W := o.below (by omega) fun g hg h => by have := lowG g h; omega
    exact Below.trans (Below.trans bel b1') b2
end Go.Proofs.Ytbfhohcimomphaa
