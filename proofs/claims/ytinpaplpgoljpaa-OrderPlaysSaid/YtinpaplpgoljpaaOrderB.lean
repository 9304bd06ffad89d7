/- Layer 18 (order): a queue in memory; where a number stands. -/
import Derived.Test.YtinpaplpgoljpaaOrder
namespace Go.Proofs.Ytinpaplpgoljpaa
open Go.RowKit
set_option linter.unusedVariables false
set_option linter.unusedSimpArgs false
/-- Where the first one stands of which P is told; -1: nowhere. -/
def idxB (P : Wt → Bool) (l : List Wt) : Int := match l.findIdx? P with
  | some i => i
  | none => -1
theorem idxB_at {P : Wt → Bool} {l : List Wt} {i : Nat} {x : Wt} (h : l[i]? = some x) (hp : P x = true) (hno : ∀ (j : Nat) y, j < i → l[j]? = some y → P y = false) : idxB P l = i := by
  obtain ⟨hi, e⟩ := List.getElem?_eq_some_iff.1 h
  unfold idxB
  rw [(List.findIdx?_eq_some_iff_getElem (p := P)).2 ⟨hi, by rw [e]; exact hp, fun j hj => by simpa using hno j _ hj (List.getElem?_eq_getElem (by omega))⟩]
theorem idxB_no {P : Wt → Bool} {l : List Wt} (hno : ∀ (j : Nat) y, l[j]? = some y → P y = false) : idxB P l = -1 := by
  unfold idxB
  rw [List.findIdx?_eq_none_iff.2 (fun y hy => by obtain ⟨j, hj, e⟩ := List.mem_iff_getElem.1 hy; exact hno j y (by rw [← e]; exact List.getElem?_eq_getElem hj))]
theorem idxB_some {P : Wt → Bool} {l : List Wt} {i : Nat} (h : idxB P l = i) : ∃ x, l[i]? = some x ∧ P x = true ∧ ∀ (j : Nat) y, j < i → l[j]? = some y → P y = false := by
  unfold idxB at h
  cases e : l.findIdx? P with
  | none => rw [e] at h; simp only at h; omega
  | some k =>
    rw [e] at h
    simp only at h
    obtain rfl : k = i := by omega
    obtain ⟨hi, h1, h2⟩ := (List.findIdx?_eq_some_iff_getElem).1 e
    refine ⟨l[k], List.getElem?_eq_getElem hi, h1, fun j y hj hy => ?_⟩
    obtain ⟨h3, h4⟩ := List.getElem?_eq_some_iff.1 hy
    have := h2 j hj
    rw [h4] at this
    simpa using this
theorem idxB_cases (P : Wt → Bool) (l : List Wt) : (idxB P l = -1 ∧ ∀ x ∈ l, P x = false) ∨ ∃ i : Nat, idxB P l = i ∧ i < l.length := by
  unfold idxB
  cases e : l.findIdx? P with
  | none =>
    rw [List.findIdx?_eq_none_iff] at e
    exact .inl ⟨rfl, fun x hx => e x hx⟩
  | some k =>
    obtain ⟨hi, h1, h2⟩ := (List.findIdx?_eq_some_iff_getElem).1 e
    exact .inr ⟨k, rfl, hi⟩
/-- Where a queue lies. -/
structure Qp where
  q : Nat
  v : Value
def Qp.all (Q : Qp) (g : Nat) : Prop := g = Q.q ∨ Q.v.ownBlock = some g
structure IsQ (w : World) (Q : Qp) (l : List Wt) (h : Int) (d : Bool) : Prop where
  blk : Blk w Q.q 53 [Q.v, .int .i64 h, .bool d]
  row : Slc w 30 3 Q.v l.length (flatW l)
  len : l.length ≤ 64
section
variable {w w' : World} {Q : Qp} {l : List Wt} {h : Int} {d : Bool} {F : Nat → Prop}
theorem IsQ.lt (k : IsQ w Q l h d) {g : Nat} (hg : Q.all g) : g < w.heap.size := hg.elim (fun e => e ▸ k.blk.lt) (fun e => k.row.lt e)
theorem IsQ.only (k : IsQ w Q l h d) (o : Only F w w') (hF : ∀ g, F g → ¬ Q.all g) : IsQ w' Q l h d := ⟨k.blk.only o fun f => hF _ f (.inl rfl), k.row.only o fun g hg f => hF _ f (.inr hg), k.len⟩
theorem IsQ.below (k : IsQ w Q l h d) (o : Below w.heap.size w w') : IsQ w' Q l h d := ⟨k.blk.below o k.blk.lt, k.row.below o fun g hg => k.row.lt hg, k.len⟩
theorem IsQ.alloc (k : IsQ w Q l h d) (o : Obj) : IsQ (w.alloc o) Q l h d := k.below ((Below.refl _ _).alloc (Nat.le_refl _) _)
theorem IsQ.drewN (k : IsQ w Q l h d) (n : Nat) : IsQ (w.drewN n) Q l h d := ⟨k.blk.drewN n, k.row.drewN n, k.len⟩
end
def RelJ (w : World) (n : Nat) (P : Wt → Bool) (l : List Wt) (iv : Value) (wr : World) : Prop := ∃ i : Nat, iv = .int .i64 i ∧ i ≤ n ∧ (∀ (j : Nat) y, j < i → l[j]? = some y → P y = false) ∧ Below w.heap.size w wr
set_option maxHeartbeats 1000000 in
theorem index_place (w : World) (A : Option Addr) (n c : Nat) (l : List Wt) (hs : Slc w 30 3 (.slice A n c) n (flatW l)) (hn : n ≤ 64) (P : Wt → Bool) (cap : Array Value)
    (H : ∀ W x, x ∈ l → Below w.heap.size w W → Calls Try.prog 38 (#[wv x] ++ cap) W fun e w' => e = .returned (.bool (P x)) ∧ Below W.heap.size W w') :
    Calls Try.prog 37 #[.slice A n c, .func (.func 38) #[] cap] w fun e w' => e = .returned (.int .i64 (idxB P l)) ∧ Below w.heap.size w w' := by
  have HS := Lib.hid hs
  have HL := Lib.hid hs.wlen
  have HH := Lib.hid H
  clear hs H
  go_enter Try.func37, Try.ntmps37
  go_wp2_with fail
  go_loopw [8] (fun iv wr => Hid (RelJ w n P l iv wr)) (fun iv _ => (n - intOf iv).toNat)
  case atStart => exact ⟨0, rfl, by omega, fun j y hj => by omega, Below.refl _ _⟩
  case round =>
    obtain ⟨i, rfl, hi, hno, hb⟩ := hrel
    have NO := Lib.hid hno
    have HB := Lib.hid hb
    clear hno hb
    by_cases hin : i < n
    · have hin2 : (i : Int) < n := by omega
      obtain ⟨x, hx⟩ : ∃ x, l[i]? = some x := ⟨_, List.getElem?_eq_getElem (by have := HL.out; omega)⟩
      obtain ⟨g, off, c', ev, -, hlt, c0, c1, c2⟩ := HS.out.wat hx
      simp only [Value.slice.injEq] at ev
      obtain ⟨rfl, -, -⟩ := ev
      have c0 := (HB.out.cell (p := ⟨g, off + i * 3, none⟩) hlt).trans c0
      have c1 := (HB.out.cell (p := ⟨g, off + i * 3 + 1, none⟩) hlt).trans c1
      have c2 := (HB.out.cell (p := ⟨g, off + i * 3 + 2, none⟩) hlt).trans c2
      have CL := Lib.hid (HH.out wr x (List.mem_of_getElem? hx) HB.out)
      have HX := Lib.hid hx
      clear hx
      cases hp : P x with
      | true =>
        have R := Lib.hid (idxB_at HX.out hp NO.out)
        rw [hp] at CL
        unfold wv at CL
        clear hp
        go_wp2_with (go_at_call 38; (with_reducible refine Calls.mono CL.out ?_); rintro e w' ⟨rfl, b1⟩; have B1 := Lib.hid (Below.next HB.out b1); clear b1)
        go_ret
        exact ⟨ret1 R.out.symm, B1.out⟩
      | false =>
        have NO2 := Lib.hid (fun (j : Nat) (y : Wt) (hj : j < i + 1) (hy : l[j]? = some y) => show P y = false from by
          by_cases e : j = i
          · subst e
            have := HX.out
            rw [hy] at this
            injection this with this
            rw [this]; exact hp
          · exact NO.out j y (by omega) hy)
        rw [hp] at CL
        unfold wv at CL
        clear hp
        go_wp2_with (go_at_call 38; (with_reducible refine Calls.mono CL.out ?_); rintro e w' ⟨rfl, b1⟩; have B1 := Lib.hid (Below.next HB.out b1); clear b1)
        go_roundw
        case rel => exact ⟨i + 1, by go_num, by omega, NO2.out, B1.out⟩
        case measure => simp [intOf]; omega
    · obtain rfl : i = n := by omega
      have hin2 : ¬ (i : Int) < i := by omega
      have R := Lib.hid (idxB_no (P := P) (l := l) (fun j y hy => NO.out j y (by have := (List.getElem?_eq_some_iff.1 hy).1; have := HL.out; omega) hy))
      go_wp2_with fail
      go_ret
      exact ⟨ret1 R.out.symm, HB.out⟩
def RelK (w : World) (n : Nat) (P : Wt → Bool) (l : List Wt) (iv : Value) (wr : World) : Prop := ∃ i : Nat, iv = .int .i64 i ∧ i ≤ n ∧ (∀ (j : Nat) y, j < i → l[j]? = some y → P y = false) ∧ Below w.heap.size w wr
set_option maxHeartbeats 1000000 in
theorem index_above (w : World) (A : Option Addr) (n c : Nat) (l : List Wt) (hs : Slc w 30 3 (.slice A n c) n (flatW l)) (hn : n ≤ 64) (P : Wt → Bool) (cap : Array Value)
    (H : ∀ W x, x ∈ l → Below w.heap.size w W → Calls Try.prog 50 (#[wv x] ++ cap) W fun e w' => e = .returned (.bool (P x)) ∧ Below W.heap.size W w') :
    Calls Try.prog 37 #[.slice A n c, .func (.func 50) #[] cap] w fun e w' => e = .returned (.int .i64 (idxB P l)) ∧ Below w.heap.size w w' := by
  have HS := Lib.hid hs
  have HL := Lib.hid hs.wlen
  have HH := Lib.hid H
  clear hs H
  go_enter Try.func37, Try.ntmps37
  go_wp2_with fail
  go_loopw [8] (fun iv wr => Hid (RelK w n P l iv wr)) (fun iv _ => (n - intOf iv).toNat)
  case atStart => exact ⟨0, rfl, by omega, fun j y hj => by omega, Below.refl _ _⟩
  case round =>
    obtain ⟨i, rfl, hi, hno, hb⟩ := hrel
    have NO := Lib.hid hno
    have HB := Lib.hid hb
    clear hno hb
    by_cases hin : i < n
    · have hin2 : (i : Int) < n := by omega
      obtain ⟨x, hx⟩ : ∃ x, l[i]? = some x := ⟨_, List.getElem?_eq_getElem (by have := HL.out; omega)⟩
      obtain ⟨g, off, c', ev, -, hlt, c0, c1, c2⟩ := HS.out.wat hx
      simp only [Value.slice.injEq] at ev
      obtain ⟨rfl, -, -⟩ := ev
      have c0 := (HB.out.cell (p := ⟨g, off + i * 3, none⟩) hlt).trans c0
      have c1 := (HB.out.cell (p := ⟨g, off + i * 3 + 1, none⟩) hlt).trans c1
      have c2 := (HB.out.cell (p := ⟨g, off + i * 3 + 2, none⟩) hlt).trans c2
      have CL := Lib.hid (HH.out wr x (List.mem_of_getElem? hx) HB.out)
      have HX := Lib.hid hx
      clear hx
      cases hp : P x with
      | true =>
        have R := Lib.hid (idxB_at HX.out hp NO.out)
        rw [hp] at CL
        unfold wv at CL
        clear hp
        go_wp2_with (go_at_call 50; (with_reducible refine Calls.mono CL.out ?_); rintro e w' ⟨rfl, b1⟩; have B1 := Lib.hid (Below.next HB.out b1); clear b1)
        go_ret
        exact ⟨ret1 R.out.symm, B1.out⟩
      | false =>
        have NO2 := Lib.hid (fun (j : Nat) (y : Wt) (hj : j < i + 1) (hy : l[j]? = some y) => show P y = false from by
          by_cases e : j = i
          · subst e
            have := HX.out
            rw [hy] at this
            injection this with this
            rw [this]; exact hp
          · exact NO.out j y (by omega) hy)
        rw [hp] at CL
        unfold wv at CL
        clear hp
        go_wp2_with (go_at_call 50; (with_reducible refine Calls.mono CL.out ?_); rintro e w' ⟨rfl, b1⟩; have B1 := Lib.hid (Below.next HB.out b1); clear b1)
        go_roundw
        case rel => exact ⟨i + 1, by go_num, by omega, NO2.out, B1.out⟩
        case measure => simp [intOf]; omega
    · obtain rfl : i = n := by omega
      have hin2 : ¬ (i : Int) < i := by omega
      have R := Lib.hid (idxB_no (P := P) (l := l) (fun j y hy => NO.out j y (by have := (List.getElem?_eq_some_iff.1 hy).1; have := HL.out; omega) hy))
      go_wp2_with fail
      go_ret
      exact ⟨ret1 R.out.symm, HB.out⟩
theorem place1_any (x : Wt) (id : Int) (w : World) (u : Nat) (hu : Blk w u 3 [.int .i64 id]) : Calls Try.prog 38 #[wv x, .pointer (some ⟨u, 0, none⟩)] w fun e w' => e = .returned (.bool (x.id == id)) ∧ Below w.heap.size w w' := by
  have u0 : w.cell? ⟨u, 0, none⟩ = some (.int .i64 id) := hu.cell 0
  have ul := hu.lt
  clear hu
  unfold wv
  go_enter Try.func38, Try.ntmps38
  go_wp2_with fail
  go_ret
  exact ⟨rfl, (Below.refl _ _).alloc (Nat.le_refl _) _⟩
theorem place_any {w : World} {Q : Qp} {l : List Wt} {h : Int} {d : Bool} (k : IsQ w Q l h d) (id : Int) :
    Calls Try.prog 25 #[.pointer (some ⟨Q.q, 0, none⟩), .int .i64 id] w fun e w' => e = .returned (.int .i64 (idxB (fun x => x.id == id) l)) ∧ Below w.heap.size w w' := by
  have hmf : ∀ (fn : Fn) (first cap : Array Value) (w : World), (Instr.makeFunc fn first cap).run Try.prog w = .ok (.func fn first cap) w := fun _ _ _ _ => rfl
  have c0 : w.cell? ⟨Q.q, 0, none⟩ = some Q.v := k.blk.cell 0
  have hq := k.blk.lt
  obtain ⟨A, c, ev, -⟩ := k.row.shape
  have bw : Below w.heap.size w (w.alloc (.cells #[.int .i64 id] 3)) := (Below.refl _ _).alloc (Nat.le_refl _) _
  have box := Blk.new w 3 [.int .i64 id]
  have row := (k.row.alloc (.cells #[.int .i64 id] 3))
  rw [ev] at c0 row
  have D := Lib.hid (index_place _ A l.length c l row k.len (fun x => x.id == id) #[.pointer (some ⟨w.heap.size, 0, none⟩)] (fun W x _ hb => place1_any x id W w.heap.size (box.below hb (by simp))))
  have BW := Lib.hid bw
  clear k bw box row ev
  go_enter Try.func25, Try.ntmps25
  go_wp2_with (go_at_call 37; (with_reducible refine Calls.mono D.out ?_); rintro e w' ⟨rfl, b1⟩; have B1 := Lib.hid (Below.next BW.out b1); clear b1)
  go_ret
  exact ⟨rfl, B1.out⟩
end Go.Proofs.Ytinpaplpgoljpaa
