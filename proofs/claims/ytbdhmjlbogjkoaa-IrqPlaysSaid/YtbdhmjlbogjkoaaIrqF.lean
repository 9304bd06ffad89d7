/- Layer 13 (irq): a new controller. -/
import Derived.Test.YtbdhmjlbogjkoaaIrqE
namespace Go.Proofs.Ytbdhmjlbogjkoaa
open Go.RowKit
set_option linter.unusedVariables false
set_option linter.unusedSimpArgs false
/-- A controller in the making: m lines are to come, ls are there. -/
structure PartI (w : World) (B p m : Nat) (ds : List Ad) (ls : List Ln) : Prop where
  blk : Blk w p 70 (linesOf ds ++ [.int .i64 m, .int .u64 0])
  len : ds.length = ls.length
  le : ls.length ≤ m
  le16 : m ≤ 16
  line : ∀ (i : Nat) (a : Ad) (n : Ln), ds[i]? = some a → ls[i]? = some n → IsL w a n
  nx : (ds.map Ad.x).Nodup
  ng : (ds.map Ad.g).Nodup
  nk : (ds.map Ad.k).Nodup
  low : ∀ i, ownI p ds i → B ≤ i
theorem PartI.is {w : World} {B p : Nat} {ds : List Ad} {ls : List Ln} (h : PartI w B p ls.length ds ls) : IsI w p ds ls 0 := ⟨h.blk, h.len, h.le16, h.line, h.nx, h.ng, h.nk⟩
theorem PartI.below {w w' : World} {B p m : Nat} {ds : List Ad} {ls : List Ln} (h : PartI w B p m ds ls) (o : Below w.heap.size w w') : PartI w' B p m ds ls :=
  ⟨h.blk.below o h.blk.lt, h.len, h.le, h.le16, fun i a n ha hn => (h.line i a n ha hn).below o, h.nx, h.ng, h.nk, h.low⟩
theorem nodup_snoc {l : List Nat} {b : Nat} (h : l.Nodup) (hb : ∀ x ∈ l, x ≠ b) : (l ++ [b]).Nodup := by
  refine List.nodup_append.2 ⟨h, by simp, fun x hx y hy => ?_⟩
  simp at hy
  subst hy
  exact hb x hx
theorem linesOf_snoc {ds : List Ad} {a : Ad} (h : ds.length < 16) : (linesOf ds).set ds.length (.pointer (some ⟨a.x, 0, none⟩)) = linesOf (ds ++ [a]) := by
  unfold linesOf
  rw [List.set_append_right _ _ (by simp)]
  obtain ⟨k, hk⟩ : ∃ k, 16 - ds.length = k + 1 := ⟨15 - ds.length, by omega⟩
  have hk2 : 16 - (ds ++ [a]).length = k := by simp; omega
  rw [hk, hk2, List.replicate_succ]
  simp
theorem linesOf_next {ds : List Ad} {t : List Value} {i : Nat} (h : ds.length = i) (hi : i < 16) : (linesOf ds ++ t)[i]? = some (.pointer none) := by
  have hl := linesOf_length (ds := ds) (by omega)
  rw [List.getElem?_append_left (by omega)]
  unfold linesOf
  rw [List.getElem?_append_right (by simp; omega), List.getElem?_replicate, if_pos (by simp only [List.length_map]; omega)]
/-- One line more. -/
theorem PartI.snoc {w w' : World} {B p m : Nat} {ds : List Ad} {ls : List Ln} {a : Ad} {n : Ln} (h : PartI w B p m ds ls) (hm : ls.length < m) (o : Below w.heap.size w w') (hx : w.heap.size ≤ a.x) (hg : w.heap.size ≤ a.g) (hk : w.heap.size ≤ a.k) (k : IsL w' a n) (hB : B ≤ w.heap.size) :
    PartI (w'.setCell ⟨p, ls.length, none⟩ (.pointer (some ⟨a.x, 0, none⟩))) B p m (ds ++ [a]) (ls ++ [n]) := by
  have hle := h.le16
  have hlen := h.len
  have hplt := h.blk.lt
  have old : ∀ (i : Nat) (c : Ad), ds[i]? = some c → c.x < w.heap.size ∧ c.g < w.heap.size ∧ c.k < w.heap.size := fun i c hc => by
    have hi := (List.getElem?_eq_some_iff.1 hc).1
    exact (h.line i c _ hc (List.getElem?_eq_getElem (by omega))).lt
  have oldm : ∀ c, c ∈ ds → c.x < w.heap.size ∧ c.g < w.heap.size ∧ c.k < w.heap.size := fun c hc => by
    obtain ⟨i, hi⟩ := List.mem_iff_getElem?.1 hc
    exact old i c hi
  have far : ∀ (c : Ad) (r : Ln), IsL w' c r → IsL (w'.setCell ⟨p, ls.length, none⟩ (.pointer (some ⟨a.x, 0, none⟩))) c r := fun c r kc => by
    have hb := h.blk.below o h.blk.lt
    exact ⟨kc.x.far (kc.x.ne hb (by decide)) _, Blk.far kc.g (Blk.ne kc.g hb (by decide)) _, Blk.far kc.k (Blk.ne kc.k hb (by decide)) _⟩
  refine ⟨?_, by simp [hlen], by simp; omega, hle, fun i c r hc hr => ?_, ?_, ?_, ?_, fun i hi => ?_⟩
  · have hb := (h.blk.below o h.blk.lt).put ls.length (.pointer (some ⟨a.x, 0, none⟩))
    have hl := linesOf_length (ds := ds) (by omega)
    rw [List.set_append_left _ _ (by omega), ← hlen, linesOf_snoc (by omega)] at hb
    rw [← hlen]
    exact hb
  · apply far
    by_cases e : i < ds.length
    · rw [List.getElem?_append_left e] at hc
      rw [List.getElem?_append_left (by omega)] at hr
      exact (h.line i c r hc hr).below o
    · rw [List.getElem?_append_right (by omega)] at hc
      rw [List.getElem?_append_right (by omega)] at hr
      have e2 : i - ds.length = 0 := by
        have := (List.getElem?_eq_some_iff.1 hc).1
        simp at this; omega
      have e3 : i - ls.length = 0 := by omega
      rw [e2] at hc
      rw [e3] at hr
      simp at hc hr
      subst hc hr
      exact k
  · rw [List.map_append]
    refine nodup_snoc h.nx fun x hx' => ?_
    obtain ⟨c, hc, rfl⟩ := List.mem_map.1 hx'
    have := (oldm c hc).1
    omega
  · rw [List.map_append]
    refine nodup_snoc h.ng fun x hx' => ?_
    obtain ⟨c, hc, rfl⟩ := List.mem_map.1 hx'
    have := (oldm c hc).2.1
    omega
  · rw [List.map_append]
    refine nodup_snoc h.nk fun x hx' => ?_
    obtain ⟨c, hc, rfl⟩ := List.mem_map.1 hx'
    have := (oldm c hc).2.2
    omega
  · rcases hi with rfl | ⟨c, hc, ho⟩
    · exact h.low _ (.inl rfl)
    · rcases List.mem_append.1 hc with hc | hc
      · exact h.low _ (.inr ⟨c, hc, ho⟩)
      · simp at hc
        subst hc
        rcases ho with rfl | rfl | rfl <;> omega
def RelN (w : World) (L : Nat → Lp) (m : Nat) (iv : Value) (wr : World) : Prop :=
  ∃ i : Nat, iv = .int .i64 i ∧ i ≤ m ∧ (∃ ds, PartI wr w.heap.size w.heap.size m ds (newLs L i)) ∧ Below w.heap.size w wr
def MadeI (w : World) (ls : List Ln) (e : Ending) (w' : World) : Prop := ∃ p ds, e = .returned (.tuple #[.pointer (some ⟨p, 0, none⟩), .int .i64 0]) ∧ IsI w' p ds ls 0 ∧ (∀ i, ownI p ds i → w.heap.size ≤ i) ∧ Below w.heap.size w w'
set_option maxRecDepth 100000 in
set_option maxHeartbeats 8000000 in
theorem newi_any (w : World) (A : Option Addr) (n cap : Nat) (L : Nat → Lp) (hA : Hid (Lns w A n L)) (hL : Hid (∀ i, i < n → (L i).ok)) (n1 : 1 ≤ n) (n16 : n ≤ 16) :
    Calls Try.prog 11 #[.slice A n cap] w (MadeI w (newLs L n)) := by
  have d1 : decide ((n : Int) < 1) = false := decide_eq_false (by omega)
  have d2 : decide (16 < (n : Int)) = false := decide_eq_false (by omega)
  have d3 : decide (n < 1) = false := decide_eq_false (by omega)
  have d4 : decide (16 < n) = false := decide_eq_false (by omega)
  go_enter Try.func11, Try.ntmps11
  go_wp2_with fail
  go_loopw [22] (fun iv wr => Hid (RelN w L n iv wr)) (fun iv _ => n - (intOf iv).toNat)
  case atStart => exact ⟨0, rfl, by omega, ⟨[], ⟨Blk.new w _ _, rfl, by simp [newLs], n16, fun i a n h => (by simp at h), List.nodup_nil, List.nodup_nil, List.nodup_nil, fun i h => h.elim (fun e => Nat.le_of_eq e.symm) (fun ⟨a, h, _⟩ => (by simp at h))⟩⟩, (Below.refl _ _).alloc (Nat.le_refl _) _⟩
  case round =>
    obtain ⟨i, rfl, hi, ⟨ds, kp⟩, hbel⟩ := hrel
    have BEL := Lib.hid hbel
    have KP := Lib.hid kp
    by_cases hin : i < n
    · have hi2 : (i : Int) < n := by omega
      obtain ⟨ab, ao, rfl, hlt, c0, c1, c2, c3, c4, c5⟩ := hA.out i hin
      have okl := hL.out i hin
      have q := fun j => hbel.cell (p := ⟨ab, j, none⟩) hlt
      have q0 := (q _).trans c0
      have q1 := (q _).trans c1
      have q2 := (q _).trans c2
      have q3 := (q _).trans c3
      have q4 := (q _).trans c4
      have q5 := (q _).trans c5
      have cm := fun W => mayi_any (L i) okl.rng W
      rw [mayI_of okl] at cm
      have CM := fun W => Lib.hid (cm W)
      have hok := okl
      obtain ⟨h1, h2, h3, h4, h5, h6, h7, h8, h9⟩ := okl
      obtain ⟨m1, m2, m3, m4⟩ := mayK_iff.1 h5
      have CG := fun W => Lib.hid (new_any (L i).c (L i).h W h1 h2 h3 h4)
      have CK := fun W => Lib.hid (newK_any (L i).d (L i).q W (by omega) (by omega) (by omega) (by omega) h5)
      have HN : Hid (newLs L (i + 1) = newLs L i ++ [newL (L i)]) := rfl
      have hnl : newL (L i) = ⟨L i, ⟨(L i).c, (L i).h, 0, 0, 0⟩, ⟨(L i).d, (L i).q, (L i).d, 0, 0⟩, 0, 0, false, 0, 0⟩ := rfl
      have HNL := Lib.hid hnl
      have KL := Lib.hid (Blk.new wr 24 [.int .i64 (L i).c, .int .u64 (L i).h, .int .i64 (L i).d, .int .u64 (L i).q, .int .i64 (L i).s, .int .u64 (L i).z])
      clear c0 c1 c2 c3 c4 c5 q cm hbel kp h5 hnl hok
      generalize L i = l at *
      obtain ⟨c, h, d, q, s, z⟩ := l
      simp only at *
      have HP := KP.out.blk
      have hpl : (newLs L i).length = i := newLs_length L i
      have hpw : w.heap.size < wr.heap.size := HP.lt
      have HPP := Lib.hid HP
      have HPL := Lib.hid hpl
      clear HP hpl
      go_wp2_with (first
        | (go_at_call 17; (with_reducible refine Calls.mono (CM _).out ?_); rintro e w1 ⟨rfl, b1⟩
           have k1 := Blk.below KL.out b1 KL.out.lt
           have e0 : w1.cell? ⟨wr.heap.size, 0, none⟩ = some (.int .i64 c) := k1.cell 0
           have e1 : w1.cell? ⟨wr.heap.size, 1, none⟩ = some (.int .u64 h) := k1.cell 1
           have e2 : w1.cell? ⟨wr.heap.size, 2, none⟩ = some (.int .i64 d) := k1.cell 2
           have e3 : w1.cell? ⟨wr.heap.size, 3, none⟩ = some (.int .u64 q) := k1.cell 3
           have e4 : w1.cell? ⟨wr.heap.size, 4, none⟩ = some (.int .i64 s) := k1.cell 4
           have e5 : w1.cell? ⟨wr.heap.size, 5, none⟩ = some (.int .u64 z) := k1.cell 5
           have hz := k1.lt
           have K1 := Lib.hid k1
           have BA := Lib.hid (Below.next ((Below.refl wr.heap.size wr).alloc (Nat.le_refl _) _) b1)
           clear b1 k1)
        | (go_at_call 29; (with_reducible refine Calls.mono (CG _).out ?_); rintro e w2 ⟨b, rfl, hb, kb, b2⟩
           have kx := Blk.below (Blk.new w1 74 [.int .i64 c, .int .u64 h, .int .i64 d, .int .u64 q, .int .i64 s, .int .u64 z, .pointer none, .pointer none, .int .i64 0, .int .i64 0, .bool false, .int .u64 0, .int .i64 0]) b2 (Blk.new w1 _ _).lt
           have kl := Blk.below (K1.out.alloc _) b2 (K1.out.alloc _).lt
           have y2 : w2.cell? ⟨wr.heap.size, 2, none⟩ = some (.int .i64 d) := kl.cell 2
           have y3 : w2.cell? ⟨wr.heap.size, 3, none⟩ = some (.int .u64 q) := kl.cell 3
           have y6 : w2.cell? ⟨w1.heap.size, 6, none⟩ = some (.pointer none) := kx.cell 6
           have y7 : w2.frozen? ⟨w1.heap.size, 6, none⟩ = false := kx.free 6
           have hz2 := kx.lt
           have KX := Lib.hid kx
           have KB := Lib.hid kb
           have HB := Lib.hid hb
           have BB := Lib.hid (Below.next (BA.out.alloc BA.out.size _) b2)
           clear kx kl kb b2 hb)
        | (go_at_call 30; (with_reducible refine Calls.mono (CK _).out ?_); rintro e w3 ⟨b3, rfl, hb3, kb3, b4⟩
           have kx := Blk.below (KX.out.put 6 (.pointer (some ⟨b, 0, none⟩))) b4 (KX.out.put 6 _).lt
           have y8 : w3.cell? ⟨w1.heap.size, 7, none⟩ = some (.pointer none) := kx.cell 7
           have y9 : w3.frozen? ⟨w1.heap.size, 7, none⟩ = false := kx.free 7
           have KX3 := Lib.hid kx
           have hbx : b ≠ w1.heap.size := fun e => by have h := HB.out; simp at h; omega
           have kg := Blk.below (Blk.far KB.out (p := ⟨w1.heap.size, 6, none⟩) hbx (.pointer (some ⟨b, 0, none⟩))) b4 (Blk.far KB.out (p := ⟨w1.heap.size, 6, none⟩) hbx _).lt
           have KG := Lib.hid kg
           have KB3 := Lib.hid kb3
           have HB3 := Lib.hid hb3
           have hbb : Below wr.heap.size wr w3 := Below.next (BB.out.setCell (p := ⟨w1.heap.size, 6, none⟩) BA.out.size (.pointer (some ⟨b, 0, none⟩))) b4
           have BC := Lib.hid hbb
           have hpp := Blk.below HPP.out hbb HPP.out.lt
           have y10 : w3.frozen? ⟨w.heap.size, i, none⟩ = false := hpp.free i
           have y11 : w3.cell? ⟨w.heap.size, i, none⟩ = some (.pointer none) := (hpp.cell i).trans (linesOf_next (KP.out.len.trans HPL.out) (by omega))
           clear kx kg kb3 hb3 b4 hbb hpp hbx))
      go_roundw
      case rel =>
        have h1 := HB.out
        have h3 := HB3.out
        simp [World.setCell] at h1 h3
        have hs : wr.heap.size < w1.heap.size := hz
        have hxb : w1.heap.size ≠ b3 := by omega
        have kln : IsL (w3.setCell ⟨w1.heap.size, 7, none⟩ (.pointer (some ⟨b3, 0, none⟩))) ⟨w1.heap.size, b, b3⟩ (newL ⟨c, h, d, q, s, z⟩) :=
          ⟨KX3.out.put 7 _, Blk.far KG.out (p := ⟨w1.heap.size, 7, none⟩) (show b ≠ w1.heap.size by omega) _, Blk.far KB3.out (p := ⟨w1.heap.size, 7, none⟩) (show b3 ≠ w1.heap.size by omega) _⟩
        have hsn := KP.out.snoc (by rw [HPL.out]; exact hin) (BC.out.setCell (p := ⟨w1.heap.size, 7, none⟩) BA.out.size _) (a := ⟨w1.heap.size, b, b3⟩) BA.out.size (show wr.heap.size ≤ b by omega) (show wr.heap.size ≤ b3 by omega) kln (by omega)
        rw [HPL.out] at hsn
        refine ⟨i + 1, by go_num, by omega, ⟨_, by rw [HN.out]; exact hsn⟩, ?_⟩
        exact (Below.next BEL.out (BC.out.setCell (p := ⟨w1.heap.size, 7, none⟩) BA.out.size _)).setCell (p := ⟨w.heap.size, i, none⟩) (Nat.le_refl _) _
      case measure => simp [intOf]; omega
    · have hi2 : ¬ (i : Int) < n := by omega
      obtain rfl : i = n := by omega
      clear hbel kp
      go_wp2_with fail
      go_ret2
      refine ⟨w.heap.size, ds, rfl, ?_, KP.out.low, BEL.out⟩
      have := KP.out
      have hl := newLs_length L i
      refine PartI.is (B := w.heap.size) ?_
      rw [hl]
      exact this
end Go.Proofs.Ytbdhmjlbogjkoaa
