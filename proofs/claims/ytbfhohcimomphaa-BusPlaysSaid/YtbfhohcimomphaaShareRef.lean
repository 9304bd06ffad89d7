/- The contracts of the reference of layer 5: a meter that keeps all that was ever taken answers as the program's does; stated by the same plain functions. -/
import Derived.Test.YtbfhohcimomphaaShareB
import Derived.Test.YtbfhohcimomphaaSlc
namespace Go.Proofs.Ytbfhohcimomphaa
open Go.RowKit
set_option linter.unusedVariables false
set_option linter.unusedSimpArgs false

def flat2 : List (Int × Int) → List Value
  | [] => []
  | e :: l => .int .u64 e.1 :: .int .u64 e.2 :: flat2 l
def sumW (X : Int) : List (Int × Int) → Int
  | [] => 0
  | e :: l => (if e.1 = X then e.2 else 0) + sumW X l
theorem flat2_length (l : List (Int × Int)) : (flat2 l).length = l.length * 2 := by
  induction l with
  | nil => rfl
  | cons e l ih => simp [flat2, ih]; omega
theorem flat2_append (l k : List (Int × Int)) : flat2 (l ++ k) = flat2 l ++ flat2 k := by
  induction l with
  | nil => rfl
  | cons e l ih => simp [flat2, ih]
theorem flat2_at (l : List (Int × Int)) : ∀ (i : Nat) (e : Int × Int), l[i]? = some e → (flat2 l)[i * 2]? = some (.int .u64 e.1) ∧ (flat2 l)[i * 2 + 1]? = some (.int .u64 e.2) := by
  induction l with
  | nil => intro i e h; simp at h
  | cons a l ih =>
    intro i e h
    cases i with
    | zero => simp at h; subst h; exact ⟨rfl, rfl⟩
    | succ i =>
      have := ih i e (by simpa using h)
      have e1 : (i + 1) * 2 = i * 2 + 1 + 1 := by omega
      rw [e1]
      simpa [flat2] using this
theorem sumW_append (X : Int) (l k : List (Int × Int)) : sumW X (l ++ k) = sumW X l + sumW X k := by
  induction l with
  | nil => simp [sumW]
  | cons e l ih => simp [sumW, ih]; omega
theorem sumW_nonneg (X : Int) (l : List (Int × Int)) (h : ∀ e ∈ l, 0 ≤ e.2) : 0 ≤ sumW X l := by
  induction l with
  | nil => simp [sumW]
  | cons e l ih =>
    have h1 := h e (by simp)
    have h2 := ih fun x hx => h x (by simp [hx])
    unfold sumW
    split <;> omega
theorem sumW_far (X : Int) (l : List (Int × Int)) (h : ∀ e ∈ l, e.1 < X) : sumW X l = 0 := by
  induction l with
  | nil => rfl
  | cons e l ih =>
    have h1 := h e (by simp)
    have h2 := ih fun x hx => h x (by simp [hx])
    unfold sumW
    rw [if_neg (by omega), h2]; rfl
theorem sumW_take (X : Int) (l : List (Int × Int)) (h : ∀ e ∈ l, 0 ≤ e.2) (i : Nat) : 0 ≤ sumW X (l.take i) ∧ sumW X (l.take i) ≤ sumW X l := by
  have e := sumW_append X (l.take i) (l.drop i)
  rw [List.take_append_drop] at e
  have h1 := sumW_nonneg X (l.take i) fun x hx => h x (List.mem_of_mem_take hx)
  have h2 := sumW_nonneg X (l.drop i) fun x hx => h x (List.mem_of_mem_drop hx)
  omega
theorem sumW_step (X : Int) (l : List (Int × Int)) (i : Nat) (e : Int × Int) (h : l[i]? = some e) : sumW X (l.take (i + 1)) = sumW X (l.take i) + (if e.1 = X then e.2 else 0) := by
  rw [List.take_add_one, h, sumW_append]
  simp [sumW]
/-- The reference's meter stands as s; what it kept: at most c entries; all in blocks from base on. -/
structure RowM (s : Ms) (c : Nat) (L : List (Int × Int)) : Prop where
  len : L.length ≤ c
  el : ∀ e ∈ L, e.1 ≤ s.x ∧ 0 ≤ e.2
  sum : sumW s.x L = s.k
def IsR (w : World) (base r : Nat) (s : Ms) (c : Nat) : Prop :=
  ∃ (v : Value) (L : List (Int × Int)), Blk w r 93 [.int .u64 s.b, .int .u64 s.p, .int .u64 s.f, .int .u64 s.t, v] ∧ Slc w 97 2 v L.length (flat2 L) ∧ RowM s c L ∧ base ≤ r ∧ ∀ g, v.ownBlock = some g → base ≤ g
section
variable {w w' : World} {base r m c : Nat} {s : Ms}
theorem IsR.drewN (h : IsR w base r s c) (n : Nat) : IsR (w.drewN n) base r s c := h
theorem IsR.more (h : IsR w base r s c) {d : Nat} (hd : c ≤ d) : IsR w base r s d := by
  obtain ⟨v, L, h1, h2, h3, h4⟩ := h
  exact ⟨v, L, h1, h2, ⟨Nat.le_trans h3.len hd, h3.el, h3.sum⟩, h4⟩
/-- The program's meter's turns don't touch it. -/
theorem IsR.only (h : IsR w base r s c) {s2 : Ms} (k : IsM w m s2) (o : Only (· = m) w w') : IsR w' base r s c := by
  obtain ⟨v, L, h1, h2, h3, h4⟩ := h
  have hne : r ≠ m := h1.ne k (by decide)
  exact ⟨v, L, h1.only o hne, h2.only o (fun g hg e => by subst e; exact h2.ne k (by decide) hg), h3, h4⟩
theorem IsR.below (h : IsR w base r s c) (k : Below w.heap.size w w') : IsR w' base r s c := by
  obtain ⟨v, L, h1, h2, h3, h4⟩ := h
  exact ⟨v, L, h1.below k h1.lt, h2.below k (fun g hg => h2.lt hg), h3, h4⟩
theorem RowM.on {L : List (Int × Int)} (h : RowM s c L) (ok : s.ok) {T : Int} (h1 : T < 4611686018427387904) (h2 : s.t ≤ T) : RowM (onM T s).2 c L := by
  have hx : s.x ≤ (T - s.f) / s.p := by rw [ok.x]; exact Int.ediv_le_ediv (by have := ok.b0; have := ok.b1; omega) (by omega)
  have e : onM T s = (0, { s with t := T, x := (T - s.f) / s.p, k := if (T - s.f) / s.p = s.x then s.k else 0 }) := by unfold onM; rw [if_neg (by omega), if_neg (by omega)]
  rw [e]
  refine ⟨h.len, fun x hx2 => ⟨by have := (h.el x hx2).1; simp only; omega, (h.el x hx2).2⟩, ?_⟩
  simp only
  split
  · rename_i z; rw [z]; exact h.sum
  · rename_i z; exact sumW_far _ _ fun x hx2 => by have := (h.el x hx2).1; omega
set_option maxHeartbeats 2000000 in
theorem rleftm_any (k : IsR w base r s c) (hc : c ≤ 1000) (ok : s.ok) (T : Int) (h0 : 0 ≤ T) (h1 : T ≤ 18446744073709551615) :
    Calls Try.prog 32 #[.pointer (some ⟨r, 0, none⟩), .int .u64 T] w fun e w' => e = .returned (.tuple #[.int .u64 (leftM T s).1.1, .int .i64 (leftM T s).1.2]) ∧ IsR w' base r (leftM T s).2 c ∧ Only (· = r) w w' := by
  have W := fun W => Lib.hid (rwin_any T s.f s.p W h0 h1 ok.f0 (by have := ok.t0; have := ok.t1; omega) (by have := ok.b0; have := ok.b1; omega) (by have := ok.p1; omega))
  have K := Lib.hid k
  obtain ⟨v, L, kb, ks, kr, hb1, hb2⟩ := k
  have k0 : w.cell? ⟨r, 0, none⟩ = some (.int .u64 s.b) := kb.cell 0
  have k1 : w.cell? ⟨r, 1, none⟩ = some (.int .u64 s.p) := kb.cell 1
  have k2 : w.cell? ⟨r, 2, none⟩ = some (.int .u64 s.f) := kb.cell 2
  have k3 : w.cell? ⟨r, 3, none⟩ = some (.int .u64 s.t) := kb.cell 3
  have k4 : w.cell? ⟨r, 4, none⟩ = some v := kb.cell 4
  have l3 : w.frozen? ⟨r, 3, none⟩ = false := kb.free 3
  by_cases z1 : 4611686018427387904 ≤ T
  · have e : onM T s = (2, s) := by unfold onM; rw [if_pos z1]
    unfold leftM
    rw [e, if_pos (by simp)]
    rw [winF_far (.inl z1)] at W
    clear e kb ks kr ok
    go_enter Try.func32, Try.ntmps32
    go_wp2_with fail
    go_quiet ((go_at_call 39; exact Calls.quiet_of_same ((W _).out.mono fun _ _ h => ⟨h.1, h.2.symm⟩)))
    go_wp2_with fail
    go_ret2
    exact ⟨rfl, K.out.drewN _, (Only.refl _ _).drewN _⟩
  · by_cases z2 : T < s.t
    · have e : onM T s = (1, s) := by unfold onM; rw [if_neg z1, if_pos z2]
      unfold leftM
      rw [e, if_pos (by simp)]
      obtain ⟨x, hx⟩ : ∃ x, winF T s.f s.p = x := ⟨_, rfl⟩
      rw [hx] at W
      by_cases z4 : T < s.f
      · rw [winF_arg (by have := ok.t0; have := ok.t1; omega) (.inr (.inr z4))] at hx
        subst hx
        clear e kb ks kr ok
        go_enter Try.func32, Try.ntmps32
        go_wp2_with fail
        go_quiet ((go_at_call 39; exact Calls.quiet_of_same ((W _).out.mono fun _ _ h => ⟨h.1, h.2.symm⟩)))
        go_wp2_with fail
        go_ret2
        exact ⟨rfl, K.out.drewN _, (Only.refl _ _).drewN _⟩
      · rw [winF_ok (by have := ok.t0; have := ok.t1; omega) (by have := ok.b0; have := ok.b1; have := ok.p1; omega)] at hx
        subst hx
        clear e kb ks kr ok
        go_enter Try.func32, Try.ntmps32
        go_wp2_with fail
        go_quiet ((go_at_call 39; exact Calls.quiet_of_same ((W _).out.mono fun _ _ h => ⟨h.1, h.2.symm⟩)))
        go_wp2_with fail
        go_ret2
        exact ⟨rfl, K.out.drewN _, (Only.refl _ _).drewN _⟩
    · have e : onM T s = (0, { s with t := T, x := (T - s.f) / s.p, k := if (T - s.f) / s.p = s.x then s.k else 0 }) := by unfold onM; rw [if_neg z1, if_neg z2]
      have kn := kr.on ok (by omega) (show s.t ≤ T by omega)
      have on := onM_ok ok T
      unfold leftM
      rw [e] at kn on ⊢
      rw [if_neg (by simp)]
      rw [win_ok ok (by omega) (by omega)] at W
      simp only at kn on ⊢
      generalize (T - s.f) / s.p = X at *
      generalize (if X = s.x then s.k else 0) = kk at *
      have kk0 := on.k0
      have kk1 := on.k1
      have b0 := on.b0
      have b1 := on.b1
      have p1 := on.p1
      have hsum := kn.sum
      simp only at kk0 kk1 b0 b1 p1 hsum
      have hT := sumW_take X L fun x hx => (kn.el x hx).2
      have HT := Lib.hid hT
      have KN := Lib.hid kn
      have KB := Lib.hid kb
      have KS := Lib.hid ks
      have HB := Lib.hid hb2
      have len := kr.len
      obtain ⟨A, cap, rfl, hnc⟩ := ks.shape
      clear e kn on kr ok kb ks hb2 hT
      go_enter Try.func32, Try.ntmps32
      go_wp2_with fail
      go_quiet ((go_at_call 39; exact Calls.quiet_of_same ((W _).out.mono fun _ _ h => ⟨h.1, h.2.symm⟩)))
      go_wp2_with fail
      go_loop [9, 10] (fun lv iv => ∃ i : Nat, iv = .int .i64 i ∧ i ≤ L.length ∧ lv = .int .u64 (s.b - sumW X (L.take i))) (fun _ iv => (L.length - intOf iv).toNat)
      case atStart => exact ⟨0, rfl, by omega, by simp [sumW]⟩
      case round =>
        obtain ⟨i, rfl, hi, rfl⟩ := hrel
        obtain ⟨t0, t1⟩ := HT.out i
        by_cases hil : i < L.length
        · obtain ⟨gk, off, c', hv', -, -, -, hx, -⟩ := KS.out.at_ (by omega)
          simp only [Value.slice.injEq] at hv'
          obtain ⟨rfl, -, rfl⟩ := hv'
          have hne : gk ≠ r := fun e => Slc.ne KS.out KB.out (by decide) (by rw [← e]; rfl)
          obtain ⟨e, he⟩ : ∃ e, L[i]? = some e := ⟨L[i], List.getElem?_eq_getElem hil⟩
          obtain ⟨f1, f2⟩ := flat2_at L i e he
          have c1 : w.cell? ⟨gk, off + i * 2, none⟩ = some (.int .u64 e.1) := hx _ _ f1
          have c2 : w.cell? ⟨gk, off + i * 2 + 1, none⟩ = some (.int .u64 e.2) := hx _ _ f2
          have hst := sumW_step X L i e he
          have hs2 := HT.out (i + 1)
          have he2 := (KN.out.el e (List.mem_of_getElem? he)).2
          have hil2 : (i : Int) < L.length := by omega
          clear hx f1 f2 he
          by_cases hX : e.1 = X
          · rw [if_pos hX] at hst
            have zz : (e.1 == X) = true := beq_iff_eq.2 hX
            generalize sumW X (L.take i) = sm at *
            have ST := Lib.hid hst
            clear hst
            have hh : sm + e.2 ≤ s.b := by have := ST.out; omega
            clear hs2
            go_wp2_with fail
            go_round
            case rel => exact ⟨i + 1, by go_num, by omega, by rw [ST.out]; congr 1; omega⟩
            case measure => simp [intOf]; omega
          · rw [if_neg hX] at hst
            have zz : (e.1 == X) = false := beq_eq_false_iff_ne.2 hX
            generalize sumW X (L.take i) = sm at *
            have ST := Lib.hid hst
            clear hst hs2
            go_wp2_with fail
            go_round
            case rel => exact ⟨i + 1, by go_num, by omega, by rw [ST.out]; congr 1; omega⟩
            case measure => simp [intOf]; omega
        · have hil2 : ¬ (i : Int) < L.length := by omega
          obtain rfl : i = L.length := by omega
          have hall : sumW X (L.take L.length) = kk := by rw [List.take_length]; exact hsum
          have HALL := Lib.hid hall
          generalize sumW X (L.take L.length) = sm at *
          clear hall
          go_wp2_with fail
          go_ret2
          refine ⟨ret2 (by rw [HALL.out]) rfl, ⟨_, L, ((KB.out.drewN _).put 3 _), ?_, KN.out, hb1, HB.out⟩, Only.setCell ((Only.refl (· = r) w).drewN _) (p := ⟨r, 3, none⟩) (fun _ => rfl) _⟩
          exact (KS.out.drewN _).far (p := ⟨r, 3, none⟩) (Slc.ne KS.out KB.out (by decide)) _
end
end Go.Proofs.Ytbfhohcimomphaa
