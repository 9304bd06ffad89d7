/- Layer 12 (bucket): what the first line of each law asks of closed numbers; plain laws of a bucket as the time goes on. -/
import Derived.Test.YtlcnemkbkbihhaaBucket
import Derived.Test.YtlcnemkbkbihhaaArgs
namespace Go.Proofs.Ytlcnemkbkbihhaa
open Go.RowKit
set_option linter.unusedVariables false
set_option linter.unusedSimpArgs false
/-- m tries at T: how many were taken, and the bucket. -/
def takesK (T : Int) : Nat → Bk → Int × Bk
  | 0, s => (0, s)
  | m + 1, s => ((takesK T m s).1 + (if (takeK T (takesK T m s).2).1.1 then 1 else 0), (takeK T (takesK T m s).2).2)
structure Now (d q T : Int) (s : Bk) : Prop where
  ok : s.ok
  hd : s.d = d
  hq : s.q = q
  t : s.t ≤ T
theorem has_at (s : Bk) (T : Int) (h1 : T < 4611686018427387904) (h2 : s.t ≤ T) : hasK T s = ((s.k + min (T / s.q - s.r) (s.d - s.k), 0), { s with k := s.k + min (T / s.q - s.r) (s.d - s.k), r := T / s.q, t := T }) := by
  have e : onK T s = (0, { s with k := s.k + min (T / s.q - s.r) (s.d - s.k), r := T / s.q, t := T }) := by unfold onK; rw [if_neg (by omega), if_neg (by omega)]
  unfold hasK; rw [e]; rfl
theorem take_at (s : Bk) (T : Int) (h1 : T < 4611686018427387904) (h2 : s.t ≤ T) :
    takeK T s = if s.k + min (T / s.q - s.r) (s.d - s.k) = 0 then ((false, 0), { s with k := 0, r := T / s.q, t := T }) else ((true, 0), { s with k := s.k + min (T / s.q - s.r) (s.d - s.k) - 1, r := T / s.q, t := T }) := by
  unfold takeK; rw [has_at s T h1 h2]
  split
  · rename_i h; simp only at h; simp only [h]
  · rfl
theorem Now.has {d q T : Int} {s : Bk} (n : Now d q T s) (h0 : 0 ≤ T) (h1 : T < 4611686018427387904) :
    (hasK T s).1.2 = 0 ∧ Now d q T (hasK T s).2 ∧ (hasK T s).2.k - (hasK T s).2.r ≤ s.k - s.r ∧ (hasK T s).2.r = T / q ∧ 0 ≤ (hasK T s).1.1 ∧ (hasK T s).1.1 ≤ d := by
  obtain ⟨ok, hd, hq, ht⟩ := n
  have o := hasK_ok ok T h0
  have r := hasK_rng ok T h0
  have hk := ok.k1
  have hk0 := ok.k0
  have hr := ok.round ht
  rw [has_at s T h1 ht] at *
  exact ⟨rfl, ⟨o, hd, hq, Int.le_refl _⟩, by simp only; omega, by simp only [hq], by simp only; omega, by simp only; omega⟩
theorem Now.take {d q T : Int} {s : Bk} (n : Now d q T s) (h0 : 0 ≤ T) (h1 : T < 4611686018427387904) :
    (takeK T s).1.2 = 0 ∧ Now d q T (takeK T s).2 ∧ (if (takeK T s).1.1 then 1 else 0) + (takeK T s).2.k - (takeK T s).2.r ≤ s.k - s.r ∧ (takeK T s).2.r = T / q := by
  obtain ⟨ok, hd, hq, ht⟩ := n
  have o := takeK_ok ok T h0
  have hk := ok.k1
  have hk0 := ok.k0
  have hr := ok.round ht
  rw [take_at s T h1 ht] at *
  split at o
  · rename_i h
    rw [if_pos h]
    exact ⟨rfl, ⟨o, hd, hq, Int.le_refl _⟩, by simp; omega, by simp only [hq]⟩
  · rename_i h
    rw [if_neg h]
    exact ⟨rfl, ⟨o, hd, hq, Int.le_refl _⟩, by simp; omega, by simp only [hq]⟩
theorem takes {d q T : Int} {s : Bk} (n : Now d q T s) (h0 : 0 ≤ T) (h1 : T < 4611686018427387904) (m : Nat) :
    Now d q T (takesK T m s).2 ∧ (takesK T m s).1 + (takesK T m s).2.k - (takesK T m s).2.r ≤ s.k - s.r ∧ 0 ≤ (takesK T m s).1 ∧ (takesK T m s).1 ≤ m := by
  induction m with
  | zero => exact ⟨n, by simp only [takesK]; omega, by simp [takesK], by simp [takesK]⟩
  | succ m ih =>
    obtain ⟨i1, i2, i3, i4⟩ := ih
    obtain ⟨-, j2, j3, -⟩ := i1.take h0 h1
    simp only [takesK]
    refine ⟨j2, by omega, ?_, ?_⟩ <;> split <;> omega
theorem wait_step {d q N : Int} {s : Bk} (n : Now d q N s) (h0 : 0 ≤ N) (h1 : N < 2305843009213693952) :
    ∃ at_ s1, waitK N s = ((at_, 0), s1) ∧ N ≤ at_ ∧ at_ ≤ N + q ∧
      ((at_ = N ∧ ∃ s2, takeK at_ s1 = ((true, 0), s2) ∧ Now d q at_ s2) ∨
       (N < at_ ∧ at_ % q = 0 ∧ ∃ s2 s3, takeK (at_ - 1) s1 = ((false, 0), s2) ∧ s2.ok ∧ takeK at_ s2 = ((true, 0), s3) ∧ Now d q at_ s3)) ∧ s1.ok := by
  obtain ⟨-, n1, -⟩ := n.has h0 (by omega)
  obtain ⟨ok, hd, hq, ht⟩ := n
  have q0 := ok.q0
  have q1 := ok.q1
  have d0 := ok.d0
  have hk := ok.k1
  have hk0 := ok.k0
  have hr := ok.round ht
  have m1 := mul_div_le N q h0 (by omega)
  rw [has_at s N (by omega) ht] at n1
  have okn := n1.ok
  unfold waitK
  rw [has_at s N (by omega) ht]
  rw [if_neg (by simp)]
  generalize hK : s.k + min (N / s.q - s.r) (s.d - s.k) = K at *
  have hN : 0 ≤ N / s.q - s.r := by omega
  have hK1 := okn.k1
  have hK0 := okn.k0
  simp only at hK1 hK0
  by_cases z : 0 < K
  · rw [if_pos z]
    refine ⟨N, _, rfl, by omega, by omega, .inl ⟨rfl, ⟨s.d, s.q, K - 1, N / s.q, N⟩, ?_, ?_⟩, okn⟩
    · rw [take_at _ N (by omega) (by simp)]
      simp only [Int.sub_self]
      rw [show min 0 (s.d - K) = 0 by omega, if_neg (by omega)]
      simp
    · exact ⟨⟨ok.d0, ok.d1, ok.q0, ok.q1, by simp only; omega, by simp only; omega, h0, by simp only; omega, rfl⟩, hd, hq, Int.le_refl _⟩
  · obtain rfl : K = 0 := by omega
    rw [if_neg (by simp)]
    have e : nextF N 0 s.q = (N / q * q + q, 0) := by
      unfold nextF; rw [if_neg (by omega), if_neg (by omega), if_neg (by omega)]
      unfold addF; rw [hq, Int.sub_zero, if_pos (by omega), Int.zero_add]
    rw [e]
    have e3 : N / q * q + q = (N / q + 1) * q := by rw [Int.add_mul, Int.one_mul]
    have e4 : (N / q * q + q) / q = N / q + 1 := by rw [e3, Int.mul_ediv_cancel _ (by omega)]
    have e5 : (N / q * q + q - 1) / q = N / q := by
      have a1 := Int.ediv_lt_of_lt_mul (show 0 < q by omega) (show N / q * q + q - 1 < (N / q + 1) * q by omega)
      have a2 := Int.le_ediv_of_mul_le (show 0 < q by omega) (show N / q * q ≤ N / q * q + q - 1 by omega)
      omega
    refine ⟨_, _, rfl, by omega, by omega, .inr ⟨by omega, by rw [e3]; exact Int.mul_emod_left _ _, ⟨s.d, s.q, 0, N / q, N / q * q + q - 1⟩, ⟨s.d, s.q, 0, N / q + 1, N / q * q + q⟩, ?_, ?_, ?_, ?_⟩, okn⟩
    · rw [take_at _ _ (by omega) (by simp only; omega)]
      simp only [hq, e5, Int.sub_self]
      rw [show (0 : Int) + min 0 (s.d - 0) = 0 by omega, if_pos rfl]
    · exact ⟨ok.d0, ok.d1, ok.q0, ok.q1, Int.le_refl _, by simp only; omega, by simp only; omega, by simp only; omega, by simp only [hq, e5]⟩
    · rw [take_at _ _ (by omega) (by simp only; omega)]
      simp only [hq, e4]
      rw [show (0 : Int) + min (N / q + 1 - N / q) (s.d - 0) = 1 by omega, if_neg (by omega)]
      rfl
    · exact ⟨⟨ok.d0, ok.d1, ok.q0, ok.q1, Int.le_refl _, by simp only; omega, by simp only; omega, by simp only; omega, by simp only [hq, e4]⟩, hd, hq, Int.le_refl _⟩
structure Fill (d q t0 i : Int) (s : Bk) : Prop where
  ok : s.ok
  hd : s.d = d
  hq : s.q = q
  t : s.t ≤ i * q
  r : s.r = max (i - 1) 0
  k : s.k = min d (d - t0 + max (i - 1) 0)
theorem fill_step {d q t i : Int} {s : Bk} (f : Fill d q t i s) (h0 : 0 ≤ i) (h1 : i ≤ 100) (ht : 0 ≤ t) (hq : q ≤ 65536) :
    ∃ s1 s2, hasK (i * q) s = ((min d (d - t + i), 0), s1) ∧ s1.ok ∧ hasK (i * q + q - 1) s1 = ((min d (d - t + i), 0), s2) ∧ s2.ok ∧ Fill d q t (i + 1) s2 := by
  obtain ⟨ok, fd, fq, ft, fr, fk⟩ := f
  have q0 := ok.q0
  have k0 := ok.k0
  have b1 : i * q ≤ 100 * 65536 := Int.mul_le_mul h1 hq (by omega) (by omega)
  have b2 : 0 ≤ i * q := Int.mul_nonneg h0 (by omega)
  have e1 : i * q / q = i := Int.mul_ediv_cancel _ (by omega)
  have e2 : (i * q + q - 1) / q = i := by
    have a0 : (i + 1) * q = i * q + q := by rw [Int.add_mul, Int.one_mul]
    have a1 := Int.ediv_lt_of_lt_mul (show 0 < q by omega) (show i * q + q - 1 < (i + 1) * q by omega)
    have a2 := Int.le_ediv_of_mul_le (show 0 < q by omega) (show i * q ≤ i * q + q - 1 by omega)
    omega
  have o1 := hasK_ok ok (i * q) b2
  have h1 := has_at s (i * q) (by omega) ft
  rw [fq, fr, fk, fd, e1, show min d (d - t + max (i - 1) 0) + min (i - max (i - 1) 0) (d - min d (d - t + max (i - 1) 0)) = min d (d - t + i) by omega] at h1
  rw [h1] at o1
  have o2 := hasK_ok o1 (i * q + q - 1) (by omega)
  have h2 := has_at (⟨d, q, min d (d - t + i), i, i * q⟩ : Bk) (i * q + q - 1) (by omega) (by simp only; omega)
  simp only [e2] at h2
  rw [show min d (d - t + i) + min (i - i) (d - min d (d - t + i)) = min d (d - t + i) by omega] at h2
  have e0 : ({ s with d := d, q := q, k := min d (d - t + i), r := i, t := i * q } : Bk) = ⟨d, q, min d (d - t + i), i, i * q⟩ := rfl
  have h1' : hasK (i * q) s = ((min d (d - t + i), 0), ⟨d, q, min d (d - t + i), i, i * q⟩) := by rw [h1]
  simp only [fd, fq] at o1 o2
  rw [h2] at o2
  have a0 : (i + 1) * q = i * q + q := by rw [Int.add_mul, Int.one_mul]
  exact ⟨_, _, h1', o1, h2, o2, o2, rfl, rfl, by simp only; omega, by simp only; omega, by simp only; omega⟩
theorem fill_take (d q i : Int) (h0 : 0 ≤ i) (h1 : i < d) (hq : 0 < q) : takeK 0 ⟨d, q, d - i, 0, 0⟩ = ((true, 0), ⟨d, q, d - (i + 1), 0, 0⟩) := by
  rw [take_at _ 0 (by omega) (by simp)]
  simp only [Int.zero_ediv, Int.sub_self]
  rw [show min 0 (d - (d - i)) = 0 by omega, if_neg (by omega), show d - i + 0 - 1 = d - (i + 1) by omega]
theorem apart_step {q N last : Int} {s : Bk} (n : Now 1 q N s) (hk : s.k = 0 → s.r = last / q) (T : Int) (h0 : 0 ≤ last) (h1 : last ≤ N) (h2 : N ≤ T) (h3 : T < 4611686018427387904) :
    ∃ s1, (takeK T s = ((true, 0), s1) ∧ Now 1 q T s1 ∧ s1.r = T / q) ∨ (takeK T s = ((false, 0), s1) ∧ Now 1 q T s1 ∧ s1.r = last / q ∧ T < last + q) := by
  have n0 := n.ok.t0
  have n2 : Now 1 q T s := ⟨n.ok, n.hd, n.hq, by have := n.t; omega⟩
  have hr := n.ok.round n2.t
  have t := n2.take (by omega) h3
  obtain ⟨ok, hd, hq, ht⟩ := n2
  have k0 := ok.k0
  have k1 := ok.k1
  have q0 := ok.q0
  rw [take_at s T h3 ht] at t ⊢
  split at t
  · rename_i h
    rw [if_pos h]
    have hk0 : s.k = 0 := by omega
    have e := hk hk0
    have m := mul_div_le last q h0 (by omega)
    have mT := mul_div_le T q (by omega) (by omega)
    have e2 : T / q = last / q := by rw [hq] at h hr; omega
    refine ⟨_, .inr ⟨rfl, t.2.1, by simp only [hq]; exact e2, ?_⟩⟩
    rw [e2] at mT
    omega
  · rename_i h
    rw [if_neg h]
    exact ⟨_, .inl ⟨rfl, t.2.1, by simp only [hq]⟩⟩
theorem full_step {q N : Int} {s : Bk} (n : Now 9 q N s) (hk : s.k = 9) (T : Int) (h2 : N ≤ T) (h3 : T < 4611686018427387904) :
    ∃ s1, (hasK T s).2 = s1 ∧ (hasK T s).1 = (9, 0) ∧ Now 9 q T s1 ∧ s1.k = 9 := by
  have n2 : Now 9 q T s := ⟨n.ok, n.hd, n.hq, by have := n.t; omega⟩
  have n0 := n.ok.t0
  have nt := n.t
  have t := n2.has (by omega) h3
  have hr := n.ok.round n2.t
  obtain ⟨ok, hd, hq, ht⟩ := n2
  rw [has_at s T h3 ht] at t ⊢
  refine ⟨_, rfl, ?_⟩
  have e : s.k + min (T / s.q - s.r) (s.d - s.k) = 9 := by omega
  rw [e] at t ⊢
  exact ⟨rfl, t.2.1, rfl⟩
theorem newK_fix (d q : Int) (w : World) (h : mayK d q = true) :
    Calls Try.prog 9 #[.int .i64 d, .int .u64 q] w fun e w' => ∃ b, e = .returned (.tuple #[.pointer (some ⟨b, 0, none⟩), .int .i64 0]) ∧ w.heap.size ≤ b ∧ IsK w' b ⟨d, q, d, 0, 0⟩ ∧ Below w.heap.size w w' := by
  obtain ⟨m1, m2, m3, m4⟩ := mayK_iff.1 h
  exact newK_any d q w (by omega) (by omega) (by omega) (by omega) h
set_option maxRecDepth 100000 in
set_option maxHeartbeats 4000000 in
theorem awake_any (w : World) : Calls Try.prog 8 #[] w fun e w' => e = .returned (.bool true) ∧ Below w.heap.size w w' := by
  have m1 : mayK 2 10 = true := by decide
  have o1 : Bk.ok ⟨2, 10, 2, 0, 0⟩ := k0_ok m1
  have e1 : takeK 1 ⟨2, 10, 2, 0, 0⟩ = ((true, 0), ⟨2, 10, 1, 0, 1⟩) := by rfl
  have o2 : Bk.ok ⟨2, 10, 1, 0, 1⟩ := by have := takeK_ok o1 1 (by omega); rw [e1] at this; exact this
  have e2 : takeK 1 ⟨2, 10, 1, 0, 1⟩ = ((true, 0), ⟨2, 10, 0, 0, 1⟩) := by rfl
  have o3 : Bk.ok ⟨2, 10, 0, 0, 1⟩ := by have := takeK_ok o2 1 (by omega); rw [e2] at this; exact this
  have e3 : takeK 9 ⟨2, 10, 0, 0, 1⟩ = ((false, 0), ⟨2, 10, 0, 0, 9⟩) := by rfl
  have o4 : Bk.ok ⟨2, 10, 0, 0, 9⟩ := by have := takeK_ok o3 9 (by omega); rw [e3] at this; exact this
  have e4 : waitK 9 ⟨2, 10, 0, 0, 9⟩ = ((10, 0), ⟨2, 10, 0, 0, 9⟩) := by rfl
  have e5 : hasK 10 ⟨2, 10, 0, 0, 9⟩ = ((1, 0), ⟨2, 10, 1, 1, 10⟩) := by rfl
  have e7 : mostK 2 10 25 = 5 := by decide
  have c1 := fun (W : World) (b : Nat) (k : IsK W b ⟨2, 10, 2, 0, 0⟩) => takek_any k o1 1 (by omega) (by omega)
  have c2 := fun (W : World) (b : Nat) (k : IsK W b ⟨2, 10, 1, 0, 1⟩) => takek_any k o2 1 (by omega) (by omega)
  have c3 := fun (W : World) (b : Nat) (k : IsK W b ⟨2, 10, 0, 0, 1⟩) => takek_any k o3 9 (by omega) (by omega)
  have c4 := fun (W : World) (b : Nat) (k : IsK W b ⟨2, 10, 0, 0, 9⟩) => waitk_any k o4 9 (by omega) (by omega)
  have c5 := fun (W : World) (b : Nat) (k : IsK W b ⟨2, 10, 0, 0, 9⟩) => hask_any k o4 10 (by omega) (by omega)
  have c7 := fun W => mostK_any 2 10 25 W (by omega) (by omega) (by omega) (by omega) (by omega) (by omega)
  simp only [e1] at c1
  simp only [e2] at c2
  simp only [e3] at c3
  simp only [e4] at c4
  simp only [e5] at c5
  rw [e7] at c7
  have C0 := fun W => Lib.hid (newK_fix 2 10 W m1)
  have C1 := fun W b k => Lib.hid (c1 W b k)
  have C2 := fun W b k => Lib.hid (c2 W b k)
  have C3 := fun W b k => Lib.hid (c3 W b k)
  have C4 := fun W b k => Lib.hid (c4 W b k)
  have C5 := fun W b k => Lib.hid (c5 W b k)
  have C7 := fun W => Lib.hid (c7 W)
  clear c1 c2 c3 c4 c5 c7 e1 e2 e3 e4 e5 e7 o1 o2 o3 o4 m1
  go_enter Try.func8, Try.ntmps8
  go_wp2_with (first
    | (go_at_call 9; (with_reducible refine Calls.mono (C0 _).out ?_); rintro e w1 ⟨b, rfl, hb, k1, bel1⟩)
    | (go_at_call 10; (with_reducible refine Calls.mono (C1 _ _ k1).out ?_); rintro e w2 ⟨rfl, k2, on2⟩)
    | (go_at_call 10; (with_reducible refine Calls.mono (C2 _ _ k2).out ?_); rintro e w3 ⟨rfl, k3, on3⟩)
    | (go_at_call 10; (with_reducible refine Calls.mono (C3 _ _ k3).out ?_); rintro e w4 ⟨rfl, k4, on4⟩)
    | (go_at_call 13; (with_reducible refine Calls.mono (C4 _ _ k4).out ?_); rintro e w5 ⟨rfl, k5, on5⟩)
    | (go_at_call 11; (with_reducible refine Calls.mono (C5 _ _ k5).out ?_); rintro e w6 ⟨rfl, k6, on6⟩)
    | (go_at_call 12; (with_reducible refine Calls.mono (C7 _).out ?_); rintro e w7 ⟨rfl, rfl⟩))
  go_ret
  exact ⟨rfl, Below.only (Below.only (Below.only (Below.only (Below.only bel1 on2 hb) on3 hb) on4 hb) on5 hb) on6 hb⟩
end Go.Proofs.Ytlcnemkbkbihhaa
