/- Layer 5 (share): what the first line of each law asks of closed numbers; plain laws of a meter as the time goes on. -/
import Derived.Test.YtjhocfebopclhaaShareB
import Derived.Test.YtjhocfebopclhaaArgs
namespace Go.Proofs.Ytjhocfebopclhaa
open Go.RowKit
set_option linter.unusedVariables false
set_option linter.unusedSimpArgs false
theorem pair_of {k l : Option IntKind} {cs : List Value} (h : AllOk [k, l] cs) : ∃ a b, cs = [a, b] ∧ CellOk k a ∧ CellOk l b := by
  match cs, h with
  | [a, b], ⟨ha, hb, _⟩ => exact ⟨a, b, rfl, ha, hb⟩
theorem shareOf {cs : List Value} (h : AllOk [some .u64, some .u64] cs) : ∃ b p, cs = [.int .u64 b, .int .u64 p] ∧ 0 ≤ b ∧ b ≤ 18446744073709551615 ∧ 0 ≤ p ∧ p ≤ 18446744073709551615 := by
  obtain ⟨x, y, e, ⟨b, hb, wb⟩, ⟨p, hp, wp⟩⟩ := pair_of h
  exact ⟨b, p, by rw [e, hb, hp], (bounds_u64 wb).1, (bounds_u64 wb).2, (bounds_u64 wp).1, (bounds_u64 wp).2⟩
theorem div_add (x y q : Int) (hx : 0 ≤ x) (hy : 0 ≤ y) (hq : 0 < q) : x / q + y / q ≤ (x + y) / q ∧ (x + y) / q ≤ x / q + y / q + 1 := by
  have h1 := mul_div_le x q hx hq
  have h2 := mul_div_le y q hy hq
  have e : (x / q + y / q) * q = x / q * q + y / q * q := Int.add_mul ..
  have e2 : (x / q + y / q + 2) * q = x / q * q + y / q * q + 2 * q := by rw [Int.add_mul, e]
  refine ⟨Int.le_ediv_of_mul_le hq (by omega), ?_⟩
  have := Int.ediv_lt_of_lt_mul hq (show x + y < (x / q + y / q + 2) * q by omega)
  omega
/-- Rounded up, by one quotient. -/
theorem upF_eq (n q : Int) (hn : 0 ≤ n) (hq : 0 < q) : upF n q = (n + q - 1) / q := by
  have h1 := mul_div_le n q hn hq
  have h3 := Int.emod_add_mul_ediv n q
  have h4 : n / q * q = q * (n / q) := Int.mul_comm _ _
  have e2 : (n / q + 1) * q = n / q * q + q := by rw [Int.add_mul, Int.one_mul]
  have e3 : (n / q + 2) * q = n / q * q + 2 * q := by rw [Int.add_mul]
  unfold upF
  simp only [show ¬ (q = 0) by omega, if_false]
  split
  · rename_i h
    have a1 := Int.ediv_lt_of_lt_mul hq (show n + q - 1 < (n / q + 1) * q by omega)
    have a2 := Int.le_ediv_of_mul_le hq (show n / q * q ≤ n + q - 1 by omega)
    omega
  · rename_i h
    have h5 := Int.emod_nonneg n (show q ≠ 0 by omega)
    have a1 := Int.ediv_lt_of_lt_mul hq (show n + q - 1 < (n / q + 2) * q by omega)
    have a2 := Int.le_ediv_of_mul_le hq (show (n / q + 1) * q ≤ n + q - 1 by omega)
    omega
theorem upF_mono (n m q : Int) (hn : 0 ≤ n) (hm : n ≤ m) (hq : 0 < q) : upF n q ≤ upF m q := by
  rw [upF_eq n q hn hq, upF_eq m q (by omega) hq]; exact Int.ediv_le_ediv hq (by omega)
theorem mostM_no {b p span : Int} (h : mayM b p = false) : mostM b p span = 0 := by unfold mostM; rw [if_pos (.inl h)]
theorem mostM_yes {b p span : Int} (h : mayM b p = true) (hs : span ≤ 1099511627776) : mostM b p span = min span ((upF span p + 1) * b) := by
  unfold mostM; rw [if_neg (by rw [h]; simp; omega)]
theorem mostM_mono {b p n m : Int} (h : mayM b p = true) (hn : 0 ≤ n) (hm : n ≤ m) (hs : m ≤ 1099511627776) : mostM b p n ≤ mostM b p m ∧ mostM b p n ≤ n ∧ 0 ≤ mostM b p n := by
  obtain ⟨m1, m2, m3, m4⟩ := mayM_iff.1 h
  rw [mostM_yes h (by omega), mostM_yes h hs]
  have h1 := upF_mono n m p hn hm (by omega)
  have h2 := (upF_le n p hn (by omega)).1
  have h3 : (upF n p + 1) * b ≤ (upF m p + 1) * b := Int.mul_le_mul_of_nonneg_right (by omega) (by omega)
  have h4 : 0 ≤ (upF n p + 1) * b := Int.mul_nonneg (by omega) (by omega)
  omega
theorem mostM_one {b p : Int} (h : mayM b p = true) : mostM b p 0 = 0 ∧ mostM b p 1 = 1 := by
  obtain ⟨m1, m2, m3, m4⟩ := mayM_iff.1 h
  rw [mostM_yes h (by omega), mostM_yes h (by omega)]
  have h2 := (upF_le 0 p (by omega) (by omega)).1
  have h3 := (upF_le 1 p (by omega) (by omega)).1
  have h4 : 0 ≤ (upF 0 p + 1) * b := Int.mul_nonneg (by omega) (by omega)
  have h5 : 1 * 1 ≤ (upF 1 p + 1) * b := Int.mul_le_mul (by omega) (by omega) (by omega) (by omega)
  omega
structure NowM (b p f T : Int) (s : Ms) : Prop where
  ok : s.ok
  hb : s.b = b
  hp : s.p = p
  hf : s.f = f
  t : s.t ≤ T
theorem on_at (s : Ms) (T : Int) (h1 : T < 4611686018427387904) (h2 : s.t ≤ T) : onM T s = (0, { s with t := T, x := (T - s.f) / s.p, k := if (T - s.f) / s.p = s.x then s.k else 0 }) := by
  unfold onM; rw [if_neg (by omega), if_neg (by omega)]
theorem NowM.new {b p f : Int} (h : mayM b p = true) (h0 : 0 ≤ f) (h1 : f < 4611686018427387904) : NowM b p f f ⟨b, p, f, f, 0, 0⟩ := ⟨m0_ok h h0 h1, rfl, rfl, rfl, Int.le_refl _⟩
/-- One unit is wanted: whether there is one; in the same window, or a new one. -/
theorem NowM.take {b p f T : Int} {s : Ms} (n : NowM b p f T s) (N : Int) (hN : 0 ≤ N) (h1 : T < 4611686018427387904) :
    ∃ k0, 0 ≤ k0 ∧ k0 ≤ b ∧ (((T - f) / p = s.x ∧ k0 = s.k) ∨ (s.x < (T - f) / p ∧ k0 = 0)) ∧ takeM T N s = ((min N (b - k0), 0), ⟨b, p, f, T, (T - f) / p, k0 + min N (b - k0)⟩) ∧ NowM b p f T ⟨b, p, f, T, (T - f) / p, k0 + min N (b - k0)⟩ := by
  obtain ⟨ok, hb, hp, hf, ht⟩ := n
  have o := takeM_ok ok T N hN
  obtain ⟨b0, b1, p1, f0, t0, t1, x, kk0, kk1⟩ := ok
  have hx : s.x ≤ (T - f) / p := by rw [x, hf, hp]; exact Int.ediv_le_ediv (by omega) (by omega)
  unfold takeM at o ⊢
  rw [on_at s T h1 ht] at o ⊢
  rw [if_neg (by simp)] at o ⊢
  simp only at o ⊢
  rw [hf, hp, hb] at o ⊢
  by_cases z : (T - f) / p = s.x
  · rw [if_pos z] at o ⊢
    exact ⟨s.k, kk0, by omega, .inl ⟨z, rfl⟩, rfl, o, rfl, rfl, rfl, Int.le_refl _⟩
  · rw [if_neg z] at o ⊢
    exact ⟨0, by omega, by omega, .inr ⟨by omega, rfl⟩, rfl, o, rfl, rfl, rfl, Int.le_refl _⟩
theorem waitM_step {b p f N : Int} {s : Ms} (n : NowM b p f N s) (h1 : N < 2305843009213693952) :
    ∃ at_ s1, waitM N s = ((at_, 0), s1) ∧ s1.ok ∧ N ≤ at_ ∧ at_ ≤ N + p ∧
      ((at_ = N ∧ ∃ s2, takeM at_ 1 s1 = ((1, 0), s2) ∧ NowM b p f at_ s2) ∨
       (N < at_ ∧ ∃ s2 s3, takeM (at_ - 1) 1 s1 = ((0, 0), s2) ∧ s2.ok ∧ takeM at_ 1 s2 = ((1, 0), s3) ∧ NowM b p f at_ s3)) := by
  obtain ⟨ok, hb, hp, hf, ht⟩ := n
  have o := onM_ok ok N
  obtain ⟨b0, b1, p1, f0, t0, t1, x, kk0, kk1⟩ := ok
  have m := mul_div_le (N - f) p (by omega) (by omega)
  rw [on_at s N (by omega) ht] at o
  unfold waitM
  rw [on_at s N (by omega) ht]
  rw [if_neg (by simp)]
  simp only at o ⊢
  rw [hf, hp, hb] at o ⊢
  generalize hK : (if (N - f) / p = s.x then s.k else 0) = K at *
  have hK0 := o.k0
  have hK1 := o.k1
  simp only at hK0 hK1
  by_cases z : 0 < b - K
  · rw [if_pos z]
    have n1 : NowM b p f N ⟨b, p, f, N, (N - f) / p, K⟩ := ⟨o, rfl, rfl, rfl, Int.le_refl _⟩
    obtain ⟨k0, -, -, h, e, n2⟩ := n1.take 1 (by omega) (by omega)
    rcases h with ⟨-, h⟩ | ⟨h, -⟩
    · simp only at h
      rw [show min 1 (b - k0) = 1 by omega] at e n2
      exact ⟨N, _, rfl, o, Int.le_refl _, by omega, .inl ⟨rfl, _, e, n2⟩⟩
    · exact absurd h (by simp)
  · rw [if_neg z]
    obtain rfl : K = b := by omega
    have e0 : nextF N f p = (f + (N - f) / p * p + p, 0) := by
      unfold nextF; rw [if_neg (by omega), if_neg (by omega), if_neg (by omega)]
      unfold addF; rw [if_pos (by omega)]
    rw [e0]
    have e3 : (N - f) / p * p + p = ((N - f) / p + 1) * p := by rw [Int.add_mul, Int.one_mul]
    have e4 : (f + (N - f) / p * p + p - f) / p = (N - f) / p + 1 := by
      rw [show f + (N - f) / p * p + p - f = ((N - f) / p + 1) * p by omega, Int.mul_ediv_cancel _ (by omega)]
    have e5 : (f + (N - f) / p * p + p - 1 - f) / p = (N - f) / p := by
      have a1 := Int.ediv_lt_of_lt_mul (show 0 < p by omega) (show f + (N - f) / p * p + p - 1 - f < ((N - f) / p + 1) * p by omega)
      have a2 := Int.le_ediv_of_mul_le (show 0 < p by omega) (show (N - f) / p * p ≤ f + (N - f) / p * p + p - 1 - f by omega)
      omega
    generalize hX : (N - f) / p = X at *
    have n1 : NowM K p f (f + X * p + p - 1) ⟨K, p, f, N, X, K⟩ := ⟨o, rfl, rfl, rfl, by simp only; omega⟩
    obtain ⟨k0, -, -, h, e, n2⟩ := n1.take 1 (by omega) (by omega)
    rw [e5] at h e n2
    rcases h with ⟨-, h⟩ | ⟨h, -⟩
    · simp only at h
      rw [show min 1 (K - k0) = 0 by omega] at e n2
      have n3 : NowM K p f (f + X * p + p) ⟨K, p, f, f + X * p + p - 1, X, k0 + 0⟩ := ⟨n2.ok, rfl, rfl, rfl, by simp only; omega⟩
      obtain ⟨k1, -, -, h', e', n4⟩ := n3.take 1 (by omega) (by omega)
      rw [e4] at h' e' n4
      rcases h' with ⟨h', -⟩ | ⟨-, h'⟩
      · exact absurd h' (by simp only; omega)
      · rw [show min 1 (K - k1) = 1 by omega] at e' n4
        exact ⟨_, _, rfl, o, by omega, by omega, .inr ⟨by omega, _, _, e, n2.ok, e', n4⟩⟩
    · exact absurd h (by simp)
/-- A window's first taking gets all; then nothing is there till the next one begins. -/
theorem fresh_step {b p f k : Int} {s : Ms} (n : NowM b p f (f + k * p) s) (hs : s.t < f + k * p ∨ s.k = 0) (h0 : 0 ≤ k) (hk : k ≤ 20) (hp : p ≤ 1048576) (hf : f ≤ 65535) :
    ∃ s1 s2 s3, takeM (f + k * p) (b + 5) s = ((b, 0), s1) ∧ s1.ok ∧ waitM (f + k * p) s1 = ((f + k * p + p, 0), s2) ∧ s2.ok ∧ leftM (f + k * p + p - 1) s2 = ((0, 0), s3) ∧ NowM b p f (f + (k + 1) * p) s3 ∧ s3.t < f + (k + 1) * p := by
  have q0 : 0 ≤ k * p := Int.mul_nonneg h0 (by have := n.ok.b0; have := n.ok.b1; have := n.hp; omega)
  have q1 : k * p ≤ 20 * 1048576 := Int.mul_le_mul hk hp (by have := n.ok.b0; have := n.ok.b1; have := n.hp; omega) (by omega)
  obtain ⟨k0, k1, k2, h, e, n1⟩ := n.take (b + 5) (by have := n.ok.b0; have := n.hb; omega) (by omega)
  obtain ⟨ok, nb, np, nf, nt⟩ := n
  obtain ⟨b0, b1, p1, f0, t0, t1, x, kk0, kk1⟩ := ok
  have e1 : (f + k * p - f) / p = k := by rw [show f + k * p - f = k * p by omega, Int.mul_ediv_cancel _ (by omega)]
  have e2 : (f + k * p + p - 1 - f) / p = k := by
    have a0 : (k + 1) * p = k * p + p := by rw [Int.add_mul, Int.one_mul]
    have a1 := Int.ediv_lt_of_lt_mul (show 0 < p by omega) (show f + k * p + p - 1 - f < (k + 1) * p by omega)
    have a2 := Int.le_ediv_of_mul_le (show 0 < p by omega) (show k * p ≤ f + k * p + p - 1 - f by omega)
    omega
  have a0 : (k + 1) * p = k * p + p := by rw [Int.add_mul, Int.one_mul]
  rw [e1] at h e n1
  have hk0 : k0 = 0 := by
    rcases h with ⟨h, h'⟩ | ⟨_, h⟩
    · rcases hs with hs | hs
      · exfalso
        rw [x, nf, np] at h
        have := Int.ediv_lt_of_lt_mul (show 0 < p by omega) (show s.t - f < k * p by omega)
        omega
      · omega
    · exact h
  subst hk0
  rw [show min (b + 5) (b - 0) = b by omega, Int.zero_add] at e n1
  have o1 := n1.ok
  have ew : waitM (f + k * p) ⟨b, p, f, f + k * p, k, b⟩ = ((f + k * p + p, 0), ⟨b, p, f, f + k * p, k, b⟩) := by
    unfold waitM
    rw [on_at _ _ (by omega) (by simp only; omega)]
    simp only [e1, if_true]
    rw [if_neg (by simp), if_neg (by omega)]
    have : nextF (f + k * p) f p = (f + k * p + p, 0) := by
      unfold nextF; rw [if_neg (by omega), if_neg (by omega), if_neg (by omega), e1]
      unfold addF; rw [if_pos (by omega)]
    rw [this]
  have el : leftM (f + k * p + p - 1) ⟨b, p, f, f + k * p, k, b⟩ = ((0, 0), ⟨b, p, f, f + k * p + p - 1, k, b⟩) := by
    unfold leftM
    rw [on_at _ _ (by omega) (by simp only; omega)]
    simp only [e2, if_true]
    rw [if_neg (by simp), Int.sub_self]
  have o3 := leftM_ok o1 (f + k * p + p - 1)
  rw [el] at o3
  exact ⟨_, _, _, e, o1, ew, o1, el, ⟨o3, rfl, rfl, rfl, by simp only; omega⟩, by simp only; omega⟩
set_option maxRecDepth 100000 in
set_option maxHeartbeats 4000000 in
theorem awake_any (w : World) : Calls Try.prog 8 #[] w fun e w' => e = .returned (.bool true) ∧ Below w.heap.size w w' := by
  have m1 : mayM 3 10 = true := by decide
  have o1 : Ms.ok ⟨3, 10, 0, 0, 0, 0⟩ := m0_ok m1 (by omega) (by omega)
  have e1 : takeM 5 9 ⟨3, 10, 0, 0, 0, 0⟩ = ((3, 0), ⟨3, 10, 0, 5, 0, 3⟩) := by rfl
  have o2 : Ms.ok ⟨3, 10, 0, 5, 0, 3⟩ := by have := takeM_ok o1 5 9 (by omega); rw [e1] at this; exact this
  have e2 : leftM 9 ⟨3, 10, 0, 5, 0, 3⟩ = ((0, 0), ⟨3, 10, 0, 9, 0, 3⟩) := by rfl
  have o3 : Ms.ok ⟨3, 10, 0, 9, 0, 3⟩ := by have := leftM_ok o2 9; rw [e2] at this; exact this
  have e3 : waitM 9 ⟨3, 10, 0, 9, 0, 3⟩ = ((10, 0), ⟨3, 10, 0, 9, 0, 3⟩) := by rfl
  have e4 : leftM 10 ⟨3, 10, 0, 9, 0, 3⟩ = ((3, 0), ⟨3, 10, 0, 10, 1, 0⟩) := by rfl
  have e7 : mostM 3 10 11 = 9 := by decide
  have c1 := fun (W : World) (b : Nat) (k : IsM W b ⟨3, 10, 0, 0, 0, 0⟩) => takem_any k o1 5 9 (by omega) (by omega) (by omega) (by omega)
  have c2 := fun (W : World) (b : Nat) (k : IsM W b ⟨3, 10, 0, 5, 0, 3⟩) => leftm_any k o2 9 (by omega) (by omega)
  have c3 := fun (W : World) (b : Nat) (k : IsM W b ⟨3, 10, 0, 9, 0, 3⟩) => waitm_any k o3 9 (by omega) (by omega)
  have c4 := fun (W : World) (b : Nat) (k : IsM W b ⟨3, 10, 0, 9, 0, 3⟩) => leftm_any k o3 10 (by omega) (by omega)
  have c7 := fun W => mostM_any 3 10 11 W (by omega) (by omega) (by omega) (by omega) (by omega) (by omega)
  simp only [e1] at c1
  simp only [e2] at c2
  simp only [e3] at c3
  simp only [e4] at c4
  rw [e7] at c7
  have C0 := fun W => Lib.hid (newM_any 3 10 0 W (by omega) (by omega) (by omega) (by omega) (by omega) (by omega) m1 (by omega))
  have C1 := fun W b k => Lib.hid (c1 W b k)
  have C2 := fun W b k => Lib.hid (c2 W b k)
  have C3 := fun W b k => Lib.hid (c3 W b k)
  have C4 := fun W b k => Lib.hid (c4 W b k)
  have C7 := fun W => Lib.hid (c7 W)
  clear c1 c2 c3 c4 c7 e1 e2 e3 e4 e7 o1 o2 o3 m1
  go_enter Try.func8, Try.ntmps8
  go_wp2_with (first
    | (go_at_call 9; (with_reducible refine Calls.mono (C0 _).out ?_); rintro e w1 ⟨b, rfl, hb, k1, bel1⟩)
    | (go_at_call 13; (with_reducible refine Calls.mono (C1 _ _ k1).out ?_); rintro e w2 ⟨rfl, k2, on2⟩)
    | (go_at_call 17; (with_reducible refine Calls.mono (C2 _ _ k2).out ?_); rintro e w3 ⟨rfl, k3, on3⟩)
    | (go_at_call 15; (with_reducible refine Calls.mono (C3 _ _ k3).out ?_); rintro e w4 ⟨rfl, k4, on4⟩)
    | (go_at_call 17; (with_reducible refine Calls.mono (C4 _ _ k4).out ?_); rintro e w5 ⟨rfl, k5, on5⟩)
    | (go_at_call 19; (with_reducible refine Calls.mono (C7 _).out ?_); rintro e w7 ⟨rfl, bel7⟩))
  go_ret
  exact ⟨rfl, Below.next (Below.only (Below.only (Below.only (Below.only bel1 on2 hb) on3 hb) on4 hb) on5 hb) bel7⟩
end Go.Proofs.Ytjhocfebopclhaa
