/- Layer 6 (bus): plain law: no master has more slots in any span than its share lets, nor more in a row than its burst. -/
import Derived.Test.YtbfhohcimomphaaBusIds
import Derived.Test.YtbfhohcimomphaaBusEight
namespace Go.Proofs.Ytbfhohcimomphaa
open Go.RowKit
set_option linter.unusedVariables false
set_option linter.unusedSimpArgs false
namespace busShare
theorem div_add (x y q : Int) (hx : 0 ≤ x) (hy : 0 ≤ y) (hq : 0 < q) : x / q + y / q ≤ (x + y) / q ∧ (x + y) / q ≤ x / q + y / q + 1 := by
  have h1 := mul_div_le x q hx hq
  have h2 := mul_div_le y q hy hq
  have e : (x / q + y / q) * q = x / q * q + y / q * q := Int.add_mul ..
  have e2 : (x / q + y / q + 2) * q = x / q * q + y / q * q + 2 * q := by rw [Int.add_mul, e]
  refine ⟨Int.le_ediv_of_mul_le hq (by omega), ?_⟩
  have := Int.ediv_lt_of_lt_mul hq (show x + y < (x / q + y / q + 2) * q by omega)
  omega
theorem upF_eq (n q : Int) (hn : 0 ≤ n) (hq : 0 < q) : upF n q = (n + q - 1) / q := by
  have h1 := mul_div_le n q hn hq
  have h3 := Int.emod_add_mul_ediv n q
  have h4 : n / q * q = q * (n / q) := Int.mul_comm _ _
  have e2 : (n / q + 1) * q = n / q * q + q := by rw [Int.add_mul, Int.one_mul]
  have e3 : (n / q + 2) * q = n / q * q + 2 * q := by rw [Int.add_mul]
  unfold upF
  simp only [show ¬ (q = 0) by omega, if_false]
  split
  · rename_i h
    have a1 := Int.ediv_lt_of_lt_mul hq (show n + q - 1 < (n / q + 1) * q by omega)
    have a2 := Int.le_ediv_of_mul_le hq (show n / q * q ≤ n + q - 1 by omega)
    omega
  · rename_i h
    have h5 := Int.emod_nonneg n (show q ≠ 0 by omega)
    have a1 := Int.ediv_lt_of_lt_mul hq (show n + q - 1 < (n / q + 2) * q by omega)
    have a2 := Int.le_ediv_of_mul_le hq (show (n / q + 1) * q ≤ n + q - 1 by omega)
    omega
/-- One master's slots from tick a on, at most n ticks, behind t ticks. -/
structure Cn (b p : Int) (a n t : Nat) (s : Ms) (c : Int) : Prop where
  c0 : 0 ≤ c
  c1 : c ≤ t
  run : t ≤ a + n → (c ≤ (t : Int) - a ∨ c = 0) ∧ (c = 0 ∨ ((a : Int) / p ≤ s.x ∧ c ≤ b * (s.x - (a : Int) / p) + s.k ∧ s.x ≤ ((t : Int) - 1) / p))
  done : a + n ≤ t → c ≤ mostM b p n
theorem run_most {b p : Int} {a n : Nat} {s : Ms} {c : Int} (m : mayM b p = true) (hn : n ≤ 1000) (c0 : 0 ≤ c) (sk : s.k ≤ b)
    (h : (c ≤ ((a + n : Nat) : Int) - a ∨ c = 0) ∧ (c = 0 ∨ ((a : Int) / p ≤ s.x ∧ c ≤ b * (s.x - (a : Int) / p) + s.k ∧ s.x ≤ (((a + n : Nat) : Int) - 1) / p))) : c ≤ mostM b p n := by
  obtain ⟨m1, m2, m3, m4⟩ := mayM_iff.1 m
  obtain ⟨h1, h2⟩ := h
  unfold mostM
  rw [if_neg (by rw [m]; simp; omega)]
  have u := upF_le n p (by omega) (by omega)
  have hp : 0 ≤ (upF n p + 1) * b := Int.mul_nonneg (by omega) (by omega)
  rcases h2 with h | ⟨x1, x2, x3⟩
  · omega
  · rcases Nat.eq_zero_or_pos n with h | h
    · subst h; omega
    · have e := upF_eq n p (by omega) (by omega)
      have e2 : ((n : Int) + p - 1) / p = ((n : Int) - 1) / p + 1 := by
        have := Int.add_mul_ediv_right ((n : Int) - 1) 1 (show p ≠ 0 by omega)
        rw [show (n : Int) - 1 + 1 * p = n + p - 1 by omega] at this
        exact this
      have e3 := (div_add (a : Int) ((n : Int) - 1) p (by omega) (by omega) (by omega)).2
      rw [show (a : Int) + ((n : Int) - 1) = ((a + n : Nat) : Int) - 1 by omega] at e3
      have h5 : b * (s.x - (a : Int) / p + 1) ≤ b * (upF n p + 1) := Int.mul_le_mul_of_nonneg_left (by omega) (by omega)
      have h6 : b * (s.x - (a : Int) / p + 1) = b * (s.x - (a : Int) / p) + b := by rw [Int.mul_add, Int.mul_one]
      have h7 : b * (upF n p + 1) = (upF n p + 1) * b := Int.mul_comm _ _
      omega
theorem Cn.new {b p : Int} {a n : Nat} {s : Ms} (h : mayM b p = true) : Cn b p a n 0 s 0 := by
  refine ⟨by omega, by omega, fun _ => ⟨.inr rfl, .inl rfl⟩, fun _ => ?_⟩
  obtain ⟨m1, m2, m3, m4⟩ := mayM_iff.1 h
  unfold mostM
  split
  · omega
  · rename_i h2
    have : 0 ≤ (upF n p + 1) * b := Int.mul_nonneg (by have := (upF_le n p (by omega) (by omega)).1; omega) (by omega)
    omega
/-- A meter looked at. -/
theorem on_bound {b A X x k κ c : Int} (hb : 1 ≤ b) (hk : k ≤ b) (hx : x ≤ X) (h1 : A ≤ x) (h2 : c ≤ b * (x - A) + k) (hκ : (X = x ∧ κ = k) ∨ (x < X ∧ 0 ≤ κ)) : A ≤ X ∧ c ≤ b * (X - A) + κ := by
  rcases hκ with ⟨rfl, rfl⟩ | ⟨h3, h4⟩
  · exact ⟨h1, h2⟩
  · have h5 : b * (x + 1 - A) ≤ b * (X - A) := Int.mul_le_mul_of_nonneg_left (by omega) (by omega)
    have h6 : b * (x + 1 - A) = b * (x - A) + b := by rw [show x + 1 - A = (x - A) + 1 by omega, Int.mul_add, Int.mul_one]
    omega
theorem kap_or {b p f T : Int} {s : Ms} (nw : NowM b p f T s) : ((T - f) / p = s.x ∧ kap T s = s.k) ∨ (s.x < (T - f) / p ∧ 0 ≤ kap T s) := by
  have x := nw.ok.x
  have h := nw.ok.p1; have b0 := nw.ok.b0; have b1 := nw.ok.b1
  have k0 := (kap_rng nw.ok T).1
  rw [nw.hf, nw.hp] at x
  have hx : s.x ≤ (T - f) / p := by rw [x]; exact Int.ediv_le_ediv (by have := nw.hp; omega) (by have := nw.t; omega)
  by_cases z : (T - f) / p = s.x
  · exact .inl ⟨z, by unfold kap; rw [nw.hf, nw.hp, if_pos z]⟩
  · exact .inr ⟨by omega, k0⟩
theorem Cn.idle {b p : Int} {a n t : Nat} {s s' : Ms} {c : Int} (h : Cn b p a n t s c) (m : mayM b p = true) (hn : n ≤ 1000) (nw : NowM b p 7 (7 + t) s) (hi : IdleM (7 + t) s s') : Cn b p a n (t + 1) s' c := by
  obtain ⟨m1, m2, m3, m4⟩ := mayM_iff.1 m
  have mono : ((t : Int) - 1) / p ≤ (((t + 1 : Nat) : Int) - 1) / p := Int.ediv_le_ediv (by omega) (by omega)
  have hk := nw.ok.k1
  rw [nw.hb] at hk
  refine ⟨h.c0, by have := h.c1; omega, fun ht => ?_, fun ht => ?_⟩
  · obtain ⟨h1, h2⟩ := h.run (by omega)
    refine ⟨by omega, ?_⟩
    rcases h2 with h2 | ⟨x1, x2, x3⟩
    · exact .inl h2
    · refine .inr ?_
      rcases hi with rfl | rfl
      · exact ⟨x1, x2, by omega⟩
      · have et : (7 + (t : Int) - 7) / p = (((t + 1 : Nat) : Int) - 1) / p := by congr 1; omega
        have ko := kap_or nw
        rw [et] at ko
        simp only [nw.hf, nw.hp, et]
        obtain ⟨y1, y2⟩ := on_bound m3 hk (by omega) x1 x2 ko
        exact ⟨y1, y2, Int.le_refl _⟩
  · rcases Nat.lt_or_ge t (a + n) with h3 | h3
    · have e : t + 1 = a + n := by omega
      obtain ⟨h1, h2⟩ := h.run (by omega)
      have sk : s'.k ≤ b := by
        rcases hi with rfl | rfl
        · exact hk
        · have := (kap_rng nw.ok (7 + t)).2; rw [nw.hb] at this; exact this
      refine run_most (a := a) m hn h.c0 (s := s') sk ⟨by omega, ?_⟩
      rcases h2 with h2 | ⟨x1, x2, x3⟩
      · exact .inl h2
      · refine .inr ?_
        rw [← e]
        rcases hi with rfl | rfl
        · exact ⟨x1, x2, by omega⟩
        · have et : (7 + (t : Int) - 7) / p = (((t + 1 : Nat) : Int) - 1) / p := by congr 1; omega
          have ko := kap_or nw
          rw [et] at ko
          simp only [nw.hf, nw.hp, et]
          obtain ⟨y1, y2⟩ := on_bound m3 hk (by omega) x1 x2 ko
          exact ⟨y1, y2, Int.le_refl _⟩
    · exact h.done h3
theorem Cn.take {b p : Int} {a n t : Nat} {s : Ms} {c : Int} (h : Cn b p a n t s c) (m : mayM b p = true) (hn : n ≤ 1000) (nw : NowM b p 7 (7 + t) s) (hk9 : kap (7 + t) s < s.b) : Cn b p a n (t + 1) (tk (7 + t) s) (if a ≤ t ∧ t < a + n then c + 1 else c) := by
  obtain ⟨m1, m2, m3, m4⟩ := mayM_iff.1 m
  have hk := nw.ok.k1
  rw [nw.hb] at hk hk9
  have et : (7 + (t : Int) - 7) / p = (((t + 1 : Nat) : Int) - 1) / p := by congr 1; omega
  have ko := kap_or nw
  have k0 := (kap_rng nw.ok (7 + t)).1
  rw [et] at ko
  have ex : (tk (7 + t) s).x = (((t + 1 : Nat) : Int) - 1) / p := by simp only [tk, nw.hf, nw.hp, et]
  have ek : (tk (7 + t) s).k = kap (7 + t) s + 1 := rfl
  have c0 := h.c0; have c1 := h.c1
  have ea : a ≤ t → (a : Int) / p ≤ (((t + 1 : Nat) : Int) - 1) / p := fun h => Int.ediv_le_ediv (by omega) (by omega)
  have key : t + 1 ≤ a + n → a ≤ t → (c + 1 ≤ ((t + 1 : Nat) : Int) - a ∨ c + 1 = 0) ∧ (c + 1 = 0 ∨ ((a : Int) / p ≤ (((t + 1 : Nat) : Int) - 1) / p ∧ c + 1 ≤ b * ((((t + 1 : Nat) : Int) - 1) / p - (a : Int) / p) + (kap (7 + t) s + 1) ∧ (((t + 1 : Nat) : Int) - 1) / p ≤ (((t + 1 : Nat) : Int) - 1) / p)) := fun ht ha => by
    obtain ⟨h1, h2⟩ := h.run (by omega)
    have e1 := ea ha
    refine ⟨.inl (by omega), .inr ⟨e1, ?_, Int.le_refl _⟩⟩
    rcases h2 with h2 | ⟨x1, x2, x3⟩
    · have : 0 ≤ b * ((((t + 1 : Nat) : Int) - 1) / p - (a : Int) / p) := Int.mul_nonneg (by omega) (by omega)
      omega
    · have mono : ((t : Int) - 1) / p ≤ (((t + 1 : Nat) : Int) - 1) / p := Int.ediv_le_ediv (by omega) (by omega)
      have := (on_bound m3 hk (by omega) x1 x2 ko).2
      omega
  refine ⟨by split <;> omega, by split <;> omega, fun ht => ?_, fun ht => ?_⟩
  · rw [ex, ek]
    by_cases z : a ≤ t ∧ t < a + n
    · rw [if_pos z]; exact key ht z.1
    · rw [if_neg z]
      obtain ⟨h1, h2⟩ := h.run (by omega)
      exact ⟨.inr (by omega), .inl (by omega)⟩
  · by_cases z : a ≤ t ∧ t < a + n
    · rw [if_pos z]
      have e : t + 1 = a + n := by omega
      refine run_most (a := a) (s := tk (7 + t) s) m hn (by omega) (by rw [ek]; omega) ?_
      rw [ex, ek, ← e]
      exact key (by omega) z.1
    · rw [if_neg z]
      rcases Nat.lt_or_ge t (a + n) with h3 | h3
      · have hta : t < a := by omega
        obtain ⟨h1, h2⟩ := h.run (by omega)
        have hc : c = 0 := by omega
        have := (Cn.new (a := a) (n := n) (s := s) m)
        unfold mostM
        rw [if_neg (by rw [m]; simp; omega)]
        have : 0 ≤ (upF n p + 1) * b := Int.mul_nonneg (by have := (upF_le n p (by omega) (by omega)).1; omega) (by omega)
        omega
      · exact h.done h3
theorem upF_mono (n m q : Int) (hn : 0 ≤ n) (hm : n ≤ m) (hq : 0 < q) : upF n q ≤ upF m q := by
  rw [upF_eq n q hn hq, upF_eq m q (by omega) hq]; exact Int.ediv_le_ediv hq (by omega)
theorem most_mono {b p n m : Int} (h : mayM b p = true) (hn : 0 ≤ n) (hm : n ≤ m) (hs : m ≤ 1099511627776) : mostM b p n ≤ mostM b p m := by
  obtain ⟨m1, m2, m3, m4⟩ := mayM_iff.1 h
  unfold mostM
  rw [if_neg (by rw [h]; simp; omega), if_neg (by rw [h]; simp; omega)]
  have h1 := upF_mono n m p hn hm (by omega)
  have h3 : (upF n p + 1) * b ≤ (upF m p + 1) * b := Int.mul_le_mul_of_nonneg_right (by omega) (by omega)
  omega
theorem Cn.final {b p T : Int} {a n : Nat} {s : Ms} {c : Int} (h : Cn b p a n 200 s c) (m : mayM b p = true) (hn : n ≤ 1000) (ha : a ≤ 200) (nw : NowM b p 7 T s) : c ≤ mostM b p n := by
  rcases Nat.lt_or_ge 200 (a + n) with h1 | h1
  · have hk := nw.ok.k1
    rw [nw.hb] at hk
    have h2 := run_most (a := a) (n := 200 - a) m (by omega) h.c0 hk (by
      have := h.run (by omega)
      rw [show a + (200 - a) = 200 by omega]
      exact this)
    exact Int.le_trans h2 (most_mono m (by omega) (by omega) (by omega))
  · exact h.done h1
/-- Behind t ticks. -/
structure Sh (L : List Mp) (a n t : Nat) (cnt : Nat → Int) (B : Bu) : Prop where
  g : GoodB L 7 t (7 + t) B
  hb : (t = 0 ∧ B.beg = false ∧ B.who = -1 ∧ B.row = 0) ∨ (0 < t ∧ B.beg = true ∧ B.last = 7 + (t : Int) - 1)
  c : ∀ i m, L[i]? = some m → ∃ s, B.M[i]? = some s ∧ Cn m.b m.p a n t s (cnt i)
theorem Sh.fresh {L : List Mp} {a n t : Nat} {cnt : Nat → Int} {B : Bu} (h : Sh L a n t cnt B) : (freshB (7 + t) B).who = B.who ∧ (freshB (7 + t) B).row = B.row := by
  unfold freshB
  rcases h.hb with ⟨e1, e2, e3, e4⟩ | ⟨e1, e2, e3⟩
  · simp only [e2, true_or, if_true]
    exact ⟨e3.symm, e4.symm⟩
  · have h : ¬ (B.beg = false ∨ 7 + (t : Int) ≠ B.last + 1) := by rw [e2, e3]; simp
    simp only [if_neg h]
    exact ⟨trivial, trivial⟩
theorem win_beg (T : Int) (want : Nat → Bool) (B : Bu) : (winB T want (freshB T B)).2.beg = true ∧ (winB T want (freshB T B)).2.last = T := by
  unfold winB; split <;> exact ⟨rfl, rfl⟩
theorem Sh.step {L : List Mp} {a n t : Nat} {cnt : Nat → Int} {B : Bu} (h : Sh L a n t cnt B) (ok : ∀ m ∈ L, m.ok) (ht : t < 200) (hn : n ≤ 1000) (want : Nat → Bool) :
    (∃ B', winB (7 + t) want (freshB (7 + t) B) = ((0, 5), B') ∧ B'.who = -1 ∧ B'.row = 0 ∧ Sh L a n (t + 1) cnt B') ∨
    (∃ (id : Nat) (m : Mp) (B' : Bu), winB (7 + t) want (freshB (7 + t) B) = (((id : Int), 0), B') ∧ L[id]? = some m ∧ want id = true ∧ B'.who = id ∧ B'.row = (if (id : Int) = B.who then B.row + 1 else 1) ∧ (0 < m.u → B'.row ≤ m.u) ∧ Sh L a n (t + 1) (if a ≤ t ∧ t < a + n then upd cnt id (cnt id + 1) else cnt) B') := by
  obtain ⟨wn, g'⟩ := h.g.won (by omega) (by omega) want
  obtain ⟨b1, b2⟩ := win_beg (7 + t) want B
  obtain ⟨f1, f2⟩ := h.fresh
  have eT : (7 : Int) + t + 1 = 7 + ((t + 1 : Nat) : Int) := by omega
  have eN : (t : Int) + 1 = ((t + 1 : Nat) : Int) := by omega
  rw [eT, eN] at g'
  generalize hW : winB (7 + t) want (freshB (7 + t) B) = W at *
  cases wn with
  | @none B' hh hw hr hS hM =>
    refine .inl ⟨B', rfl, hw, hr, g', .inr ⟨by omega, b1, by rw [b2]; omega⟩, fun i m hm => ?_⟩
    obtain ⟨s, e1, e2⟩ := h.c i m hm
    obtain ⟨s2, e3, nw⟩ := h.g.met i m hm
    rw [e1] at e3; cases e3
    obtain ⟨s', e4, e5⟩ := hM i s e1
    exact ⟨s', e4, e2.idle (ok m (List.mem_of_getElem? hm)).may hn nw e5⟩
  | @one id B' hl hw hr hS hM =>
    have hid : id < L.length := hl.lt
    have hm : L[id]? = some L[id] := List.getElem?_eq_getElem hid
    obtain ⟨s, e1, e2⟩ := h.c id _ hm
    have hmf : (freshB (7 + t) B).L[id]? = some L[id] := by show B.L[id]? = _; rw [h.g.hL]; exact hm
    have hab := hl.able
    rw [ab_some hmf (s := s) e1] at hab
    simp only [Bool.and_eq_true] at hab
    obtain ⟨s2, e3, nw⟩ := h.g.met id _ hm
    rw [e1] at e3; cases e3
    obtain ⟨k1, k2⟩ := (may_can (by omega) nw.t).1 hab.2
    rw [f1, f2] at k1 hr
    have okm := ok _ (List.mem_of_getElem? hm)
    refine .inr ⟨id, L[id], B', rfl, hm, hab.1, hw, hr, fun hu => ?_, g', .inr ⟨by omega, b1, by rw [b2]; omega⟩, fun i m hmi => ?_⟩
    · rw [hr]
      split
      · rename_i z
        have := fun h3 => k1 ⟨hu, z.symm, h3⟩
        omega
      · omega
    · obtain ⟨s', e4, e5⟩ := h.c i m hmi
      obtain ⟨s2, e6, nw2⟩ := h.g.met i m hmi
      rw [e4] at e6; cases e6
      obtain ⟨s3, e7, e8, e9⟩ := hM i _ e4
      have okm2 := ok _ (List.mem_of_getElem? hmi)
      by_cases z : i = id
      · subst z
        obtain ⟨e10, rfl⟩ := e9 rfl
        refine ⟨_, e7, ?_⟩
        have := e5.take okm2.may hn nw2 e10
        by_cases y : a ≤ t ∧ t < a + n
        · rw [if_pos y] at this ⊢; simpa [upd] using this
        · rw [if_neg y] at this ⊢; exact this
      · refine ⟨_, e7, ?_⟩
        have := e5.idle okm2.may hn nw2 (e8 z)
        split
        · simpa [upd, z] using this
        · exact this
theorem Sh.first {L : List Mp} {a n : Nat} (ok : ∀ m ∈ L, m.ok) (h16 : L.length ≤ 16) : Sh L a n 0 (fun _ => 0) (newB L 7 L.length) := by
  have ht : L.take L.length = L := List.take_length
  refine ⟨⟨newB_at ok h16 (by decide) (by decide), by simp [newB], rfl, fun i m hm => ?_⟩, .inl ⟨rfl, rfl, rfl, rfl⟩, fun i m hm => ?_⟩
  · have okm := ok m (List.mem_of_getElem? hm)
    exact ⟨⟨m.b, m.p, 7, 7, 0, 0⟩, by simp only [newB, ht, List.getElem?_map, hm]; rfl, NowM.new okm.may (by decide) (by decide)⟩
  · have okm := ok m (List.mem_of_getElem? hm)
    exact ⟨⟨m.b, m.p, 7, 7, 0, 0⟩, by simp only [newB, ht, List.getElem?_map, hm]; rfl, Cn.new okm.may⟩
end busShare
end Go.Proofs.Ytbfhohcimomphaa
