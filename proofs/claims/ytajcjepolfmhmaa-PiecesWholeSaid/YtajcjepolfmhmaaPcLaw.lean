/- Layer 8 (pieces): the plain law of what is scattered, gathered and given. -/
import Derived.Test.YtajcjepolfmhmaaPcAwakeB
namespace Go.Proofs.Ytajcjepolfmhmaa
open Go.RowKit
set_option linter.unusedVariables false
set_option linter.unusedSimpArgs false
/-- What of a buffer says whether a piece may be. -/
def shp (b : Bf) : Int × Bool × Nat := (b.gen, decide (b.own = 0), b.bytes.length)
def Alike (bs bs' : List Bf) : Prop := bs.map shp = bs'.map shp
theorem Alike.refl (bs : List Bf) : Alike bs bs := rfl
theorem Alike.trans {a b c : List Bf} (h : Alike a b) (k : Alike b c) : Alike a c := Eq.trans h k
theorem Alike.symm {a b : List Bf} (h : Alike a b) : Alike b a := Eq.symm h
theorem Alike.set {bs : List Bf} {i : Nat} {b b' : Bf} (hb : bs[i]? = some b) (h : shp b' = shp b) : Alike bs (bs.set i b') := by
  unfold Alike
  apply List.ext_getElem?
  intro j
  simp only [List.getElem?_map]
  by_cases e : i = j
  · subst e
    have hl := (List.getElem?_eq_some_iff.1 hb).1
    rw [List.getElem?_set_self hl, hb]
    simp [h]
  · rw [List.getElem?_set_ne e]
theorem Alike.at_ {bs bs' : List Bf} (h : Alike bs bs') (i : Nat) : bs[i]?.map shp = bs'[i]?.map shp := by
  rw [← List.getElem?_map, ← List.getElem?_map, h]
theorem look_alike {bs bs' : List Bf} (h : Alike bs bs') (s g : Int) : (look bs s g).map (fun x => (x.1, shp x.2)) = (look bs' s g).map (fun x => (x.1, shp x.2)) := by
  unfold look
  have ha := h.at_ s.toNat
  split
  · cases h1 : bs[s.toNat]? with
    | none =>
      cases h2 : bs'[s.toNat]? with
      | none => rfl
      | some b' => rw [h1, h2] at ha; cases ha
    | some b =>
      cases h2 : bs'[s.toNat]? with
      | none => rw [h1, h2] at ha; cases ha
      | some b' =>
        rw [h1, h2] at ha
        simp only [Option.map_some, Option.some.injEq] at ha
        have e1 : b.gen = b'.gen := congrArg (fun x => x.1) ha
        have e2 : decide (b.own = 0) = decide (b'.own = 0) := congrArg (fun x => x.2.1) ha
        simp only [decide_eq_decide] at e2
        simp only
        by_cases c : b.own ≠ 0 ∧ b.gen = g
        · rw [if_pos c, if_pos ⟨fun h => c.1 (e2.2 h), e1 ▸ c.2⟩]
          simp [ha]
        · rw [if_neg c, if_neg (fun h => c ⟨fun k => h.1 (e2.1 k), e1.trans h.2⟩)]
  · rfl
theorem sizeQ_alike {bs bs' : List Bf} (h : Alike bs bs') (s g : Int) : sizeQ s g bs = sizeQ s g bs' := by
  have hl := look_alike h s g
  unfold sizeQ
  cases h1 : look bs s g with
  | none =>
    cases h2 : look bs' s g with
    | none => rfl
    | some b' => rw [h1, h2] at hl; cases hl
  | some b =>
    cases h2 : look bs' s g with
    | none => rw [h1, h2] at hl; cases hl
    | some b' =>
      rw [h1, h2] at hl
      simp only [Option.map_some, Option.some.injEq] at hl
      have : b.2.bytes.length = b'.2.bytes.length := congrArg (fun x => x.2.2.2) hl
      simp only [this]
theorem may1_alike {bs bs' : List Bf} (h : Alike bs bs') (x : Pc) : may1 bs x = may1 bs' x := by
  unfold may1
  rw [sizeQ_alike h]
theorem mayL_alike {bs bs' : List Bf} (h : Alike bs bs') (ps : List Pc) : mayL bs ps ↔ mayL bs' ps := by
  unfold mayL mayUp
  simp only [may1_alike h]
/-- What it says that a piece may be. -/
theorem may1_of {bs : List Bf} {x : Pc} (h : may1 bs x = true) : ∃ i b, look bs x.s x.g = some (i, b) ∧ 0 ≤ x.f ∧ 1 ≤ x.n ∧ x.f + x.n ≤ b.bytes.length := by
  unfold may1 at h
  simp only [Bool.and_eq_true, decide_eq_true_eq, beq_iff_eq] at h
  unfold sizeQ at h
  cases hl : look bs x.s x.g with
  | none => rw [hl] at h; exact absurd h.1.1.1.1 (by decide)
  | some ib =>
    obtain ⟨i, b⟩ := ib
    rw [hl] at h
    simp only at h
    exact ⟨i, b, rfl, h.1.1.1.2, h.1.1.2, by omega⟩
theorem look_set {bs : List Bf} {i : Nat} {b b' : Bf} (hb : bs[i]? = some b) (hg : b'.gen = b.gen) (ho : b'.own = 0 ↔ b.own = 0) (s g : Int) :
    look (bs.set i b') s g = if s = (i : Int) then (look bs s g).map (fun _ => (i, b')) else look bs s g := by
  have hl := (List.getElem?_eq_some_iff.1 hb).1
  by_cases e : s = (i : Int)
  · subst e
    rw [if_pos rfl]
    unfold look
    rw [if_pos (by omega), if_pos (by omega), Int.toNat_natCast, List.getElem?_set_self hl, hb]
    simp only
    rw [hg]
    by_cases c : b.own ≠ 0 ∧ b.gen = g
    · rw [if_pos c, if_pos ⟨fun h => c.1 (ho.1 h), c.2⟩]; rfl
    · rw [if_neg c, if_neg (fun h => c ⟨fun k => h.1 (ho.2 k), h.2⟩)]; rfl
  · rw [if_neg e]
    unfold look
    by_cases h0 : 0 ≤ s
    · rw [if_pos h0, if_pos h0, List.getElem?_set_ne (by omega)]
    · rw [if_neg h0, if_neg h0]
theorem readL_of {bs : List Bf} {x : Pc} {i : Nat} {b : Bf} (hl : look bs x.s x.g = some (i, b)) (h0 : 0 ≤ x.f) (h1 : 0 ≤ x.n) (h2 : x.f + x.n ≤ b.bytes.length) : readL bs x = (b.bytes.drop x.f.toNat).take x.n.toNat := by
  unfold readL readQ
  rw [hl]
  simp only
  unfold readB
  rw [if_neg (by omega)]
  rfl
theorem writeB_of {b : Bf} {by_ at_ : Int} {k : List Int} (ho : mayOwn by_ = true) (hb : b.own = by_) (h0 : 0 ≤ at_) (h1 : at_ + k.length ≤ b.bytes.length) : writeB by_ at_ k b = (0, { b with bytes := over b.bytes at_.toNat k }) := by
  unfold writeB
  rw [if_neg (by rw [ho]; exact Bool.noConfusion), if_neg (by rw [hb]; exact fun h => h rfl), if_neg (by omega)]
theorem over_get (l k : List Int) (a : Nat) (h : a + k.length ≤ l.length) (i : Nat) : (over l a k)[i]? = if i < a then l[i]? else if i < a + k.length then k[i - a]? else l[i]? := by
  unfold over
  by_cases h1 : i < a
  · rw [if_pos h1, List.append_assoc, List.getElem?_append_left (by simp; omega), List.getElem?_take_of_lt h1]
  · rw [if_neg h1]
    by_cases h2 : i < a + k.length
    · rw [if_pos h2, List.getElem?_append_left (by simp; omega), List.getElem?_append_right (by simp; omega)]
      congr 1
      simp; omega
    · rw [if_neg h2, List.getElem?_append_right (by simp; omega), List.getElem?_drop]
      congr 1
      simp; omega
theorem part_get (l : List Int) (f n i : Nat) : ((l.drop f).take n)[i]? = if i < n then l[f + i]? else none := by
  by_cases h : i < n
  · rw [if_pos h, List.getElem?_take_of_lt h, List.getElem?_drop]
  · rw [if_neg h, List.getElem?_eq_none (by simp; omega)]
theorem over_part_far (l k : List Int) (a f n : Nat) (h : a + k.length ≤ l.length) (hd : f + n ≤ a ∨ a + k.length ≤ f) : ((over l a k).drop f).take n = (l.drop f).take n := by
  apply List.ext_getElem?
  intro i
  rw [part_get, part_get]
  by_cases hi : i < n
  · rw [if_pos hi, if_pos hi, over_get l k a h]
    rcases hd with hd | hd
    · rw [if_pos (by omega)]
    · rw [if_neg (by omega), if_neg (by omega)]
  · rw [if_neg hi, if_neg hi]
theorem over_part_on (l k : List Int) (a n : Nat) (h : a + n ≤ l.length) (hk : k.length ≤ n) : ((over l a k).drop a).take n = k ++ ((l.drop a).take n).drop k.length := by
  apply List.ext_getElem?
  intro i
  rw [part_get]
  by_cases hi : i < n
  · rw [if_pos hi, over_get l k a (by omega), if_neg (by omega)]
    by_cases h2 : i < k.length
    · rw [if_pos (by omega), List.getElem?_append_left h2]
      congr 1; omega
    · rw [if_neg (by omega), List.getElem?_append_right (by omega), List.getElem?_drop, part_get, if_pos (by omega)]
      congr 1; omega
  · rw [if_neg hi, List.getElem?_eq_none (by simp; omega)]
/-- No two pieces have a byte in common. -/
def apart (x y : Pc) : Prop := ¬ (x.s = y.s ∧ x.g = y.g) ∨ x.f + x.n ≤ y.f ∨ y.f + y.n ≤ x.f
theorem apart_of {bs : List Bf} (hl : ∀ b ∈ bs, b.bytes.length ≤ 65536) {x y : Pc} (hx : may1 bs x = true) (hy : may1 bs y = true) (h : meetF x y = false) : apart x y := by
  obtain ⟨i, b, h1, h2, h3, h4⟩ := may1_of hx
  obtain ⟨j, c, k1, k2, k3, k4⟩ := may1_of hy
  have hb := hl b (List.mem_of_getElem? (look_some h1).2.2.1)
  have hc := hl c (List.mem_of_getElem? (look_some k1).2.2.1)
  unfold meetF sameB at h
  rw [IntWalk.i64_in _ (show -9223372036854775808 ≤ y.f + y.n ∧ y.f + y.n ≤ 9223372036854775807 by omega), IntWalk.i64_in _ (show -9223372036854775808 ≤ x.f + x.n ∧ x.f + x.n ≤ 9223372036854775807 by omega)] at h
  unfold apart
  by_cases e : x.s = y.s ∧ x.g = y.g
  · right
    rw [e.1, e.2] at h
    simp at h
    omega
  · exact .inl e
theorem apart_symm {x y : Pc} (h : apart x y) : apart y x := by
  rcases h with h | h | h
  · exact .inl fun e => h ⟨e.1.symm, e.2.symm⟩
  · exact .inr (.inr h)
  · exact .inr (.inl h)
theorem mayL_at {bs : List Bf} {ps : List Pc} (h : mayL bs ps) {i : Nat} {x : Pc} (hx : ps[i]? = some x) : may1 bs x = true := (h.1 i x (List.getElem?_eq_some_iff.1 hx).1 hx).1
theorem mayL_apart {bs : List Bf} (hl : ∀ b ∈ bs, b.bytes.length ≤ 65536) {ps : List Pc} (h : mayL bs ps) {i j : Nat} {x y : Pc} (hx : ps[i]? = some x) (hy : ps[j]? = some y) (hne : i ≠ j) : apart x y := by
  have key : ∀ (i j : Nat) (x y : Pc), ps[i]? = some x → ps[j]? = some y → j < i → apart x y := by
    intro i j x y hx hy hji
    have h2 := (h.1 i x (List.getElem?_eq_some_iff.1 hx).1 hx).2
    unfold anyB at h2
    rw [List.any_eq_false] at h2
    have h3 := h2 y (List.mem_iff_getElem?.2 ⟨j, by rw [List.getElem?_take_of_lt hji]; exact hy⟩)
    exact apart_of hl (mayL_at h hx) (mayL_at h hy) (by simpa using h3)
  rcases Nat.lt_or_gt_of_ne hne with h1 | h1
  · exact apart_symm (key j i y x hy hx h1)
  · exact key i j x y hx hy h1
theorem partB_take {L : List Int} {a n : Int} (ha : 0 ≤ a) (hn : 0 ≤ n) : partB L a n = (L.drop a.toNat).take n.toNat := by
  unfold partB
  split
  · rw [show a + n - a = n by omega]
  · rw [List.take_of_length_le (by simp; omega), List.take_of_length_le (by simp; omega)]
theorem lenP_may {bs : List Bf} (hl : ∀ b ∈ bs, b.bytes.length ≤ 65536) {x : Pc} (h : may1 bs x = true) : lenP x = x.n := by
  obtain ⟨i, b, h1, h2, h3, h4⟩ := may1_of h
  have hb := hl b (List.mem_of_getElem? (look_some h1).2.2.1)
  unfold lenP
  rw [if_neg (show ¬ x.n < 0 by omega), if_neg (by omega)]
theorem readL_length {bs : List Bf} {x : Pc} (h : may1 bs x = true) : ((readL bs x).length : Int) = x.n := by
  obtain ⟨i, b, h1, h2, h3, h4⟩ := may1_of h
  rw [readL_of h1 h2 (by omega) h4]
  simp; omega
/-- One's bytes are written: that one's, and no other's. -/
theorem write_read {bs : List Bf} (hl : ∀ b ∈ bs, b.bytes.length ≤ 65536) {by_ : Int} (hm : mayOwn by_ = true) {y : Pc} (hy : may1 bs y = true) (ho : notBy bs by_ y = false) {k : List Int} (hk : (k.length : Int) ≤ y.n) :
    Alike bs (writeQ y.s y.g by_ y.f k bs).2 ∧ (∀ x, may1 bs x = true → notBy bs by_ x = false → notBy (writeQ y.s y.g by_ y.f k bs).2 by_ x = false) ∧ readL (writeQ y.s y.g by_ y.f k bs).2 y = k ++ (readL bs y).drop k.length ∧
    ∀ x, may1 bs x = true → apart x y → readL (writeQ y.s y.g by_ y.f k bs).2 x = readL bs x := by
  obtain ⟨i, b, k1, k2, k3, k4⟩ := may1_of hy
  obtain ⟨e1, e2, e3, e4, e5⟩ := look_some k1
  have hbo : b.own = by_ := by
    unfold notBy ownerQ at ho
    rw [k1] at ho
    simpa using ho
  have hw : (writeQ y.s y.g by_ y.f k bs).2 = bs.set i { b with bytes := over b.bytes y.f.toNat k } := by
    unfold writeQ
    rw [k1]
    simp only
    rw [writeB_of hm hbo k2 (by omega)]
  rw [hw]
  have hov : y.f.toNat + k.length ≤ b.bytes.length := by omega
  have hset := look_set (b' := { b with bytes := over b.bytes y.f.toNat k }) e3 rfl Iff.rfl
  refine ⟨Alike.set e3 (by simp [shp, over_length _ _ _ hov]), ?_, ?_, ?_⟩
  · intro x hx hb
    obtain ⟨j, c, h1, -⟩ := may1_of hx
    unfold notBy ownerQ at hb ⊢
    rw [h1] at hb
    rw [hset, h1]
    by_cases e : x.s = (i : Int)
    · rw [if_pos e]
      simp [hbo]
    · rw [if_neg e]
      exact hb
  · rw [readL_of (i := i) (b := { b with bytes := over b.bytes y.f.toNat k }) (by rw [hset, if_pos e1, k1]; rfl) k2 (by omega) (by simp only; rw [over_length _ _ _ hov]; exact k4), readL_of k1 k2 (by omega) k4]
    exact over_part_on _ _ _ _ (by omega) (by omega)
  · intro x hx hap
    obtain ⟨j, c, h1, h2, h3, h4⟩ := may1_of hx
    obtain ⟨f1, f2, f3, f4, f5⟩ := look_some h1
    by_cases e : x.s = y.s
    · have hij : j = i := by omega
      subst hij
      rw [e3] at f3
      injection f3 with f3
      subst f3
      have hd : x.f + x.n ≤ y.f ∨ y.f + y.n ≤ x.f := by
        rcases hap with h | h
        · exact absurd ⟨e, f5.symm.trans e5⟩ h
        · exact h
      rw [readL_of (i := j) (b := { b with bytes := over b.bytes y.f.toNat k }) (by rw [hset, if_pos f1, h1]; rfl) h2 (by omega) (by simp only; rw [over_length _ _ _ hov]; exact h4), readL_of h1 h2 (by omega) h4]
      exact over_part_far _ _ _ _ _ hov (by omega)
    · unfold readL readQ
      rw [hset, if_neg (by omega)]
theorem allB_at {bs : List Bf} {ps : List Pc} {by_ : Int} (h : allB bs ps by_ = true) {x : Pc} (hx : x ∈ ps) : notBy bs by_ x = false := by
  unfold allB anyB at h
  have h2 : ps.any (notBy bs by_) = false := by simpa using h
  rw [List.any_eq_false] at h2
  simpa using h2 x hx
theorem allB_of {bs : List Bf} {ps : List Pc} {by_ : Int} (h : ∀ x ∈ ps, notBy bs by_ x = false) : allB bs ps by_ = true := by
  unfold allB anyB
  rw [List.any_eq_false.2 (fun x hx => by rw [h x hx]; exact Bool.noConfusion)]
  rfl
/-- What was scattered up to k pieces. -/
theorem scat_up {bs : List Bf} (hl : ∀ b ∈ bs, b.bytes.length ≤ 65536) {ps : List Pc} {by_ : Int} (hm : mayOwn by_ = true) (L : List Int) (h : mayL bs ps) (ha : allB bs ps by_ = true) : ∀ k, k ≤ ps.length →
    Alike bs (scatF ps by_ L bs k) ∧ (∀ b ∈ scatF ps by_ L bs k, b.bytes.length ≤ 65536) ∧ (∀ x ∈ ps, notBy (scatF ps by_ L bs k) by_ x = false) ∧
    ∀ (j : Nat) x, ps[j]? = some x → readL (scatF ps by_ L bs k) x = if j < k then partB L (atP ps j) x.n ++ (readL bs x).drop (partB L (atP ps j) x.n).length else readL bs x := by
  intro k
  induction k with
  | zero => exact fun _ => ⟨Alike.refl _, hl, fun x hx => allB_at ha hx, fun j x hx => by rw [if_neg (by omega)]; rfl⟩
  | succ k ih =>
    intro hk
    obtain ⟨i1, i2, i3, i4⟩ := ih (by omega)
    obtain ⟨y, hy⟩ : ∃ y, ps[k]? = some y := ⟨_, List.getElem?_eq_getElem (by omega)⟩
    have hs : scatF ps by_ L bs (k + 1) = stepW ps by_ L (scatF ps by_ L bs k) k := by
      unfold scatF
      rw [List.range_succ, List.foldl_append]
      rfl
    have hstep : stepW ps by_ L (scatF ps by_ L bs k) k = if (L.length : Int) ≤ atP ps k then scatF ps by_ L bs k else (writeQ y.s y.g by_ y.f (partB L (atP ps k) y.n) (scatF ps by_ L bs k)).2 := by
      unfold stepW
      rw [hy]
    have hmy := mayL_at h hy
    obtain ⟨_, _, _, hy0, hy1, _⟩ := may1_of hmy
    have hat := atP_le ps k
    have hpb : partB L (atP ps k) y.n = (L.drop (atP ps k).toNat).take y.n.toNat := partB_take hat.1 (by omega)
    rw [hs, hstep]
    by_cases c : (L.length : Int) ≤ atP ps k
    · rw [if_pos c]
      have hnil : partB L (atP ps k) y.n = [] := by rw [hpb, List.drop_eq_nil_of_le (by omega)]; simp
      refine ⟨i1, i2, i3, fun j x hx => ?_⟩
      rw [i4 j x hx]
      by_cases e : j = k
      · subst e
        rw [hy] at hx
        injection hx with hx
        subst hx
        rw [if_neg (by omega), if_pos (by omega), hnil]
        rfl
      · by_cases e2 : j < k
        · rw [if_pos e2, if_pos (by omega)]
        · rw [if_neg e2, if_neg (by omega)]
    · rw [if_neg c]
      have hmy2 : may1 (scatF ps by_ L bs k) y = true := by rw [← may1_alike i1]; exact hmy
      have hw := write_read i2 hm hmy2 (i3 y (List.mem_of_getElem? hy)) (k := partB L (atP ps k) y.n) (by rw [hpb]; simp; omega)
      refine ⟨i1.trans hw.1, writeQ_len i2 _ _ _ _ _, fun x hx => ?_, fun j x hx => ?_⟩
      · obtain ⟨j, hj⟩ := List.mem_iff_getElem?.1 hx
        exact hw.2.1 x (by rw [← may1_alike i1]; exact mayL_at h hj) (i3 x hx)
      · by_cases e : j = k
        · subst e
          rw [hy] at hx
          injection hx with hx
          subst hx
          rw [hw.2.2.1, i4 j y hy, if_neg (by omega), if_pos (by omega)]
        · rw [hw.2.2.2 x (by rw [← may1_alike i1]; exact mayL_at h hx) (mayL_apart hl h hx hy e), i4 j x hx]
          by_cases e2 : j < k
          · rw [if_pos e2, if_pos (by omega)]
          · rw [if_neg e2, if_neg (by omega)]
theorem gatherF_atP {bs : List Bf} (hl : ∀ b ∈ bs, b.bytes.length ≤ 65536) {ps : List Pc} (h : mayL bs ps) : ∀ k, k ≤ ps.length → ((gatherF bs ps k).length : Int) = atP ps k := by
  intro k
  induction k with
  | zero => intro _; rfl
  | succ k ih =>
    intro hk
    obtain ⟨y, hy⟩ : ∃ y, ps[k]? = some y := ⟨_, List.getElem?_eq_getElem (by omega)⟩
    have hmy := mayL_at h hy
    have := ih (by omega)
    have := readL_length hmy
    have := lenP_may hl hmy
    simp only [gatherF, atP, hy, List.length_append]
    omega
theorem gather_scat {bs : List Bf} (hl : ∀ b ∈ bs, b.bytes.length ≤ 65536) {ps : List Pc} {by_ : Int} (hm : mayOwn by_ = true) (L : List Int) (h : mayL bs ps) (ha : allB bs ps by_ = true) : ∀ k, k ≤ ps.length →
    gatherF (scatF ps by_ L bs ps.length) ps k = L.take (gatherF bs ps k).length ++ (gatherF bs ps k).drop L.length := by
  obtain ⟨-, -, -, hr⟩ := scat_up hl hm L h ha ps.length (Nat.le_refl _)
  intro k
  induction k with
  | zero => intro _; simp [gatherF]
  | succ k ih =>
    intro hk
    obtain ⟨y, hy⟩ : ∃ y, ps[k]? = some y := ⟨_, List.getElem?_eq_getElem (by omega)⟩
    have hmy := mayL_at h hy
    have hln := readL_length hmy
    have hg := gatherF_atP hl h k (by omega)
    have hry := hr k y hy
    rw [if_pos (by omega), partB_take (by omega) (by omega)] at hry
    simp only [gatherF, hy]
    rw [ih (by omega), hry]
    obtain ⟨n, hn⟩ : ∃ n, (gatherF bs ps k).length = n := ⟨_, rfl⟩
    have e1 : (atP ps k).toNat = n := by omega
    have e2 : y.n.toNat = (readL bs y).length := by omega
    rw [e1, e2, hn]
    generalize hA : gatherF bs ps k = A at *
    generalize hB : readL bs y = B at *
    subst hn
    apply List.ext_getElem?
    intro i
    by_cases c : L.length ≤ A.length
    · rw [show L.drop A.length = [] from List.drop_eq_nil_of_le c, List.take_of_length_le c, show L.take (A ++ B).length = L from List.take_of_length_le (by simp; omega), List.drop_append_of_le_length c]
      simp
    · rw [show A.drop L.length = [] from List.drop_eq_nil_of_le (by omega), List.append_nil]
      simp only [List.length_append, List.length_take, List.length_drop]
      by_cases c1 : i < A.length
      · rw [List.getElem?_append_left (by simp; omega), List.getElem?_append_left (by simp; omega), List.getElem?_take_of_lt c1, List.getElem?_take_of_lt (by omega)]
      · rw [List.getElem?_append_right (by simp; omega)]
        simp only [List.length_take]
        rw [show min A.length L.length = A.length by omega]
        by_cases c2 : i < min (A.length + B.length) L.length
        · rw [List.getElem?_append_left (by simp; omega), List.getElem?_append_left (by simp; omega), List.getElem?_take_of_lt (by omega), List.getElem?_take_of_lt (by omega), List.getElem?_drop]
          congr 1; omega
        · rw [List.getElem?_append_right (by simp; omega), List.getElem?_append_right (by simp; omega)]
          simp only [List.getElem?_drop, List.length_take, List.length_drop]
          by_cases c3 : L.length < A.length + B.length
          · rw [List.getElem?_append_right (by omega)]
            congr 1; omega
          · rw [List.getElem?_eq_none (by omega), List.getElem?_eq_none (by simp; omega)]
/-- All that is anybody's is by's. -/
theorem all_by {bs : List Bf} {by_ : Int} (ho : ∀ b ∈ bs, b.own = 0 ∨ b.own = by_) {ps : List Pc} (h : mayL bs ps) : allB bs ps by_ = true := by
  refine allB_of fun x hx => ?_
  obtain ⟨j, hj⟩ := List.mem_iff_getElem?.1 hx
  obtain ⟨i, b, h1, -⟩ := may1_of (mayL_at h hj)
  obtain ⟨e1, e2, e3, e4, e5⟩ := look_some h1
  have := ho b (List.mem_of_getElem? e3)
  unfold notBy ownerQ
  rw [h1]
  simp
  omega
end Go.Proofs.Ytajcjepolfmhmaa
