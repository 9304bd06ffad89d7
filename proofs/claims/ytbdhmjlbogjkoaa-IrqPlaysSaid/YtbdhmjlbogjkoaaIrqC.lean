/- Layer 13 (irq): a controller in memory; the time goes on. -/
import Derived.Test.YtbdhmjlbogjkoaaIrqB
namespace Go.Proofs.Ytbdhmjlbogjkoaa
open Go.RowKit
set_option linter.unusedVariables false
set_option linter.unusedSimpArgs false
def linesOf (ds : List Ad) : List Value := ds.map (fun a => .pointer (some ⟨a.x, 0, none⟩)) ++ List.replicate (16 - ds.length) (.pointer none)
structure IsI (w : World) (p : Nat) (ds : List Ad) (ls : List Ln) (now : Int) : Prop where
  blk : Blk w p 70 (linesOf ds ++ [.int .i64 ls.length, .int .u64 now])
  len : ds.length = ls.length
  le : ls.length ≤ 16
  line : ∀ (i : Nat) (a : Ad) (n : Ln), ds[i]? = some a → ls[i]? = some n → IsL w a n
  nx : (ds.map Ad.x).Nodup
  ng : (ds.map Ad.g).Nodup
  nk : (ds.map Ad.k).Nodup
def ownI (p : Nat) (ds : List Ad) (i : Nat) : Prop := i = p ∨ ∃ a ∈ ds, a.own i
theorem nd_ne {l : List Nat} (h : l.Nodup) {i j : Nat} {a b : Nat} (hi : l[i]? = some a) (hj : l[j]? = some b) (hne : i ≠ j) : a ≠ b := by
  intro e
  subst e
  obtain ⟨h1, e1⟩ := List.getElem?_eq_some_iff.1 hi
  obtain ⟨h2, e2⟩ := List.getElem?_eq_some_iff.1 hj
  have hp := List.pairwise_iff_getElem.1 h
  rcases Nat.lt_or_gt_of_ne hne with hlt | hgt
  · exact hp i j h1 h2 hlt (e1.trans e2.symm)
  · exact hp j i h2 h1 hgt (e2.trans e1.symm)
section
variable {w w' : World} {p : Nat} {ds : List Ad} {ls : List Ln} {now : Int} {F : Nat → Prop}
theorem linesOf_length (h : ds.length ≤ 16) : (linesOf ds).length = 16 := by simp [linesOf]; omega
theorem linesOf_at {i : Nat} {a : Ad} (h : ds[i]? = some a) : (linesOf ds)[i]? = some (.pointer (some ⟨a.x, 0, none⟩)) := by
  have hl := (List.getElem?_eq_some_iff.1 h).1
  unfold linesOf
  rw [List.getElem?_append_left (by simpa using hl), List.getElem?_map, h]; rfl
theorem IsI.at_ (h : IsI w p ds ls now) {i : Nat} (hi : i < ls.length) : ∃ a n, ds[i]? = some a ∧ ls[i]? = some n ∧ IsL w a n ∧ a ∈ ds ∧ w.cell? ⟨p, i, none⟩ = some (.pointer (some ⟨a.x, 0, none⟩)) := by
  have h1 : ds[i]? = some (ds[i]'(by rw [h.len]; exact hi)) := List.getElem?_eq_getElem _
  have h2 : ls[i]? = some ls[i] := List.getElem?_eq_getElem hi
  refine ⟨_, _, h1, h2, h.line i _ _ h1 h2, List.mem_of_getElem? h1, ?_⟩
  have := h.blk.cell i
  have hl := linesOf_length (ds := ds) (by rw [h.len]; exact h.le)
  have hle := h.le
  rw [List.getElem?_append_left (by omega), linesOf_at h1] at this
  exact this
theorem IsI.cells (h : IsI w p ds ls now) : w.cell? ⟨p, 16, none⟩ = some (.int .i64 ls.length) ∧ w.cell? ⟨p, 17, none⟩ = some (.int .u64 now) ∧ w.frozen? ⟨p, 17, none⟩ = false := by
  have hl := linesOf_length (ds := ds) (by rw [h.len]; exact h.le)
  have h1 := h.blk.cell 16
  have h2 := h.blk.cell 17
  rw [List.getElem?_append_right (by omega), hl] at h1 h2
  exact ⟨h1, h2, h.blk.free 17⟩
theorem IsI.lt (h : IsI w p ds ls now) {i : Nat} (hi : ownI p ds i) : i < w.heap.size := by
  rcases hi with rfl | ⟨a, ha, ho⟩
  · exact h.blk.lt
  · obtain ⟨j, hj⟩ := List.mem_iff_getElem?.1 ha
    have hl : j < ls.length := by rw [← h.len]; exact (List.getElem?_eq_some_iff.1 hj).1
    have k := h.line j a _ hj (List.getElem?_eq_getElem hl)
    rcases ho with rfl | rfl | rfl
    · exact k.lt.1
    · exact k.lt.2.1
    · exact k.lt.2.2
theorem IsI.only (h : IsI w p ds ls now) (o : Only F w w') (hF : ∀ i, F i → ¬ ownI p ds i) : IsI w' p ds ls now :=
  ⟨h.blk.only o (fun f => hF _ f (.inl rfl)), h.len, h.le, fun i a n ha hn => (h.line i a n ha hn).only o (fun j hj f => hF _ f (.inr ⟨a, List.mem_of_getElem? ha, hj⟩)), h.nx, h.ng, h.nk⟩
theorem IsI.below (h : IsI w p ds ls now) (o : Below w.heap.size w w') : IsI w' p ds ls now :=
  ⟨h.blk.below o h.blk.lt, h.len, h.le, fun i a n ha hn => (h.line i a n ha hn).below o, h.nx, h.ng, h.nk⟩
theorem IsI.drewN (h : IsI w p ds ls now) (m : Nat) : IsI (w.drewN m) p ds ls now := ⟨h.blk, h.len, h.le, fun i a n ha hn => (h.line i a n ha hn).drewN m, h.nx, h.ng, h.nk⟩
theorem IsI.alloc (h : IsI w p ds ls now) (o : Obj) : IsI (w.alloc o) p ds ls now := h.below ((Below.refl _ _).alloc (Nat.le_refl _) _)
theorem IsI.time (h : IsI w p ds ls now) (T : Int) : IsI (w.setCell ⟨p, 17, none⟩ (.int .u64 T)) p ds ls T := by
  refine ⟨?_, h.len, h.le, fun i a n ha hn => ?_, h.nx, h.ng, h.nk⟩
  · have := h.blk.put 17 (.int .u64 T)
    have hl := linesOf_length (ds := ds) (by rw [h.len]; exact h.le)
    rw [List.set_append_right _ _ (by omega), hl] at this
    exact this
  · have k := h.line i a n ha hn
    have n1 : a.x ≠ p := k.x.ne h.blk (by decide)
    have n2 : a.g ≠ p := Blk.ne k.g h.blk (by decide)
    have n3 : a.k ≠ p := Blk.ne k.k h.blk (by decide)
    exact ⟨k.x.far n1 _, Blk.far k.g n2 _, Blk.far k.k n3 _⟩
theorem linesOf_set {i : Nat} {a b : Ad} (h : ds[i]? = some a) (hx : b.x = a.x) : linesOf (ds.set i b) = linesOf ds := by
  unfold linesOf
  rw [List.length_set]
  congr 1
  rw [List.map_set]
  have e : (ds.map (fun a => Value.pointer (some ⟨a.x, 0, none⟩)))[i]? = some (.pointer (some ⟨b.x, 0, none⟩)) := by rw [List.getElem?_map, h, hx]; rfl
  obtain ⟨h1, h2⟩ := List.getElem?_eq_some_iff.1 e
  rw [← h2]; exact List.set_getElem_self h1
theorem map_set_same {l : List Ad} {f : Ad → Nat} {i : Nat} {a b : Ad} (h : l[i]? = some a) (hf : f b = f a) : (l.set i b).map f = l.map f := by
  rw [List.map_set]
  have e : (l.map f)[i]? = some (f b) := by rw [List.getElem?_map, h, hf]; rfl
  obtain ⟨h1, h2⟩ := List.getElem?_eq_some_iff.1 e
  rw [← h2]; exact List.set_getElem_self h1
theorem nodup_set {l : List Nat} (h : l.Nodup) {i b : Nat} (hb : ∀ x ∈ l, x ≠ b) : (l.set i b).Nodup := by
  refine List.pairwise_iff_getElem.2 fun j k hj hk hjk => ?_
  have hp := List.pairwise_iff_getElem.1 h
  simp only [List.length_set] at hj hk
  rw [List.getElem_set, List.getElem_set]
  split
  · split
    · omega
    · exact fun e => hb _ (List.getElem_mem hk) e.symm
  · split
    · exact hb _ (List.getElem_mem hj)
    · exact hp j k hj hk hjk
/-- One line turned, its gatherer's block a new one maybe. -/
theorem IsI.turn (h : IsI w p ds ls now) {i : Nat} {a : Ad} {n' : Ln} {b : Nat} (ha : ds[i]? = some a) (o : Only F w w') (hF : ∀ j, F j → a.own j ∨ ¬ ownI p ds j) (hb : b = a.g ∨ w.heap.size ≤ b) (k : IsL w' ⟨a.x, b, a.k⟩ n') :
    IsI w' p (ds.set i ⟨a.x, b, a.k⟩) (ls.set i n') now := by
  have hi := (List.getElem?_eq_some_iff.1 ha).1
  have hi' : i < ls.length := by rw [← h.len]; exact hi
  have ka := h.line i a _ ha (List.getElem?_eq_getElem hi')
  have m1 : ¬ F p := fun f => (hF p f).elim (fun f => by
    rcases f with e | e | e
    · exact ka.x.ne h.blk (by decide) e.symm
    · exact Blk.ne ka.g h.blk (by decide) e.symm
    · exact Blk.ne ka.k h.blk (by decide) e.symm) (fun f => f (.inl rfl))
  refine ⟨?_, by simp [h.len], by rw [List.length_set]; exact h.le, fun j c n hc hn => ?_, ?_, ?_, ?_⟩
  · rw [linesOf_set (b := ⟨a.x, b, a.k⟩) ha rfl, List.length_set]
    exact h.blk.only o m1
  · by_cases e : i = j
    · subst e
      rw [List.getElem?_set_self hi] at hc
      rw [List.getElem?_set_self hi'] at hn
      injection hc with hc
      injection hn with hn
      subst hc hn
      exact k
    · rw [List.getElem?_set_ne e] at hc hn
      have kc := h.line j c n hc hn
      refine kc.only o fun q hq f => ?_
      rcases hF q f with f | f
      · have e1 : c.x ≠ a.x := nd_ne h.nx (by rw [List.getElem?_map, hc]; rfl) (by rw [List.getElem?_map, ha]; rfl) (fun e' => e e'.symm)
        have e2 : c.g ≠ a.g := nd_ne h.ng (by rw [List.getElem?_map, hc]; rfl) (by rw [List.getElem?_map, ha]; rfl) (fun e' => e e'.symm)
        have e3 : c.k ≠ a.k := nd_ne h.nk (by rw [List.getElem?_map, hc]; rfl) (by rw [List.getElem?_map, ha]; rfl) (fun e' => e e'.symm)
        have e4 : c.x ≠ a.g := kc.x.ne ka.g (by decide)
        have e5 : c.x ≠ a.k := kc.x.ne ka.k (by decide)
        have e6 : c.g ≠ a.x := Blk.ne kc.g ka.x (by decide)
        have e7 : c.g ≠ a.k := Blk.ne kc.g ka.k (by decide)
        have e8 : c.k ≠ a.x := Blk.ne kc.k ka.x (by decide)
        have e9 : c.k ≠ a.g := Blk.ne kc.k ka.g (by decide)
        rcases hq with rfl | rfl | rfl <;> rcases f with f | f | f <;> first | exact e1 f | exact e2 f | exact e3 f | exact e4 f | exact e5 f | exact e6 f | exact e7 f | exact e8 f | exact e9 f
      · exact f (.inr ⟨c, List.mem_of_getElem? hc, hq⟩)
  · rw [map_set_same (b := ⟨a.x, b, a.k⟩) ha rfl]; exact h.nx
  · rcases hb with rfl | hb
    · rw [map_set_same (b := ⟨a.x, a.g, a.k⟩) ha rfl]; exact h.ng
    · rw [List.map_set]
      refine nodup_set h.ng fun x hx e => ?_
      obtain ⟨c, hc, rfl⟩ := List.mem_map.1 hx
      have := h.lt (i := c.g) (.inr ⟨c, hc, .inr (.inl rfl)⟩)
      have e : c.g = b := e
      omega
  · rw [map_set_same (b := ⟨a.x, b, a.k⟩) ha rfl]; exact h.nk
theorem len16 : Try.prog.arrayLen 68 = 16 := by kernel_rfl
theorem size16 : (Try.prog.info? (Try.prog.elem 68)).map (·.size) = some 1 := by kernel_rfl
theorem slice16 (W : World) (p m : Nat) (h : m ≤ 16) : (Instr.sliceAt 68 (.pointer (some ⟨p, 0, none⟩)) none (some (.int .i64 m)) none).run Try.prog W = .ok (.slice (some ⟨p, 0, none⟩) m 16) W := by
  rw [run_sliceAt_array_h W 68 ⟨p, 0, none⟩ (by kernel_rfl) .i64 m (by omega) (by rw [len16]; omega)]
  obtain ⟨i, hi, hs⟩ : ∃ i, Try.prog.info? (Try.prog.elem 68) = some i ∧ i.size = 1 := by
    have h := size16
    cases hi : Try.prog.info? (Try.prog.elem 68) with
    | none => rw [hi] at h; cases h
    | some i => rw [hi] at h; exact ⟨i, rfl, by simpa using h⟩
  rw [len16]
  simp [sizeOf, typeInfo, hi, hs, slicedAt, Addr.add]
/-- What the time has done to the first i lines. -/
def gone (T : Int) (ls : List Ln) (i : Nat) : List Ln := (ls.take i).map (stepL T) ++ ls.drop i
theorem gone_zero (T : Int) (ls : List Ln) : gone T ls 0 = ls := by simp [gone]
theorem gone_all (T : Int) (ls : List Ln) : gone T ls ls.length = ls.map (stepL T) := by simp [gone]
theorem gone_length (T : Int) (ls : List Ln) (i : Nat) : (gone T ls i).length = ls.length := by simp [gone]; omega
theorem gone_at (T : Int) (ls : List Ln) (i : Nat) : (gone T ls i)[i]? = ls[i]? := by
  unfold gone
  by_cases h : i < ls.length
  · rw [List.getElem?_append_right (by simp; omega)]
    simp [Nat.min_eq_left (Nat.le_of_lt h)]
  · rw [List.getElem?_eq_none (by simp; omega), List.getElem?_eq_none (by omega)]
theorem gone_next (T : Int) (ls : List Ln) {i : Nat} {n : Ln} (h : ls[i]? = some n) : (gone T ls i).set i (stepL T n) = gone T ls (i + 1) := by
  obtain ⟨hi, rfl⟩ := List.getElem?_eq_some_iff.1 h
  unfold gone
  rw [List.set_append_right _ _ (by simp; omega)]
  rw [List.take_succ_eq_append_getElem hi, List.map_append, List.append_assoc]
  congr 1
  simp [Nat.min_eq_left (Nat.le_of_lt hi)]
  rw [List.drop_eq_getElem_cons hi]
  rfl
/-- How a time that may not be is told. -/
def codeI (T : Int) : Int := if 4611686018427387904 ≤ T then 2 else 1
def RelOn (w : World) (p : Nat) (ds : List Ad) (ls : List Ln) (T : Int) (iv : Value) (wr : World) : Prop :=
  ∃ i : Nat, iv = .int .i64 i ∧ i ≤ ls.length ∧ IsI wr p ds (gone T ls i) T ∧ Only (ownI p ds) w wr
set_option maxHeartbeats 2000000 in
theorem on_errI (k : IsI w p ds ls now) (T no : Int) (h0 : 0 ≤ T) (h1 : T ≤ 18446744073709551615) (hno : -9223372036854775808 ≤ no ∧ no ≤ 9223372036854775807) (h : 4611686018427387904 ≤ T ∨ no < 0 ∨ (ls.length : Int) ≤ no ∨ T < now) (fn : Fn) (first cap : Array Value) :
    Calls Try.prog 31 #[.pointer (some ⟨p, 0, none⟩), .int .u64 T, .int .i64 no, .func fn first cap] w fun e w' => e = .returned (.int .i64 (codeI T)) ∧ ∃ m, w' = w.drewN m := by
  unfold codeI
  obtain ⟨c16, c17, f17⟩ := k.cells
  have hle := k.le
  have TM := fun W => Lib.hid (may_any T W)
  clear k
  by_cases a1 : 4611686018427387904 ≤ T
  · rw [if_pos a1]
    have d1 : decide (T < 4611686018427387904) = false := decide_eq_false (by omega)
    clear h
    go_enter Try.func31, Try.ntmps31
    go_wp2_with (go_at_call 44; (with_reducible refine Calls.mono (TM _).out ?_); rintro e w1 ⟨rfl, rfl⟩)
    go_ret
    exact ⟨rfl, 0, rfl⟩
  · rw [if_neg a1]
    have d1 : decide (T < 4611686018427387904) = true := decide_eq_true (by omega)
    by_cases a2 : no < 0
    · have d2 : decide (no < 0) = true := decide_eq_true a2
      clear h
      go_enter Try.func31, Try.ntmps31
      go_wp2_with (go_at_call 44; (with_reducible refine Calls.mono (TM _).out ?_); rintro e w1 ⟨rfl, rfl⟩)
      go_ret
      exact ⟨rfl, 0, rfl⟩
    · have d2 : decide (no < 0) = false := decide_eq_false a2
      by_cases a3 : (ls.length : Int) ≤ no
      · have d3 : decide ((ls.length : Int) ≤ no) = true := decide_eq_true a3
        clear h
        go_enter Try.func31, Try.ntmps31
        go_wp2_with (go_at_call 44; (with_reducible refine Calls.mono (TM _).out ?_); rintro e w1 ⟨rfl, rfl⟩)
        go_ret
        exact ⟨rfl, 0, rfl⟩
      · have d3 : decide ((ls.length : Int) ≤ no) = false := decide_eq_false a3
        have d4 : decide (T < now) = true := decide_eq_true (by omega)
        clear h
        go_enter Try.func31, Try.ntmps31
        go_wp2_with (go_at_call 44; (with_reducible refine Calls.mono (TM _).out ?_); rintro e w1 ⟨rfl, rfl⟩)
        go_ret
        exact ⟨rfl, 0, rfl⟩
theorem set_same_ad {ds : List Ad} {i : Nat} {a : Ad} (h : ds[i]? = some a) : ds.set i ⟨a.x, a.g, a.k⟩ = ds := by
  obtain ⟨h1, h2⟩ := List.getElem?_eq_some_iff.1 h
  rw [show (⟨a.x, a.g, a.k⟩ : Ad) = ds[i] from h2.symm]; exact List.set_getElem_self h1
set_option maxHeartbeats 4000000 in
theorem on_okRaise {H : Int} (k : IsI w p ds ls now) (ok : ∀ n ∈ ls, n.ok H) (hH : H ≤ 1000000000) (T : Int) (h0 : now ≤ T) (hn0 : 0 ≤ T) (h1 : T < 4611686018427387904) (no : Nat) {a : Ad} (ha : ds[no]? = some a) (cap : Array Value) {Q : Ending → World → Prop}
    (HQ : ∀ W, IsI W p ds (ls.map (stepL T)) T → Only (ownI p ds) w W → Calls Try.prog 32 (#[.pointer (some ⟨a.x, 0, none⟩)] ++ cap) W fun e w' => ∃ c, e = .returned (.int .i64 c) ∧ Q e w') :
    Calls Try.prog 31 #[.pointer (some ⟨p, 0, none⟩), .int .u64 T, .int .i64 no, .func (.func 32) #[] cap] w Q := by
  obtain ⟨c16, c17, f17⟩ := k.cells
  have hle := k.le
  have hno : no < ls.length := by rw [← k.len]; exact (List.getElem?_eq_some_iff.1 ha).1
  have TM := fun W => Lib.hid (may_any T W)
  have d1 : decide (T < 4611686018427387904) = true := decide_eq_true h1
  have d2 : decide ((no : Int) < 0) = false := decide_eq_false (by omega)
  have d3 : decide ((ls.length : Int) ≤ no) = false := decide_eq_false (by omega)
  have d3' : decide (ls.length ≤ no) = false := decide_eq_false (by omega)
  have d4 : decide (T < now) = false := decide_eq_false (by omega)
  have K := Lib.hid k
  have OK := Lib.hid ok
  have HHQ := Lib.hid HQ
  have HA := Lib.hid ha
  have hsl := fun W => slice16 W p ls.length hle
  clear k ok HQ ha
  go_enter Try.func31, Try.ntmps31
  go_wp2_with (go_at_call 44; (with_reducible refine Calls.mono (TM _).out ?_); rintro e w1 ⟨rfl, rfl⟩)
  go_quiet (fail)
  go_wp2_with fail
  go_loopw [49] (fun iv wr => Hid (RelOn w p ds ls T iv wr)) (fun iv _ => ls.length - (intOf iv).toNat)
  case atStart =>
    refine ⟨0, rfl, by omega, ?_, ?_⟩
    · rw [gone_zero]; exact (K.out.time T).drewN _
    · exact (Only.setCell (F := ownI p ds) (Only.refl _ w) (p := ⟨p, 17, none⟩) (fun _ => .inl rfl) _).drewN _
  case round =>
    obtain ⟨i, rfl, hi, kI, oI⟩ := hrel
    by_cases hil : i < ls.length
    · have hi2 : (i : Int) < ls.length := by omega
      obtain ⟨b, n, hb, hn, kb, hmem, hcell⟩ := kI.at_ (i := i) (by rw [gone_length]; exact hil)
      rw [gone_at] at hn
      have okn := OK.out n (List.mem_of_getElem? hn)
      have cg := fun W (kk : IsG W b.g n.g) => go_any kk okn.g T hn0 (by omega)
      have bd := goF_bd okn.g T hn0
      have hr6 : wr.cell? ⟨b.x, 6, none⟩ = some (.pointer (some ⟨b.g, 0, none⟩)) := kb.x.cell 6
      have e0 := okn.e0
      have e1 := okn.e1
      have hst : deliverL T { n with g := (goF T n.g).2, held := n.held + (goF T n.g).1.1 } = stepL T n := rfl
      have HST := Lib.hid hst
      have CD := fun W (kk : IsL W b { n with g := (goF T n.g).2, held := n.held + (goF T n.g).1.1 }) => Lib.hid (HST.out ▸ deliver_any kk (H := H + 1000) ⟨okn.l, bd.2.2, okn.k, by simp only; omega, by simp only; omega, okn.p0, by have := okn.p1; simp only; omega, okn.w0, okn.w1, okn.r0, by have := okn.r1; simp only; omega⟩ T hn0 (by omega))
      clear hst HST
      generalize (goF T n.g).1.1 = r at *
      generalize (goF T n.g).1.2 = re at *
      generalize (goF T n.g).2 = g2 at *
      have CG := fun W kk => Lib.hid (cg W kk)
      obtain ⟨b0, b1, -⟩ := bd
      have KB := Lib.hid kb
      have KI := Lib.hid kI
      have OI := Lib.hid oI
      have HN := Lib.hid hn
      have HB := Lib.hid hb
      have hmem' := Lib.hid hmem
      clear cg kb kI oI okn hn hb hmem HHQ TM
      go_wp2_with (first
        | (go_at_call 45; (with_reducible refine Calls.mono (CG _ KB.out.g).out ?_); rintro e w2 ⟨rfl, kg2, o2⟩
           have kx2 := KB.out.x.only o2 KB.out.ne.1
           have kk2 := Blk.only KB.out.k o2 (fun e => KB.out.ne.2.2 e.symm)
           have r8 : w2.cell? ⟨b.x, 8, none⟩ = some (.int .i64 n.held) := kx2.cell 8
           have m8 : w2.frozen? ⟨b.x, 8, none⟩ = false := kx2.free 8
           have CDD := CD _ (IsL.held (n := { n with g := g2 }) ⟨kx2, kg2, kk2⟩ (n.held + r))
           have O2 := Lib.hid o2
           clear kx2 kk2 kg2 o2)
        | (go_at_call 35; (with_reducible refine Calls.mono CDD.out ?_); rintro e w3 ⟨rfl, k3, o3⟩
           have K3 := Lib.hid k3
           have O3 := Lib.hid o3
           clear k3 o3))
      go_roundw
      case rel =>
        have o := (Only.setCell (F := b.own) (O2.out.mono (fun i _ h => .inr (.inl h))) (p := ⟨b.x, 8, none⟩) (fun _ => .inl rfl) (.int .i64 (n.held + r))).trans O3.out (fun i _ h => h)
        refine ⟨i + 1, by go_num, by omega, ?_, OI.out.trans o (fun i _ h => .inr ⟨b, hmem'.out, h⟩)⟩
        have := KI.out.turn (n' := stepL T n) (b := b.g) HB.out o (fun j h => .inl h) (.inl rfl) K3.out
        rw [gone_next T ls HN.out, set_same_ad HB.out] at this
        exact this
      case measure => simp [intOf]; omega
    · have hi2 : ¬ (i : Int) < ls.length := by omega
      obtain rfl : i = ls.length := by omega
      rw [gone_all] at kI
      have HHQ' := Lib.hid (HHQ.out wr kI oI)
      obtain ⟨b, n, hb, hn, kb, hmem, hcell⟩ := kI.at_ (i := no) (by simp; exact hno)
      have hb := hb.symm.trans HA.out
      injection hb with hb
      subst hb
      clear kI oI kb hn TM hmem HHQ
      go_wp2_with (first
        | (go_at_call 32; (with_reducible refine Calls.mono HHQ'.out ?_); rintro e w' ⟨c, rfl, hq⟩))
      exact hq
set_option maxHeartbeats 4000000 in
theorem on_okAck {H : Int} (k : IsI w p ds ls now) (ok : ∀ n ∈ ls, n.ok H) (hH : H ≤ 1000000000) (T : Int) (h0 : now ≤ T) (hn0 : 0 ≤ T) (h1 : T < 4611686018427387904) (no : Nat) {a : Ad} (ha : ds[no]? = some a) (cap : Array Value) {Q : Ending → World → Prop}
    (HQ : ∀ W, IsI W p ds (ls.map (stepL T)) T → Only (ownI p ds) w W → Calls Try.prog 37 (#[.pointer (some ⟨a.x, 0, none⟩)] ++ cap) W fun e w' => ∃ c, e = .returned (.int .i64 c) ∧ Q e w') :
    Calls Try.prog 31 #[.pointer (some ⟨p, 0, none⟩), .int .u64 T, .int .i64 no, .func (.func 37) #[] cap] w Q := by
  obtain ⟨c16, c17, f17⟩ := k.cells
  have hle := k.le
  have hno : no < ls.length := by rw [← k.len]; exact (List.getElem?_eq_some_iff.1 ha).1
  have TM := fun W => Lib.hid (may_any T W)
  have d1 : decide (T < 4611686018427387904) = true := decide_eq_true h1
  have d2 : decide ((no : Int) < 0) = false := decide_eq_false (by omega)
  have d3 : decide ((ls.length : Int) ≤ no) = false := decide_eq_false (by omega)
  have d3' : decide (ls.length ≤ no) = false := decide_eq_false (by omega)
  have d4 : decide (T < now) = false := decide_eq_false (by omega)
  have K := Lib.hid k
  have OK := Lib.hid ok
  have HHQ := Lib.hid HQ
  have HA := Lib.hid ha
  have hsl := fun W => slice16 W p ls.length hle
  clear k ok HQ ha
  go_enter Try.func31, Try.ntmps31
  go_wp2_with (go_at_call 44; (with_reducible refine Calls.mono (TM _).out ?_); rintro e w1 ⟨rfl, rfl⟩)
  go_quiet (fail)
  go_wp2_with fail
  go_loopw [49] (fun iv wr => Hid (RelOn w p ds ls T iv wr)) (fun iv _ => ls.length - (intOf iv).toNat)
  case atStart =>
    refine ⟨0, rfl, by omega, ?_, ?_⟩
    · rw [gone_zero]; exact (K.out.time T).drewN _
    · exact (Only.setCell (F := ownI p ds) (Only.refl _ w) (p := ⟨p, 17, none⟩) (fun _ => .inl rfl) _).drewN _
  case round =>
    obtain ⟨i, rfl, hi, kI, oI⟩ := hrel
    by_cases hil : i < ls.length
    · have hi2 : (i : Int) < ls.length := by omega
      obtain ⟨b, n, hb, hn, kb, hmem, hcell⟩ := kI.at_ (i := i) (by rw [gone_length]; exact hil)
      rw [gone_at] at hn
      have okn := OK.out n (List.mem_of_getElem? hn)
      have cg := fun W (kk : IsG W b.g n.g) => go_any kk okn.g T hn0 (by omega)
      have bd := goF_bd okn.g T hn0
      have hr6 : wr.cell? ⟨b.x, 6, none⟩ = some (.pointer (some ⟨b.g, 0, none⟩)) := kb.x.cell 6
      have e0 := okn.e0
      have e1 := okn.e1
      have hst : deliverL T { n with g := (goF T n.g).2, held := n.held + (goF T n.g).1.1 } = stepL T n := rfl
      have HST := Lib.hid hst
      have CD := fun W (kk : IsL W b { n with g := (goF T n.g).2, held := n.held + (goF T n.g).1.1 }) => Lib.hid (HST.out ▸ deliver_any kk (H := H + 1000) ⟨okn.l, bd.2.2, okn.k, by simp only; omega, by simp only; omega, okn.p0, by have := okn.p1; simp only; omega, okn.w0, okn.w1, okn.r0, by have := okn.r1; simp only; omega⟩ T hn0 (by omega))
      clear hst HST
      generalize (goF T n.g).1.1 = r at *
      generalize (goF T n.g).1.2 = re at *
      generalize (goF T n.g).2 = g2 at *
      have CG := fun W kk => Lib.hid (cg W kk)
      obtain ⟨b0, b1, -⟩ := bd
      have KB := Lib.hid kb
      have KI := Lib.hid kI
      have OI := Lib.hid oI
      have HN := Lib.hid hn
      have HB := Lib.hid hb
      have hmem' := Lib.hid hmem
      clear cg kb kI oI okn hn hb hmem HHQ TM
      go_wp2_with (first
        | (go_at_call 45; (with_reducible refine Calls.mono (CG _ KB.out.g).out ?_); rintro e w2 ⟨rfl, kg2, o2⟩
           have kx2 := KB.out.x.only o2 KB.out.ne.1
           have kk2 := Blk.only KB.out.k o2 (fun e => KB.out.ne.2.2 e.symm)
           have r8 : w2.cell? ⟨b.x, 8, none⟩ = some (.int .i64 n.held) := kx2.cell 8
           have m8 : w2.frozen? ⟨b.x, 8, none⟩ = false := kx2.free 8
           have CDD := CD _ (IsL.held (n := { n with g := g2 }) ⟨kx2, kg2, kk2⟩ (n.held + r))
           have O2 := Lib.hid o2
           clear kx2 kk2 kg2 o2)
        | (go_at_call 35; (with_reducible refine Calls.mono CDD.out ?_); rintro e w3 ⟨rfl, k3, o3⟩
           have K3 := Lib.hid k3
           have O3 := Lib.hid o3
           clear k3 o3))
      go_roundw
      case rel =>
        have o := (Only.setCell (F := b.own) (O2.out.mono (fun i _ h => .inr (.inl h))) (p := ⟨b.x, 8, none⟩) (fun _ => .inl rfl) (.int .i64 (n.held + r))).trans O3.out (fun i _ h => h)
        refine ⟨i + 1, by go_num, by omega, ?_, OI.out.trans o (fun i _ h => .inr ⟨b, hmem'.out, h⟩)⟩
        have := KI.out.turn (n' := stepL T n) (b := b.g) HB.out o (fun j h => .inl h) (.inl rfl) K3.out
        rw [gone_next T ls HN.out, set_same_ad HB.out] at this
        exact this
      case measure => simp [intOf]; omega
    · have hi2 : ¬ (i : Int) < ls.length := by omega
      obtain rfl : i = ls.length := by omega
      rw [gone_all] at kI
      have HHQ' := Lib.hid (HHQ.out wr kI oI)
      obtain ⟨b, n, hb, hn, kb, hmem, hcell⟩ := kI.at_ (i := no) (by simp; exact hno)
      have hb := hb.symm.trans HA.out
      injection hb with hb
      subst hb
      clear kI oI kb hn TM hmem HHQ
      go_wp2_with (first
        | (go_at_call 37; (with_reducible refine Calls.mono HHQ'.out ?_); rintro e w' ⟨c, rfl, hq⟩))
      exact hq
set_option maxHeartbeats 4000000 in
theorem on_okMask {H : Int} (k : IsI w p ds ls now) (ok : ∀ n ∈ ls, n.ok H) (hH : H ≤ 1000000000) (T : Int) (h0 : now ≤ T) (hn0 : 0 ≤ T) (h1 : T < 4611686018427387904) (no : Nat) {a : Ad} (ha : ds[no]? = some a) (cap : Array Value) {Q : Ending → World → Prop}
    (HQ : ∀ W, IsI W p ds (ls.map (stepL T)) T → Only (ownI p ds) w W → Calls Try.prog 42 (#[.pointer (some ⟨a.x, 0, none⟩)] ++ cap) W fun e w' => ∃ c, e = .returned (.int .i64 c) ∧ Q e w') :
    Calls Try.prog 31 #[.pointer (some ⟨p, 0, none⟩), .int .u64 T, .int .i64 no, .func (.func 42) #[] cap] w Q := by
  obtain ⟨c16, c17, f17⟩ := k.cells
  have hle := k.le
  have hno : no < ls.length := by rw [← k.len]; exact (List.getElem?_eq_some_iff.1 ha).1
  have TM := fun W => Lib.hid (may_any T W)
  have d1 : decide (T < 4611686018427387904) = true := decide_eq_true h1
  have d2 : decide ((no : Int) < 0) = false := decide_eq_false (by omega)
  have d3 : decide ((ls.length : Int) ≤ no) = false := decide_eq_false (by omega)
  have d3' : decide (ls.length ≤ no) = false := decide_eq_false (by omega)
  have d4 : decide (T < now) = false := decide_eq_false (by omega)
  have K := Lib.hid k
  have OK := Lib.hid ok
  have HHQ := Lib.hid HQ
  have HA := Lib.hid ha
  have hsl := fun W => slice16 W p ls.length hle
  clear k ok HQ ha
  go_enter Try.func31, Try.ntmps31
  go_wp2_with (go_at_call 44; (with_reducible refine Calls.mono (TM _).out ?_); rintro e w1 ⟨rfl, rfl⟩)
  go_quiet (fail)
  go_wp2_with fail
  go_loopw [49] (fun iv wr => Hid (RelOn w p ds ls T iv wr)) (fun iv _ => ls.length - (intOf iv).toNat)
  case atStart =>
    refine ⟨0, rfl, by omega, ?_, ?_⟩
    · rw [gone_zero]; exact (K.out.time T).drewN _
    · exact (Only.setCell (F := ownI p ds) (Only.refl _ w) (p := ⟨p, 17, none⟩) (fun _ => .inl rfl) _).drewN _
  case round =>
    obtain ⟨i, rfl, hi, kI, oI⟩ := hrel
    by_cases hil : i < ls.length
    · have hi2 : (i : Int) < ls.length := by omega
      obtain ⟨b, n, hb, hn, kb, hmem, hcell⟩ := kI.at_ (i := i) (by rw [gone_length]; exact hil)
      rw [gone_at] at hn
      have okn := OK.out n (List.mem_of_getElem? hn)
      have cg := fun W (kk : IsG W b.g n.g) => go_any kk okn.g T hn0 (by omega)
      have bd := goF_bd okn.g T hn0
      have hr6 : wr.cell? ⟨b.x, 6, none⟩ = some (.pointer (some ⟨b.g, 0, none⟩)) := kb.x.cell 6
      have e0 := okn.e0
      have e1 := okn.e1
      have hst : deliverL T { n with g := (goF T n.g).2, held := n.held + (goF T n.g).1.1 } = stepL T n := rfl
      have HST := Lib.hid hst
      have CD := fun W (kk : IsL W b { n with g := (goF T n.g).2, held := n.held + (goF T n.g).1.1 }) => Lib.hid (HST.out ▸ deliver_any kk (H := H + 1000) ⟨okn.l, bd.2.2, okn.k, by simp only; omega, by simp only; omega, okn.p0, by have := okn.p1; simp only; omega, okn.w0, okn.w1, okn.r0, by have := okn.r1; simp only; omega⟩ T hn0 (by omega))
      clear hst HST
      generalize (goF T n.g).1.1 = r at *
      generalize (goF T n.g).1.2 = re at *
      generalize (goF T n.g).2 = g2 at *
      have CG := fun W kk => Lib.hid (cg W kk)
      obtain ⟨b0, b1, -⟩ := bd
      have KB := Lib.hid kb
      have KI := Lib.hid kI
      have OI := Lib.hid oI
      have HN := Lib.hid hn
      have HB := Lib.hid hb
      have hmem' := Lib.hid hmem
      clear cg kb kI oI okn hn hb hmem HHQ TM
      go_wp2_with (first
        | (go_at_call 45; (with_reducible refine Calls.mono (CG _ KB.out.g).out ?_); rintro e w2 ⟨rfl, kg2, o2⟩
           have kx2 := KB.out.x.only o2 KB.out.ne.1
           have kk2 := Blk.only KB.out.k o2 (fun e => KB.out.ne.2.2 e.symm)
           have r8 : w2.cell? ⟨b.x, 8, none⟩ = some (.int .i64 n.held) := kx2.cell 8
           have m8 : w2.frozen? ⟨b.x, 8, none⟩ = false := kx2.free 8
           have CDD := CD _ (IsL.held (n := { n with g := g2 }) ⟨kx2, kg2, kk2⟩ (n.held + r))
           have O2 := Lib.hid o2
           clear kx2 kk2 kg2 o2)
        | (go_at_call 35; (with_reducible refine Calls.mono CDD.out ?_); rintro e w3 ⟨rfl, k3, o3⟩
           have K3 := Lib.hid k3
           have O3 := Lib.hid o3
           clear k3 o3))
      go_roundw
      case rel =>
        have o := (Only.setCell (F := b.own) (O2.out.mono (fun i _ h => .inr (.inl h))) (p := ⟨b.x, 8, none⟩) (fun _ => .inl rfl) (.int .i64 (n.held + r))).trans O3.out (fun i _ h => h)
        refine ⟨i + 1, by go_num, by omega, ?_, OI.out.trans o (fun i _ h => .inr ⟨b, hmem'.out, h⟩)⟩
        have := KI.out.turn (n' := stepL T n) (b := b.g) HB.out o (fun j h => .inl h) (.inl rfl) K3.out
        rw [gone_next T ls HN.out, set_same_ad HB.out] at this
        exact this
      case measure => simp [intOf]; omega
    · have hi2 : ¬ (i : Int) < ls.length := by omega
      obtain rfl : i = ls.length := by omega
      rw [gone_all] at kI
      have HHQ' := Lib.hid (HHQ.out wr kI oI)
      obtain ⟨b, n, hb, hn, kb, hmem, hcell⟩ := kI.at_ (i := no) (by simp; exact hno)
      have hb := hb.symm.trans HA.out
      injection hb with hb
      subst hb
      clear kI oI kb hn TM hmem HHQ
      go_wp2_with (first
        | (go_at_call 42; (with_reducible refine Calls.mono HHQ'.out ?_); rintro e w' ⟨c, rfl, hq⟩))
      exact hq
set_option maxHeartbeats 4000000 in
theorem on_okGo {H : Int} (k : IsI w p ds ls now) (ok : ∀ n ∈ ls, n.ok H) (hH : H ≤ 1000000000) (T : Int) (h0 : now ≤ T) (hn0 : 0 ≤ T) (h1 : T < 4611686018427387904) (no : Nat) {a : Ad} (ha : ds[no]? = some a) (cap : Array Value) {Q : Ending → World → Prop}
    (HQ : ∀ W, IsI W p ds (ls.map (stepL T)) T → Only (ownI p ds) w W → Calls Try.prog 36 (#[.pointer (some ⟨a.x, 0, none⟩)] ++ cap) W fun e w' => ∃ c, e = .returned (.int .i64 c) ∧ Q e w') :
    Calls Try.prog 31 #[.pointer (some ⟨p, 0, none⟩), .int .u64 T, .int .i64 no, .func (.func 36) #[] cap] w Q := by
  obtain ⟨c16, c17, f17⟩ := k.cells
  have hle := k.le
  have hno : no < ls.length := by rw [← k.len]; exact (List.getElem?_eq_some_iff.1 ha).1
  have TM := fun W => Lib.hid (may_any T W)
  have d1 : decide (T < 4611686018427387904) = true := decide_eq_true h1
  have d2 : decide ((no : Int) < 0) = false := decide_eq_false (by omega)
  have d3 : decide ((ls.length : Int) ≤ no) = false := decide_eq_false (by omega)
  have d3' : decide (ls.length ≤ no) = false := decide_eq_false (by omega)
  have d4 : decide (T < now) = false := decide_eq_false (by omega)
  have K := Lib.hid k
  have OK := Lib.hid ok
  have HHQ := Lib.hid HQ
  have HA := Lib.hid ha
  have hsl := fun W => slice16 W p ls.length hle
  clear k ok HQ ha
  go_enter Try.func31, Try.ntmps31
  go_wp2_with (go_at_call 44; (with_reducible refine Calls.mono (TM _).out ?_); rintro e w1 ⟨rfl, rfl⟩)
  go_quiet (fail)
  go_wp2_with fail
  go_loopw [49] (fun iv wr => Hid (RelOn w p ds ls T iv wr)) (fun iv _ => ls.length - (intOf iv).toNat)
  case atStart =>
    refine ⟨0, rfl, by omega, ?_, ?_⟩
    · rw [gone_zero]; exact (K.out.time T).drewN _
    · exact (Only.setCell (F := ownI p ds) (Only.refl _ w) (p := ⟨p, 17, none⟩) (fun _ => .inl rfl) _).drewN _
  case round =>
    obtain ⟨i, rfl, hi, kI, oI⟩ := hrel
    by_cases hil : i < ls.length
    · have hi2 : (i : Int) < ls.length := by omega
      obtain ⟨b, n, hb, hn, kb, hmem, hcell⟩ := kI.at_ (i := i) (by rw [gone_length]; exact hil)
      rw [gone_at] at hn
      have okn := OK.out n (List.mem_of_getElem? hn)
      have cg := fun W (kk : IsG W b.g n.g) => go_any kk okn.g T hn0 (by omega)
      have bd := goF_bd okn.g T hn0
      have hr6 : wr.cell? ⟨b.x, 6, none⟩ = some (.pointer (some ⟨b.g, 0, none⟩)) := kb.x.cell 6
      have e0 := okn.e0
      have e1 := okn.e1
      have hst : deliverL T { n with g := (goF T n.g).2, held := n.held + (goF T n.g).1.1 } = stepL T n := rfl
      have HST := Lib.hid hst
      have CD := fun W (kk : IsL W b { n with g := (goF T n.g).2, held := n.held + (goF T n.g).1.1 }) => Lib.hid (HST.out ▸ deliver_any kk (H := H + 1000) ⟨okn.l, bd.2.2, okn.k, by simp only; omega, by simp only; omega, okn.p0, by have := okn.p1; simp only; omega, okn.w0, okn.w1, okn.r0, by have := okn.r1; simp only; omega⟩ T hn0 (by omega))
      clear hst HST
      generalize (goF T n.g).1.1 = r at *
      generalize (goF T n.g).1.2 = re at *
      generalize (goF T n.g).2 = g2 at *
      have CG := fun W kk => Lib.hid (cg W kk)
      obtain ⟨b0, b1, -⟩ := bd
      have KB := Lib.hid kb
      have KI := Lib.hid kI
      have OI := Lib.hid oI
      have HN := Lib.hid hn
      have HB := Lib.hid hb
      have hmem' := Lib.hid hmem
      clear cg kb kI oI okn hn hb hmem HHQ TM
      go_wp2_with (first
        | (go_at_call 45; (with_reducible refine Calls.mono (CG _ KB.out.g).out ?_); rintro e w2 ⟨rfl, kg2, o2⟩
           have kx2 := KB.out.x.only o2 KB.out.ne.1
           have kk2 := Blk.only KB.out.k o2 (fun e => KB.out.ne.2.2 e.symm)
           have r8 : w2.cell? ⟨b.x, 8, none⟩ = some (.int .i64 n.held) := kx2.cell 8
           have m8 : w2.frozen? ⟨b.x, 8, none⟩ = false := kx2.free 8
           have CDD := CD _ (IsL.held (n := { n with g := g2 }) ⟨kx2, kg2, kk2⟩ (n.held + r))
           have O2 := Lib.hid o2
           clear kx2 kk2 kg2 o2)
        | (go_at_call 35; (with_reducible refine Calls.mono CDD.out ?_); rintro e w3 ⟨rfl, k3, o3⟩
           have K3 := Lib.hid k3
           have O3 := Lib.hid o3
           clear k3 o3))
      go_roundw
      case rel =>
        have o := (Only.setCell (F := b.own) (O2.out.mono (fun i _ h => .inr (.inl h))) (p := ⟨b.x, 8, none⟩) (fun _ => .inl rfl) (.int .i64 (n.held + r))).trans O3.out (fun i _ h => h)
        refine ⟨i + 1, by go_num, by omega, ?_, OI.out.trans o (fun i _ h => .inr ⟨b, hmem'.out, h⟩)⟩
        have := KI.out.turn (n' := stepL T n) (b := b.g) HB.out o (fun j h => .inl h) (.inl rfl) K3.out
        rw [gone_next T ls HN.out, set_same_ad HB.out] at this
        exact this
      case measure => simp [intOf]; omega
    · have hi2 : ¬ (i : Int) < ls.length := by omega
      obtain rfl : i = ls.length := by omega
      rw [gone_all] at kI
      have HHQ' := Lib.hid (HHQ.out wr kI oI)
      obtain ⟨b, n, hb, hn, kb, hmem, hcell⟩ := kI.at_ (i := no) (by simp; exact hno)
      have hb := hb.symm.trans HA.out
      injection hb with hb
      subst hb
      clear kI oI kb hn TM hmem HHQ
      go_wp2_with (first
        | (go_at_call 36; (with_reducible refine Calls.mono HHQ'.out ?_); rintro e w' ⟨c, rfl, hq⟩))
      exact hq
end
end Go.Proofs.Ytbdhmjlbogjkoaa
