/- Layer 23 (lock): Back, Gone. -/
import Derived.Test.YthmcgbjkbcogkaaLockE
namespace Go.Proofs.Ythmcgbjkbcogkaa
open Go.RowKit
open Go.Maps (Keyed)
set_option linter.unusedVariables false
set_option linter.unusedSimpArgs false
/-- What Back did. -/
def BackR (ms : Int → Option Mm) (i : Int) (m : Mm) (l c : Int) (ms' : Int → Option Mm) : Prop :=
  (idxP m.held l < 0 ∧ c = 8 ∧ ms' = ms) ∨ (0 ≤ idxP m.held l ∧ idxP m.held l < (m.held.length : Int) - 1 ∧ c = 12 ∧ ms' = ms) ∨
    (0 < m.held.length ∧ idxP m.held l = (m.held.length : Int) - 1 ∧ c = 0 ∧ ms' = upd ms i ⟨m.prio, m.held.take (m.held.length - 1)⟩)
theorem own_same (A : Option Addr) (n c n' c' : Nat) : (Value.slice A n c).ownBlock = (Value.slice A n' c').ownBlock := by cases A <;> rfl
theorem idxP_lt (l : List Int) (x : Int) : idxP l x ≤ (l.length : Int) - 1 := by
  unfold idxP
  cases e : l.findIdx? (· == x) with
  | none => simp only; omega
  | some i =>
    obtain ⟨hi, h1, -⟩ := (List.findIdx?_eq_some_iff_getElem).1 e
    simp only; omega
section
variable {w : World} {K : Kp} {cs : List Int} {ms : Int → Option Mm}
theorem back_ok (k : IsK w K cs ms) {i : Int} {m : Mm} (hm : ms i = some m) (p : Nat) :
    (m.held.take p).length ≤ K.N + 1 ∧ (∀ x ∈ m.held.take p, 0 ≤ x ∧ x < cs.length) ∧ (∀ x ∈ m.held.take p, ∀ j, j ≠ i → ¬ holds ms j x) ∧ (m.held.take p).Nodup := by
  refine ⟨by have := k.len i m hm; have := List.length_take_le p m.held; have := List.length_take_le' p m.held; omega, fun x hx => k.inr i m x hm (List.mem_of_mem_take hx), fun x hx j hj hh => hj (k.uniq j i x hh ⟨m, hm, List.mem_of_mem_take hx⟩), ?_⟩
  exact (List.take_sublist p m.held).nodup (k.nd i m hm)
def Back1Post (w : World) (K : Kp) (cs : List Int) (ms : Int → Option Mm) (i : Int) (m : Mm) (l : Int) (e : Ending) (w' : World) : Prop :=
  ∃ c, e = .returned (.int .i64 c) ∧ ∃ K' ms', Step w w' K K' cs ms' ∧ BackR ms i m l c ms'
set_option maxHeartbeats 4000000 in
theorem back1_any (k : IsK w K cs ms) (i l : Int) {m : Mm} (hm : ms i = some m) (hN : K.N + 1 ≤ 1000) {x : Nat} (hx : K.f i = some x) (b : Nat) (kb : Blk w b 3 [.int .i64 l]) :
    Calls Try.prog 26 #[.pointer (some ⟨x, 0, none⟩), .pointer (some ⟨b, 0, none⟩)] w (Back1Post w K cs ms i m l) := by
  obtain ⟨x', hx', kx, sx⟩ := k.kn hm
  rw [hx] at hx'
  injection hx' with hx'
  subst hx'
  have hln := k.len i m hm
  have hnn := k.nn
  have b0 : w.cell? ⟨b, 0, none⟩ = some (.int .i64 l) := kb.cell 0
  have bl := kb.lt
  have x1 : w.cell? ⟨x, 1, none⟩ = some (K.hv i) := kx.cell 1
  have xf : w.frozen? ⟨x, 1, none⟩ = false := kx.free 1
  have xl := kx.lt
  obtain ⟨A, ca, ev, hca⟩ := sx.shape
  rw [ev] at x1 sx
  have EV := Lib.hid ev
  have NB := Lib.hid (sx.ne kx (by decide))
  have hmax := sx.len
  obtain ⟨hl, hhl⟩ : ∃ hl, m.held.length = hl := ⟨_, rfl⟩
  have HHL := Lib.hid hhl
  have hq2 := idxP_lt m.held l
  rw [hhl] at x1 sx hln hq2 hca
  have K0 := Lib.hid k
  have KX := Lib.hid kx
  have SX := Lib.hid sx
  have HM := Lib.hid hm
  have HX := Lib.hid hx
  have IX := fun W hs => Lib.hid (index_any W A hl ca m.held l hs (by omega))
  have Q : Hid (∀ c ms', BackR ms i m l c ms' = BackR ms i m l c ms') := fun _ _ => rfl
  obtain ⟨q, hq⟩ : ∃ q, idxP m.held l = q := ⟨_, rfl⟩
  have HQ := Lib.hid hq
  rw [hq] at hq2 IX
  clear k kx sx hm hx kb ev hhl hq Q
  by_cases z1 : q < 0
  · have d1 : decide (q < 0) = true := decide_eq_true z1
    go_enter Try.func26, Try.ntmps26
    go_wp2_with fail
    go_region_with (go_at_call 27; (with_reducible refine Calls.mono (IX _ (by first | exact SX.out | exact SX.out.drew | exact SX.out.drewN _)).out ?_); rintro e w' ⟨rfl, rfl⟩)
    all_goals
      go_wp2_with fail
      go_ret
      exact ⟨_, rfl, K, ms, Step.same K0.out (by first | exact Below.refl _ _ | exact Below.drewN' (Below.refl _ _) 1), .inl ⟨by rw [HQ.out]; exact z1, rfl, rfl⟩⟩
  · have d1 : decide (q < 0) = false := decide_eq_false z1
    obtain ⟨p, rfl⟩ : ∃ p, hl = p + 1 := ⟨hl - 1, by omega⟩
    by_cases z2 : q < p
    · have d2 : decide (q < p) = true := decide_eq_true z2
      go_enter Try.func26, Try.ntmps26
      go_wp2_with fail
      go_region_with (go_at_call 27; (with_reducible refine Calls.mono (IX _ (by first | exact SX.out | exact SX.out.drew | exact SX.out.drewN _)).out ?_); rintro e w' ⟨rfl, rfl⟩)
      all_goals
        go_wp2_with fail
        go_ret
        exact ⟨_, rfl, K, ms, Step.same K0.out (by first | exact Below.refl _ _ | exact Below.drewN' (Below.refl _ _) 1), .inr (.inl ⟨by rw [HQ.out]; omega, by rw [HQ.out, HHL.out]; omega, rfl, rfl⟩)⟩
    · have d2 : decide (q < p) = false := decide_eq_false z2
      have xd : ∀ k, (w.drewN k).frozen? ⟨x, 1, none⟩ = false := fun k => xf
      go_enter Try.func26, Try.ntmps26
      go_wp2_with fail
      go_region_with (go_at_call 27; (with_reducible refine Calls.mono (IX _ (by first | exact SX.out | exact SX.out.drew | exact SX.out.drewN _)).out ?_); rintro e w' ⟨rfl, rfl⟩)
      all_goals
        go_wp2_with fail
        go_ret
        have kx3 := (KX.out.put 1 (.slice A p p)).drew
        have nb : (Value.slice A p p).ownBlock ≠ some x := by rw [own_same A p p m.held.length ca]; exact NB.out
        have sx3 := ((SX.out.front (m := p) (by omega) (by omega)).far (p := ⟨x, 1, none⟩) nb (.slice A p p)).drew
        obtain ⟨q1, q2, q3, q4⟩ := back_ok K0.out HM.out p
        have ln : (m.held.take p).length = p := by rw [List.length_take, HHL.out]; omega
        refine ⟨_, rfl, _, _, K0.out.turn HX.out HM.out (m' := ⟨m.prio, m.held.take p⟩) (v' := .slice A p p) ((Only.refl _ _).setCell (fun _ => .inl rfl) _).drew kx3 ?_ ?_ q1 q2 q3 q4 hN, .inr (.inr ⟨by rw [HHL.out]; omega, by rw [HQ.out, HHL.out]; omega, rfl, by rw [HHL.out]; rfl⟩)⟩
        · show Slc _ _ 1 _ (m.held.take p).length (ints (m.held.take p))
          rw [ln, ← ints_take]
          exact sx3
        · intro g hg
          left
          rw [EV.out, own_same A m.held.length ca p p]
          exact hg
/-- What Back tells, and what becomes of the keeper. -/
def BackPost (w : World) (K : Kp) (cs : List Int) (ms : Int → Option Mm) (i l : Int) (e : Ending) (w' : World) : Prop :=
  ∃ c K' ms', e = .returned (.int .i64 c) ∧ Step w w' K K' cs ms' ∧ ((¬ (0 ≤ l ∧ l < cs.length) ∧ c = 1 ∧ ms' = ms) ∨ ((0 ≤ l ∧ l < cs.length) ∧ ms i = none ∧ c = 6 ∧ ms' = ms) ∨ ∃ m, (0 ≤ l ∧ l < cs.length) ∧ ms i = some m ∧ BackR ms i m l c ms')
theorem box1 (w : World) (l : Int) : Blk (w.alloc (.cells #[.int .i64 l] 3)) w.heap.size 3 [.int .i64 l] := Blk.new w 3 [.int .i64 l]
theorem back_any (k : IsK w K cs ms) (i l : Int) (hi : 0 ≤ i ∧ i ≤ 63) (hN : K.N + 1 ≤ 1000) :
    Calls Try.prog 15 #[.pointer (some ⟨K.k, 0, none⟩), .int .i64 i, .int .i64 l] w (BackPost w K cs ms i l) := by
  have hmf : ∀ (fn : Fn) (first cap : Array Value) (w : World), (Instr.makeFunc fn first cap).run Try.prog w = .ok (.func fn first cap) w := fun _ _ _ _ => rfl
  have bw : Below w.heap.size w (w.alloc (.cells #[.int .i64 l] 3)) := (Below.refl _ _).alloc (Nat.le_refl _) _
  have kw := k.below bw
  have b1 := box1 w l
  have c1 := b1.cell 0
  simp only [List.getElem?_cons_zero] at c1
  have K0 := Lib.hid k
  have BW := Lib.hid bw
  by_cases hl : 0 ≤ l ∧ l < cs.length
  · cases hm : ms i with
    | none =>
      have D := Lib.hid (with_nf kw i l hi hl hm (.func 26) #[] #[.pointer (some ⟨w.heap.size, 0, none⟩)])
      have HM := Lib.hid hm
      clear k kw bw hm b1
      go_enter Try.func15, Try.ntmps15
      go_wp2_with (go_at_call 24; (with_reducible refine Calls.mono D.out ?_); rintro e w' ⟨rfl, rfl⟩)
      go_ret
      exact ⟨_, K, ms, rfl, Step.same K0.out BW.out, .inr (.inl ⟨hl, HM.out, rfl, rfl⟩)⟩
    | some m =>
      obtain ⟨x, hx, -, -⟩ := k.kn hm
      have T1 := back1_any kw i l hm hN hx w.heap.size b1
      have D := Lib.hid (with_Back kw i l hi hl hx #[.pointer (some ⟨w.heap.size, 0, none⟩)] (Q := BackPost w K cs ms i l)
        (T1.mono fun e w' ⟨c, he, K', ms', st, ht⟩ => ⟨c, he, c, K', ms', he, Step.behind bw st, .inr (.inr ⟨m, hl, hm, ht⟩)⟩))
      clear k kw bw hm b1 T1 hx
      go_enter Try.func15, Try.ntmps15
      go_wp2_with (go_at_call 24; (with_reducible refine Calls.mono D.out ?_); rintro e w' ⟨c, K', ms', rfl, hq⟩; have HQ := Lib.hid hq; clear hq)
      go_ret
      exact ⟨c, K', ms', rfl, HQ.out⟩
  · have D := Lib.hid (with_arg kw i l (by omega) (.func 26) #[] #[.pointer (some ⟨w.heap.size, 0, none⟩)])
    have HL := Lib.hid hl
    clear k kw bw b1 hl
    go_enter Try.func15, Try.ntmps15
    go_wp2_with (go_at_call 24; (with_reducible refine Calls.mono D.out ?_); rintro e w' ⟨rfl, rfl⟩)
    go_ret
    exact ⟨_, K, ms, rfl, Step.same K0.out BW.out, .inl ⟨HL.out, rfl, rfl⟩⟩
def GonePost (w : World) (K : Kp) (cs : List Int) (ms : Int → Option Mm) (i : Int) (e : Ending) (w' : World) : Prop :=
  ∃ A c K', e = .returned (.slice A (heldM (ms i)).length c) ∧ Slc w' 3 1 (.slice A (heldM (ms i)).length c) (heldM (ms i)).length (ints (heldM (ms i)).reverse) ∧ (∀ g, (Value.slice A (heldM (ms i)).length c).ownBlock = some g → w.heap.size ≤ g) ∧ Step w w' K K' cs (without ms i)
set_option maxHeartbeats 2000000 in
theorem gone_any (k : IsK w K cs ms) (i : Int) (hi : 0 ≤ i ∧ i ≤ 63) :
    Calls Try.prog 16 #[.pointer (some ⟨K.k, 0, none⟩), .int .i64 i] w (GonePost w K cs ms i) := by
  have HE := Lib.hid (held_any k i hi)
  have hln : (heldM (ms i)).length ≤ 1000 := by
    have := k.nn
    cases e : ms i with
    | none => simp [heldM]
    | some m => have := k.len i m e; simp only [heldM]; omega
  obtain ⟨l, hl⟩ : ∃ l, heldM (ms i) = l := ⟨_, rfl⟩
  have HL := Lib.hid hl
  rw [hl] at HE hln
  obtain ⟨n, hn⟩ : ∃ n, l.length = n := ⟨_, rfl⟩
  have HN := Lib.hid hn
  rw [hn] at HE hln
  have RV := fun W A c hs => Lib.hid (reverse_any W A n c l hs (by omega))
  have K0 := Lib.hid k
  have OKI := Lib.hid (k.key hi)
  clear k hl hn
  go_enter Try.func16, Try.ntmps16
  go_wp2_with (first
    | (go_at_call 10; (with_reducible refine Calls.mono HE.out ?_); rintro e w1 ⟨A, c, rfl, s1, b1, o1⟩
       have S1 := Lib.hid s1
       have B1 := Lib.hid b1
       have O1 := Lib.hid o1
       clear s1 b1 o1)
    | (go_at_call 28; (with_reducible refine Calls.mono (RV _ _ _ S1.out).out ?_); rintro e w2 ⟨rfl, s2, o2⟩
       have k2 := (K0.out.below B1.out).only o2 (fun g hg ha => by have := O1.out g hg; have := K0.out.lt ha; omega)
       have B2 := Lib.hid (B1.out.trans (o2.below B1.out.size (fun g hg e => by have := O1.out g e; omega)))
       have S2 := Lib.hid s2
       have K2 := Lib.hid k2
       have c2 : w2.cell? ⟨K.k, 1, none⟩ = some (.map (some K.mb)) := k2.blk.cell 1
       have hkl := k2.blk.lt
       clear s2 o2 k2)
    | (at_delete; refine wpList_del_ref _ rfl _ _ rfl K.mb K.N K.f rfl K2.out.map i rfl OKI.out ?_; intro w3 m3 o3; have M3 := Lib.hid m3; have O3 := Lib.hid o3; clear m3 o3))
  go_ret
  have st := Step.behind B2.out (K2.out.gone O3.out M3.out)
  refine ⟨A, c, _, by rw [HL.out, HN.out]; rfl, ?_, ?_, st⟩
  · rw [HL.out, HN.out]
    exact S2.out.only O3.out (fun g hg e => K2.out.map.neS S2.out (by rw [hg, e]))
  · rw [HL.out, HN.out]
    exact O1.out
end
end Go.Proofs.Ythmcgbjkbcogkaa
