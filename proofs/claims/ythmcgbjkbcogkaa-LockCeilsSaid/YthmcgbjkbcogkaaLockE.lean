/- Layer 23 (lock): Take, Back, Gone. -/
import Derived.Test.YthmcgbjkbcogkaaLockD
import Derived.Deep.QuietTactic
import Derived.BigQuiet
import Derived.StillTailTactics
import Derived.Deep.RegionLaw
import Derived.Deep.RegionWith
namespace Go.Proofs.Ythmcgbjkbcogkaa
open Go.RowKit
open Go.Maps (Keyed)
set_option linter.unusedVariables false
set_option linter.unusedSimpArgs false
theorem ints_app (a b : List Int) : ints (a ++ b) = ints a ++ ints b := by simp [ints]
theorem ints_take (l : List Int) (n : Nat) : (ints l).take n = ints (l.take n) := by simp [ints]
/-- The front of a slice, its room cut off. -/
theorem Slc.front {w : World} {e : TypeId} {A : Option Addr} {n c : Nat} {xs : List Value} (h : Slc w e 1 (.slice A n c) n xs) {m : Nat} (hm : m ≤ n) (h0 : 0 < n) : Slc w e 1 (.slice A m m) m (xs.take m) := by
  obtain ⟨hl, h⟩ := h
  rcases h with ⟨h1, h2⟩ | ⟨g, off, c', cs, e1, hh, hc, hx, hs, hj⟩
  · omega
  · injection e1 with e1 e2 e3
    subst e1 e3
    refine ⟨by rw [List.length_take, hl]; omega, .inr ⟨g, off, m, cs, rfl, hh, Nat.le_refl _, by omega, by omega, fun j u hu => ?_⟩⟩
    rw [List.getElem?_take] at hu
    split at hu
    · exact hj j u hu
    · cases hu
/-- What Take did. -/
def TakeR (cs : List Int) (ms : Int → Option Mm) (i : Int) (m : Mm) (l c : Int) (ms' : Int → Option Mm) : Prop :=
  (holds ms i l ∧ c = 7 ∧ ms' = ms) ∨ (¬ holds ms i l ∧ m.prio < cs.getD l.toNat 0 ∧ c = 11 ∧ ms' = ms) ∨ (¬ holds ms i l ∧ cs.getD l.toNat 0 ≤ m.prio ∧ (∃ j, j ≠ i ∧ holds ms j l) ∧ c = 10 ∧ ms' = ms) ∨
    ((∀ j, ¬ holds ms j l) ∧ cs.getD l.toNat 0 ≤ m.prio ∧ c = 0 ∧ ms' = upd ms i ⟨m.prio, m.held ++ [l]⟩)
section
variable {w : World} {K : Kp} {cs : List Int} {ms : Int → Option Mm}
theorem take_ok (k : IsK w K cs ms) {i : Int} {m : Mm} (hm : ms i = some m) {l : Int} (h : 0 ≤ l ∧ l < cs.length) (no : ∀ j, ¬ holds ms j l) :
    (m.held ++ [l]).length ≤ K.N + 1 ∧ (∀ x ∈ m.held ++ [l], 0 ≤ x ∧ x < cs.length) ∧ (∀ x ∈ m.held ++ [l], ∀ j, j ≠ i → ¬ holds ms j x) ∧ (m.held ++ [l]).Nodup := by
  refine ⟨by have := k.len i m hm; rw [List.length_append]; simp; omega, fun x hx => ?_, fun x hx j hj hh => ?_, ?_⟩
  · rcases List.mem_append.1 hx with hx | hx
    · exact k.inr i m x hm hx
    · obtain rfl := List.mem_singleton.1 hx
      exact h
  · rcases List.mem_append.1 hx with hx | hx
    · exact hj (k.uniq j i x hh ⟨m, hm, hx⟩)
    · obtain rfl := List.mem_singleton.1 hx
      exact no j hh
  · rw [List.nodup_append]
    refine ⟨k.nd i m hm, by simp, fun a ha b hb => ?_⟩
    obtain rfl := List.mem_singleton.1 hb
    rintro rfl
    exact no i ⟨m, hm, ha⟩
def Take1Post (w : World) (K : Kp) (cs : List Int) (ms : Int → Option Mm) (i : Int) (m : Mm) (l : Int) (e : Ending) (w' : World) : Prop :=
  ∃ c, e = .returned (.int .i64 c) ∧ ∃ K' ms', Step w w' K K' cs ms' ∧ TakeR cs ms i m l c ms'
set_option maxHeartbeats 4000000 in
theorem take1_any (k : IsK w K cs ms) (i l : Int) {m : Mm} (hm : ms i = some m) (h : 0 ≤ l ∧ l < cs.length) (hN : K.N + 1 ≤ 1000) {x : Nat} (hx : K.f i = some x) (a b c : Nat) (ka : Blk w a 27 [.pointer (some ⟨K.k, 0, none⟩)]) (kb : Blk w b 3 [.int .i64 l]) (kc : Blk w c 3 [.int .i64 i]) :
    Calls Try.prog 25 #[.pointer (some ⟨x, 0, none⟩), .pointer (some ⟨a, 0, none⟩), .pointer (some ⟨b, 0, none⟩), .pointer (some ⟨c, 0, none⟩)] w (Take1Post w K cs ms i m l) := by
  obtain ⟨x', hx', kx, sx⟩ := k.kn hm
  rw [hx] at hx'
  injection hx' with hx'
  subst hx'
  obtain ⟨gl, offl, cL, elv, hll, hlc⟩ := k.lvShape
  have hln := k.len i m hm
  have a0 : w.cell? ⟨a, 0, none⟩ = some (.pointer (some ⟨K.k, 0, none⟩)) := ka.cell 0
  have b0 : w.cell? ⟨b, 0, none⟩ = some (.int .i64 l) := kb.cell 0
  have c0 : w.cell? ⟨c, 0, none⟩ = some (.int .i64 i) := kc.cell 0
  have al := ka.lt
  have bl := kb.lt
  have cl := kc.lt
  have HOLD := Lib.hid (holder_any k l)
  obtain ⟨n, rfl⟩ : ∃ n : Nat, l = n := ⟨l.toNat, by omega⟩
  have hn : n < cs.length := by omega
  have hn2 : (n : Int) < cs.length := by omega
  obtain ⟨ce, hce⟩ : ∃ ce, cs[n]? = some ce := ⟨_, List.getElem?_eq_getElem hn⟩
  have EG : Hid (cs.getD (n : Int).toNat 0 = ce) := by show List.getD _ _ _ = _; simp [List.getD, hce]
  have K0 := Lib.hid k
  have KX := Lib.hid kx
  have SX := Lib.hid sx
  have HM := Lib.hid hm
  have HX := Lib.hid hx
  have hcl := k.cl
  have ELV := Lib.hid elv
  have CE := Lib.hid (hlc n ce hce)
  clear k kx sx hm hx ka kb kc elv hlc hce
  go_enter Try.func25, Try.ntmps25
  go_wp2_with fail
  go_at_call 17
  (with_reducible refine Calls.mono HOLD.out ?_); rintro e w1 ⟨hr, hb⟩
  have HB := Lib.hid hb
  have l1 := hb.size
  have a1 := (hb.cell (p := ⟨a, 0, none⟩) al).trans a0
  have b1 := (hb.cell (p := ⟨b, 0, none⟩) bl).trans b0
  have c1 := (hb.cell (p := ⟨c, 0, none⟩) cl).trans c0
  have kk := K0.out.below hb
  have kx1 := KX.out.below hb KX.out.lt
  have sx1 := SX.out.below hb (fun g hg => SX.out.lt hg)
  have K1 := Lib.hid kk
  have KX1 := Lib.hid kx1
  have x0 : w1.cell? ⟨x, 0, none⟩ = some (.int .i64 m.prio) := kx1.cell 0
  have x1 : w1.cell? ⟨x, 1, none⟩ = some (K.hv i) := kx1.cell 1
  have xf : w1.frozen? ⟨x, 1, none⟩ = false := kx1.free 1
  have xl := kx1.lt
  have k0 : w1.cell? ⟨K.k, 0, none⟩ = some K.lv := kk.blk.cell 0
  rw [ELV.out] at k0
  have kl := kk.blk.lt
  have g0 := (hb.cell (p := ⟨gl, offl + n, none⟩) hll).trans CE.out
  have S1 := Lib.hid sx1
  clear hb kk kx1 sx1 a0 b0 c0
  rcases hr with ⟨j, hj, rfl⟩ | ⟨hno, rfl⟩
  · have HJ := Lib.hid hj
    by_cases e : j = i
    · subst e
      clear hj
      go_wp2_with fail
      go_ret
      exact ⟨_, rfl, K, ms, Step.same K0.out HB.out, .inl ⟨HJ.out, rfl, rfl⟩⟩
    · have e1 : (j == i) = false := beq_eq_false_iff_ne.2 e
      have NH : Hid (¬ holds ms i n) := fun h => e (K0.out.uniq j i n hj h)
      have E2 := Lib.hid e
      clear hj e
      by_cases hp : m.prio < ce
      · have d1 : decide (m.prio < ce) = true := decide_eq_true hp
        have HP : Hid (m.prio < cs.getD (n : Int).toNat 0) := by rw [EG.out]; exact hp
        go_wp2_with fail
        go_quiet (fail)
        go_wp2_with fail
        go_ret
        exact ⟨_, rfl, K, ms, Step.same K0.out (Below.drewN' HB.out _), .inr (.inl ⟨NH.out, HP.out, rfl, rfl⟩)⟩
      · have d1 : decide (m.prio < ce) = false := decide_eq_false hp
        have HP : Hid (cs.getD (n : Int).toNat 0 ≤ m.prio) := by rw [EG.out]; exact Int.not_lt.1 hp
        go_wp2_with fail
        go_quiet (fail)
        go_wp2_with fail
        go_ret
        exact ⟨_, rfl, K, ms, Step.same K0.out (Below.drewN' HB.out _), .inr (.inr (.inl ⟨NH.out, HP.out, ⟨j, E2.out, HJ.out⟩, rfl, rfl⟩))⟩
  · have NO := Lib.hid hno
    clear hno
    by_cases hp : m.prio < ce
    · have d1 : decide (m.prio < ce) = true := decide_eq_true hp
      have HP : Hid (m.prio < cs.getD (n : Int).toNat 0) := by rw [EG.out]; exact hp
      go_wp2_with fail
      go_quiet (fail)
      go_wp2_with fail
      go_ret
      exact ⟨_, rfl, K, ms, Step.same K0.out (Below.drewN' HB.out _), .inr (.inl ⟨NO.out i, HP.out, rfl, rfl⟩)⟩
    · have d1 : decide (m.prio < ce) = false := decide_eq_false hp
      have HP : Hid (cs.getD (n : Int).toNat 0 ≤ m.prio) := by rw [EG.out]; exact Int.not_lt.1 hp
      obtain ⟨i0, hi0, hz0, hz1, hz2⟩ := info_parts infoInt
      obtain ⟨A2, c2, ev, -⟩ := S1.out.shape
      have NB := Lib.hid (S1.out.ne KX1.out (by decide))
      have EV := Lib.hid ev
      obtain ⟨hl, hhl⟩ : ∃ hl, m.held.length = hl := ⟨_, rfl⟩
      have HHL := Lib.hid hhl
      have NB2 := NB
      have S2 := S1
      rw [ev, hhl] at NB2
      rw [ev, hhl] at S2
      rw [ev, hhl] at x1
      have hl9 : hl ≤ 1000 := by have := K0.out.nn; omega
      have xal : ∀ k, ((w1.drewN k).alloc (.cells #[.int .i64 n] 3)).cell? ⟨x, 1, none⟩ = some (.slice A2 hl c2) := fun k => (World.cell?_alloc_lt (w1.drewN k) _ ⟨x, 1, none⟩ xl).trans x1
      clear ev hhl
      go_wp2_with fail
      go_quiet (fail)
      go_wp2_with fail
      go_region_law ((refine step_append_slc _ rfl (.tmp 41) (.tmp 43) _ rfl 3 i0 _ 1 8 Try.underlying34 hi0 hz0 hz1 hz2 rfl (by omega) (.slice A2 hl c2) hl (ints m.held) rfl (Slc.alloc (Slc.drewN S2.out _) _) (some ⟨w1.heap.size, 0, none⟩) 1 1 [.int .i64 n] rfl (Src.one (w1.drewN _) 3 (.int .i64 n)) (by simp [Value.oneCell']) (by omega) (by simp only [maxLen]; omega) ?_); intro v3 w3 hs3 ho3 hat3; have kb3 := Blk.only (Blk.alloc (Blk.drewN KX1.out _) _) ho3 NB2.out; have f3 := kb3.free 1; have z3 := kb3.cell 1; simp only [List.getElem?_cons_succ, List.getElem?_cons_zero] at z3; obtain ⟨A3, cap3, e3, -⟩ := hs3.shape; subst e3; have KB3 := Lib.hid kb3; have HS3 := Lib.hid hs3; have HO3 := Lib.hid ho3; have HAT3 := Lib.hid hat3; clear kb3 hs3 ho3 hat3)
      all_goals
        go_wp2_with fail
        go_ret
        have kw0 := (K1.out.drewN (nq + 1)).alloc (.cells #[.int .i64 n] 3)
        have bw0 : Below w.heap.size w ((w1.drewN (nq + 1)).alloc (.cells #[.int .i64 n] 3)) := (Below.drewN' HB.out (nq + 1)).alloc HB.out.size _
        have kx3 := KB3.out.put 1 (.slice A3 (hl + 1) cap3)
        have sx3 := HS3.out.far (HS3.out.ne KB3.out (by decide)) (p := ⟨x, 1, none⟩) (.slice A3 (hl + 1) cap3)
        obtain ⟨q1, q2, q3, q4⟩ := take_ok K0.out HM.out h NO.out
        have ln : (m.held ++ [(n : Int)]).length = hl + 1 := by rw [List.length_append, HHL.out]; rfl
        refine ⟨_, rfl, _, _, Step.behind bw0 (kw0.turn HX.out HM.out (m' := ⟨m.prio, m.held ++ [(n : Int)]⟩) (v' := .slice A3 (hl + 1) cap3) ((HO3.out.mono (fun g _ hg => .inr (by rw [EV.out, HHL.out]; exact hg))).setCell (fun _ => .inl rfl) _) kx3 ?_ ?_ q1 q2 q3 q4 hN), .inr (.inr (.inr ⟨NO.out, HP.out, rfl, rfl⟩))⟩
        · show Slc _ _ 1 _ (m.held ++ [(n : Int)]).length (ints (m.held ++ [(n : Int)]))
          rw [ln, ints_app]
          exact sx3
        · intro g hg
          rcases HAT3.out with e | e
          · left; rw [EV.out, HHL.out, ← e]; exact hg
          · rw [e] at hg; injection hg with hg; right; exact Nat.le_of_eq hg
theorem boxes (w : World) (v : Value) (i l : Int) {t : TypeId} : Blk (((w.alloc (.cells #[v] t)).alloc (.cells #[.int .i64 i] 3)).alloc (.cells #[.int .i64 l] 3)) w.heap.size t [v] ∧
    Blk (((w.alloc (.cells #[v] t)).alloc (.cells #[.int .i64 i] 3)).alloc (.cells #[.int .i64 l] 3)) (w.heap.size + 1) 3 [.int .i64 i] ∧
    Blk (((w.alloc (.cells #[v] t)).alloc (.cells #[.int .i64 i] 3)).alloc (.cells #[.int .i64 l] 3)) (w.heap.size + 2) 3 [.int .i64 l] := by
  have k1 := ((Blk.new w t [v]).alloc (.cells #[.int .i64 i] 3)).alloc (.cells #[.int .i64 l] 3)
  have k2 := (Blk.new (w.alloc (.cells #[v] t)) 3 [.int .i64 i]).alloc (.cells #[.int .i64 l] 3)
  have k3 := Blk.new ((w.alloc (.cells #[v] t)).alloc (.cells #[.int .i64 i] 3)) 3 [.int .i64 l]
  refine ⟨k1, by simpa using k2, by simpa using k3⟩
/-- What Take tells, and what becomes of the keeper. -/
def TakePost (w : World) (K : Kp) (cs : List Int) (ms : Int → Option Mm) (i l : Int) (e : Ending) (w' : World) : Prop :=
  ∃ c K' ms', e = .returned (.int .i64 c) ∧ Step w w' K K' cs ms' ∧ ((¬ (0 ≤ l ∧ l < cs.length) ∧ c = 1 ∧ ms' = ms) ∨ ((0 ≤ l ∧ l < cs.length) ∧ ms i = none ∧ c = 6 ∧ ms' = ms) ∨ ∃ m, (0 ≤ l ∧ l < cs.length) ∧ ms i = some m ∧ TakeR cs ms i m l c ms')
theorem take_any (k : IsK w K cs ms) (i l : Int) (hi : 0 ≤ i ∧ i ≤ 63) (hN : K.N + 1 ≤ 1000) :
    Calls Try.prog 14 #[.pointer (some ⟨K.k, 0, none⟩), .int .i64 i, .int .i64 l] w (TakePost w K cs ms i l) := by
  have hmf : ∀ (fn : Fn) (first cap : Array Value) (w : World), (Instr.makeFunc fn first cap).run Try.prog w = .ok (.func fn first cap) w := fun _ _ _ _ => rfl
  have bw : Below w.heap.size w (((w.alloc (.cells #[.pointer (some ⟨K.k, 0, none⟩)] 27)).alloc (.cells #[.int .i64 i] 3)).alloc (.cells #[.int .i64 l] 3)) := (((Below.refl _ _).alloc (Nat.le_refl _) _).alloc (by simp) _).alloc (by simp; omega) _
  have kw := k.below bw
  obtain ⟨b1, b2, b3⟩ := boxes w (.pointer (some ⟨K.k, 0, none⟩)) i l (t := 27)
  have c1 := b1.cell 0
  have c2 := b2.cell 0
  have c3 := b3.cell 0
  simp only [List.getElem?_cons_zero] at c1 c2 c3
  have K0 := Lib.hid k
  have BW := Lib.hid bw
  by_cases hl : 0 ≤ l ∧ l < cs.length
  · cases hm : ms i with
    | none =>
      have D := Lib.hid (with_nf kw i l hi hl hm (.func 25) #[] #[.pointer (some ⟨w.heap.size, 0, none⟩), .pointer (some ⟨w.heap.size + 2, 0, none⟩), .pointer (some ⟨w.heap.size + 1, 0, none⟩)])
      have HM := Lib.hid hm
      clear k kw bw hm b1 b2 b3
      go_enter Try.func14, Try.ntmps14
      go_wp2_with (go_at_call 24; (with_reducible refine Calls.mono D.out ?_); rintro e w' ⟨rfl, rfl⟩)
      go_ret
      exact ⟨_, K, ms, rfl, Step.same K0.out BW.out, .inr (.inl ⟨hl, HM.out, rfl, rfl⟩)⟩
    | some m =>
      obtain ⟨x, hx, -, -⟩ := k.kn hm
      have T1 := take1_any kw i l hm hl hN hx w.heap.size (w.heap.size + 2) (w.heap.size + 1) b1 b3 b2
      have D := Lib.hid (with_Take kw i l hi hl hx #[.pointer (some ⟨w.heap.size, 0, none⟩), .pointer (some ⟨w.heap.size + 2, 0, none⟩), .pointer (some ⟨w.heap.size + 1, 0, none⟩)] (Q := TakePost w K cs ms i l)
        (T1.mono fun e w' ⟨c, he, K', ms', st, ht⟩ => ⟨c, he, c, K', ms', he, Step.behind bw st, .inr (.inr ⟨m, hl, hm, ht⟩)⟩))
      clear k kw bw hm b1 b2 b3 T1 hx
      go_enter Try.func14, Try.ntmps14
      go_wp2_with (go_at_call 24; (with_reducible refine Calls.mono D.out ?_); rintro e w' ⟨c, K', ms', rfl, hq⟩; have HQ := Lib.hid hq; clear hq)
      go_ret
      exact ⟨c, K', ms', rfl, HQ.out⟩
  · have D := Lib.hid (with_arg kw i l (by omega) (.func 25) #[] #[.pointer (some ⟨w.heap.size, 0, none⟩), .pointer (some ⟨w.heap.size + 2, 0, none⟩), .pointer (some ⟨w.heap.size + 1, 0, none⟩)])
    have HL := Lib.hid hl
    clear k kw bw b1 b2 b3 hl
    go_enter Try.func14, Try.ntmps14
    go_wp2_with (go_at_call 24; (with_reducible refine Calls.mono D.out ?_); rintro e w' ⟨rfl, rfl⟩)
    go_ret
    exact ⟨_, K, ms, rfl, Step.same K0.out BW.out, .inl ⟨HL.out, rfl, rfl⟩⟩
end
end Go.Proofs.Ythmcgbjkbcogkaa
