/- PoolReturns: whatever was done, once each buffer is a task's again, and dropped as often as there are references, all are free; each that is got then is empty. No condition. -/
import Derived.Test.YtbhpdljfkcdnbaaPoolRef
import Derived.Test.YtbhpdljfkcdnbaaArg
import Derived.Test.YtbhpdljfkcdnbaaRows
import Derived.ProofKit
import Derived.OpenShut
import Derived.ShutString
import Derived.ChangeOld
import Derived.Below
import Derived.SizedLaws
import Derived.Test.YtbhpdljfkcdnbaaArgN
namespace Go.Proofs.Ytbhpdljfkcdnbaa
open Go.ChangeShapes Go.WideShapes Go.ChangeAt Go.RowKit
open Go.ChangeMaps (open_string shut_string)
set_option linter.unusedVariables false
set_option linter.unusedSimpArgs false
namespace poolReturns
open poolReturn
theorem pair_of {a b : Option IntKind} {cs : List Value} (h : AllOk [a, b] cs) : ∃ x y, cs = [x, y] ∧ CellOk a x ∧ CellOk b y := by
  match cs, h with
  | [x, y], ⟨hx, hy, _⟩ => exact ⟨x, y, rfl, hx, hy⟩
theorem cls_of {w : World} {A : Option Addr} {n : Nat} {D : Nat → List Value} (h : Elems w [some .i64, some .i64] A n D) :
    ∃ S C : Nat → Int, Cls w A n S C ∧ ∀ i, i < n → -9223372036854775808 ≤ S i ∧ S i ≤ 9223372036854775807 ∧ -9223372036854775808 ≤ C i ∧ C i ≤ 9223372036854775807 := by
  have key : ∀ i, ∃ (t : Int × Int), i < n → D i = [.int .i64 t.1, .int .i64 t.2] ∧ (Lit.int .i64 t.1).wf = true ∧ (Lit.int .i64 t.2).wf = true := by
    intro i
    by_cases hi : i < n
    · obtain ⟨hok, _⟩ := h i hi
      obtain ⟨x, y, e, ⟨a, rfl, ha⟩, ⟨b, rfl, hb⟩⟩ := pair_of hok
      exact ⟨(a, b), fun _ => ⟨e, ha, hb⟩⟩
    · exact ⟨(0, 0), fun h => absurd h hi⟩
  refine ⟨fun i => (key i).choose.1, fun i => (key i).choose.2, fun i hi => ?_, fun i hi => ?_⟩
  · have hD := (key i).choose_spec hi
    obtain ⟨b, off, e, hb, hc⟩ := rows_of h (by simp) i hi
    refine ⟨b, off, e, hb, ?_, ?_⟩
    · have := hc i 0 hi (by simp)
      rw [hD.1] at this
      simpa using this
    · have := hc i 1 hi (by simp)
      rw [hD.1] at this
      simpa [Nat.add_assoc] using this
  · have hD := (key i).choose_spec hi
    exact ⟨(bounds_i64 hD.2.1).1, (bounds_i64 hD.2.1).2, (bounds_i64 hD.2.2).1, (bounds_i64 hD.2.2).2⟩
def flatA : List (Int × Int) → List Value
  | [] => []
  | e :: r => .int .i64 e.1 :: .int .u64 e.2 :: flatA r
theorem flatA_len (l : List (Int × Int)) : (flatA l).length = l.length * 2 := by induction l with
  | nil => rfl
  | cons e r ih => simp [flatA, ih]; omega
theorem flatA_app (l k : List (Int × Int)) : flatA (l ++ k) = flatA l ++ flatA k := by induction l with
  | nil => rfl
  | cons e r ih => simp [flatA, ih]
theorem flatA_at (l : List (Int × Int)) : ∀ (i : Nat) (e : Int × Int), l[i]? = some e → (flatA l)[i * 2]? = some (.int .i64 e.1) ∧ (flatA l)[i * 2 + 1]? = some (.int .u64 e.2) := by
  induction l with
  | nil => intro i e h; simp at h
  | cons x r ih =>
    intro i e h
    cases i with
    | zero => simp at h; subst h; simp [flatA]
    | succ i =>
      rw [List.getElem?_cons_succ] at h
      obtain ⟨a, b⟩ := ih i e h
      rw [show (i + 1) * 2 = i * 2 + 1 + 1 by omega]
      exact ⟨by simpa [flatA] using a, by simpa [flatA] using b⟩
theorem srcBlock {w : World} {g : Nat} {t : TypeId} {cs : List Value} (k : Blk w g t cs) {size m : Nat} (h : cs.length = m * size) : Src w size (some ⟨g, 0, none⟩) m cs := by
  refine ⟨h, .inr ⟨_, rfl, fun j u hu => ?_⟩⟩
  have e : (⟨g, 0, none⟩ : Addr).add j = ⟨g, j, none⟩ := by cases j <;> simp [Addr.add]
  rw [e, k.cell j]
  exact hu
theorem infoHd : (Try.prog.info? 34).map (fun i => (i.zero, i.size, i.bytes)) = some (some (.agg #[.int .i64 0, .int .u64 0]), 2, 16) := by kernel_rfl
def RelA (w : World) (P : Pl) (Ls : List Nat) (av iv : Value) (wr : World) : Prop :=
  ∃ (i : Nat) (bs : List Bf) (all : List (Int × Int)), iv = .int .i64 i ∧ i ≤ 120 ∧ Slc wr 34 2 av all.length (flatA all) ∧ (∀ g, av.ownBlock = some g → ¬ P.all g ∧ w.heap.size ≤ g) ∧ IsP wr P bs ∧ Inv (1 + i) Ls bs all ∧ all.length ≤ i ∧ Below w.heap.size w wr
/-- What is read, as a source. -/
theorem _root_.Go.Proofs.Ytbhpdljfkcdnbaa.Rd.told {w : World} {base : Nat} {A : Option Addr} {m c : Nat} {l : List Int} (h : Rd w base (.slice A m c) (some l)) : m = l.length ∧ Src w 1 A m (byteCells l) ∧ Slc w 5 1 (.slice A m c) m (byteCells l) ∧ ∀ g, (Value.slice A m c).ownBlock = some g → base ≤ g := by
  obtain ⟨h1, h2⟩ := h
  obtain ⟨A', c', e, hs⟩ := h1.src
  injection e with e1 e2 e3
  subst e1 e2 e3
  exact ⟨rfl, hs, h1, h2⟩
theorem read_is {w : World} {P : Pl} {bs : List Bf} (k : IsP w P bs) (s g at_ n : Int) (hl : ∀ b ∈ bs, b.bytes.length ≤ 65536) (ha : -9223372036854775808 ≤ at_) (ha' : at_ ≤ 9223372036854775807) (hn : -9223372036854775808 ≤ n) (hn' : n ≤ 9223372036854775807) {l : List Int} {N : Nat} (h : readQ s g at_ n bs = (some l, 0)) (hN : l.length = N) :
    Calls Try.prog 15 #[.pointer (some ⟨P.p, 0, none⟩), .agg #[.int .i64 s, .int .u64 g], .int .i64 at_, .int .i64 n] w fun e w' => ∃ A c, e = .returned (.tuple #[.slice A N c, .int .i64 0]) ∧ Slc w' 5 1 (.slice A N c) N (byteCells l) ∧ (∀ g, (Value.slice A N c).ownBlock = some g → w.heap.size ≤ g) ∧ IsP w' P bs ∧ Below w.heap.size w w' := by
  have := readp_any k s g at_ n hl ha ha' hn hn'
  rw [h] at this
  refine this.mono fun e w' ⟨A, m, c, h1, h2, h3, h4⟩ => ?_
  obtain ⟨e1, e2, e3, e4⟩ := Rd.told (l := l) h2
  rw [hN] at e1
  subst e1
  exact ⟨A, c, h1, e3, e4, h3, h4⟩
theorem give_one {bs : List Bf} {s g : Int} {i : Nat} {b : Bf} (h : look bs s g = some (i, b)) (h1 : b.own ≠ 1) (h0 : 1 ≤ b.own) (h3 : b.own ≤ 3) : giveQ s g b.own 1 bs = (0, bs.set i { b with own := 1 }) := by
  unfold giveQ
  rw [h]
  have e : giveB b.own 1 b = (0, { b with own := 1 }) := by
    unfold giveB
    rw [if_neg (by rw [mayOwn_iff.2 ⟨h0, h3⟩]; simp [mayOwn, h1]), if_neg (by simp)]
  simp only [e]
theorem set_ok {bs : List Bf} {G : Int} (h : ∀ b ∈ bs, b.ok G) {b' : Bf} (h' : b'.ok (G + 1)) {i : Nat} : ∀ b ∈ bs.set i b', b.ok (G + 1) := by
  intro x hx
  rcases List.mem_or_eq_of_mem_set hx with hx | rfl
  · exact ok_mono (h x hx) (by omega)
  · exact h'
def RelB (w : World) (P : Pl) (Ls : List Nat) (all : List (Int × Int)) (av : Value) (iv : Value) (wr : World) : Prop :=
  ∃ (j : Nat) (bs : List Bf), iv = .int .i64 j ∧ j ≤ all.length ∧ IsP wr P bs ∧ Inv (121 + j) Ls bs all ∧ (∀ x ∈ all.take j, dead bs x) ∧ Slc wr 34 2 av all.length (flatA all) ∧ Below w.heap.size w wr
def RelC (w : World) (P : Pl) (bs : List Bf) (all : List (Int × Int)) (av : Value) (i : Nat) (b : Bf) (K : Nat) (iv : Value) (wr : World) : Prop :=
  ∃ (k : Nat), iv = .int .i64 k ∧ k ≤ K ∧ IsP wr P (bs.set i (D b k)) ∧ Slc wr 34 2 av all.length (flatA all) ∧ Below w.heap.size w wr
def RelZ (w : World) (N : Nat) (Ab : Option Addr) (c : Nat) (iv : Value) (wr : World) : Prop :=
  ∃ (k : Nat), iv = .int .i64 k ∧ k ≤ N ∧ Slc wr 5 1 (.slice Ab N c) N (byteCells (List.replicate N 0)) ∧ Below w.heap.size w wr
theorem _root_.Go.Proofs.Ytbhpdljfkcdnbaa.poolReturn.Script.below {w w' : World} {A : Option Addr} {n : Nat} {X : Nat → St} (h : Script w A n X) (o : Below w.heap.size w w') : Script w' A n X := by
  intro i hi
  obtain ⟨b, off, e, hb, c0, c1, c2, c3, c4, c5, r, hs, hl, hx⟩ := h i hi
  have q := fun j => o.cell (p := ⟨b, j, none⟩) hb
  exact ⟨b, off, e, Nat.lt_of_lt_of_le hb o.size, (q _).trans c0, (q _).trans c1, (q _).trans c2, (q _).trans c3, (q _).trans c4, (q _).trans c5, r, hs.below o, hl, hx⟩
set_option maxRecDepth 100000 in
set_option maxHeartbeats 40000000 in
theorem walk2 (w : World) (A0 : Option Addr) (n cap : Nat) (S C : Nat → Int) (hA : Hid (Cls w A0 n S C)) (hS : Hid (∀ i, i < n → -9223372036854775808 ≤ S i ∧ S i ≤ 9223372036854775807 ∧ -9223372036854775808 ≤ C i ∧ C i ≤ 9223372036854775807)) (hn : n ≤ 140737488351232)
    (A1 : Option Addr) (ns caps : Nat) (X : Nat → St) (hX : Hid (Script w A1 ns X)) (hns : ns ≤ 140737488351232) :
    Calls Try.prog 7 #[.slice A0 n cap, .slice A1 ns caps] w fun e w' => e = .returned (.bool true) ∧ Below w.heap.size w w' := by
  have CB := fun W (b : Below w.heap.size w W) => Lib.hid (hA.out.below b)
  have RM := fun W h => Lib.hid (rmay07_any W A0 n cap S C h hS hn)
  have SM := fun W h => Lib.hid (small07_any W A0 n cap S C h hS hn)
  go_enter Try.func7, Try.ntmps7
  go_wp2_with (first
    | (go_at_call 8; (with_reducible refine Calls.mono (awake_any _) ?_); rintro e w0 ⟨rfl, bel0⟩; have HB := Lib.hid bel0; clear bel0))
  go_at_call 21
  (with_reducible refine Calls.mono (SM _ (CB _ HB.out)).out ?_); rintro e w1 ⟨r, rfl, bel1⟩
  have HB := Lib.hid (Below.next HB.out bel1)
  clear bel1 SM
  cases r with
  | false =>
    go_wp2_with fail
    go_ret
    exact ⟨rfl, HB.out⟩
  | true =>
    go_wp2_with fail
    have SS := fun W h => Lib.hid (smallS_any W A1 ns caps X h hns)
    have XB := fun W (b : Below w.heap.size w W) => Lib.hid (hX.out.below b)
    go_at_call 22
    (with_reducible refine Calls.mono (SS _ (XB _ HB.out)).out ?_); rintro e w2 ⟨r, rfl, hsm, bel1⟩
    have HB := Lib.hid (Below.next HB.out bel1)
    clear bel1 SS
    cases r with
    | false =>
      go_wp2_with fail
      go_ret
      exact ⟨rfl, HB.out⟩
    | true =>
      have SMALL := Lib.hid (hsm rfl)
      clear hsm
      go_wp2_with fail
      go_at_call 23
      (with_reducible refine Calls.mono (RM _ (CB _ HB.out)).out ?_); rintro e w3 ⟨r, rfl, hmay, bel1⟩
      have HB := Lib.hid (Below.next HB.out bel1)
      clear bel1 RM
      cases r with
      | false =>
        go_wp2_with fail
        go_ret
        exact ⟨rfl, HB.out⟩
      | true =>
        have MAY := Lib.hid (hmay.1 rfl)
        have NW := fun W h => Lib.hid (newc_any W A0 n cap S C h hS hn MAY)
        obtain ⟨Ls, hL, hI⟩ := Inv.first MAY.out
        have HLs := Lib.hid hL
        have HIn := Lib.hid hI
        clear hmay hL hI
        go_wp2_with (first
          | (go_at_call 10; (with_reducible refine Calls.mono (NW _ (CB _ HB.out)).out ?_); rintro e w4 ⟨p, rfl, hm⟩
             obtain ⟨P, hP, bel⟩ := Pool.of_made hm
             have hb0 := HB.out.size
             have K1 := Lib.hid hP.is
             have LOW := Lib.hid (fun i (h : P.own i) => show w.heap.size ≤ i by have := hP.low i (.inr (.inr h)); omega)
             have HB := Lib.hid (Below.next HB.out bel)
             obtain rfl := hP.p
             clear hm hP bel hb0))
        clear NW
        go_loopw [7, 8] (fun av iv wr => Hid (RelA w P Ls av iv wr)) (fun _ iv _ => 120 - (intOf iv).toNat)
        case atStart => exact ⟨0, _, [], rfl, by omega, Slc.nil _ _ _, (fun g h => by simp [Value.ownBlock] at h), K1.out, HIn.out, by simp, HB.out⟩
        case round =>
          clear K1 HIn HB
          obtain ⟨i, bs, all, rfl, h120, hsl, how, kp, inv, hal, hbel⟩ := hrel
          have SL := Lib.hid hsl
          have OW := Lib.hid how
          have KP := Lib.hid kp
          have IN := Lib.hid inv
          have BEL := Lib.hid hbel
          clear hsl how kp inv hbel
          by_cases hin : i < ns ∧ i < 120
          · obtain ⟨h1, h2⟩ := hin
            have h3 : (i : Int) < ns := by omega
            have h4 : (i : Int) < 120 := by omega
            obtain ⟨b, off, rfl, hb, c0, c1, c2, c3, c4, c5, hrb, hsrc, hlen, hel⟩ := hX.out i h1
            have hm := SMALL.out i h1 h2
            have q := fun j => BEL.out.cell (p := ⟨b, j, none⟩) hb
            have c0 := (q _).trans c0
            have c1 := (q _).trans c1
            have c2 := (q _).trans c2
            have c3 := (q _).trans c3
            have c4 := (q _).trans c4
            have c5 := (q _).trans c5
            have SRC := Lib.hid hsrc
            have EL := Lib.hid hel
            clear q hsrc hel hlen
            generalize X i = t at *
            obtain ⟨kd, hs, hg, ga, gb, l, Aw, cw⟩ := t
            simp only at c0 c1 c2 c3 c4 c5 hm hrb
            have LEN : Hid (∀ b ∈ bs, b.bytes.length ≤ 65536) := fun b hb => (IN.out.ok b hb).len
            have hbne : 0 < bs.length := by have := IN.out.len; obtain ⟨r, e⟩ := HLs.out.head; rw [e] at this; simp at this; omega
            have bw := Lib.hid ((Below.refl wr.heap.size wr).alloc (Nat.le_refl _) (.cells #[.int .i64 kd, .int .i64 hs, .int .u64 hg, .int .i64 ga, .int .i64 gb, .slice Aw l.length cw] 54))
            have BEd := Lib.hid (Below.next BEL.out bw.out)
            have KPd := Lib.hid (KP.out.below bw.out)
            have SLd := Lib.hid (SL.out.below bw.out (fun g hg => SL.out.lt hg))
            by_cases hk0 : kd = 0
            · subst hk0
              obtain ⟨s', g', c', bs', hget, i0, i1⟩ := IN.out.get ga
              have c9 := getp_any KPd.out LEN.out hbne ga
              rw [hget] at c9
              have C1 := Lib.hid c9
              have I0 := Lib.hid i0
              have I1 := Lib.hid i1
              clear c9 hget i0 i1
              by_cases hc : c' = 0
              · subst hc
                obtain ⟨i9, hi9, hz9, hz91, hz92⟩ := info_parts infoHd
                obtain ⟨Aa, ca, ea, hca⟩ := SLd.out.shape
                subst ea
                go_wp2_with (first
                  | (go_at_call 12; (with_reducible refine Calls.mono (C1.out) ?_); rintro e w5 ⟨rfl, k5, o5⟩
                     have K5 := Lib.hid k5
                     have S5 := Lib.hid (SLd.out.only o5 (fun g hg h => (OW.out g hg).1 (.inr (.inr h))))
                     have B5 := Lib.hid (Below.onlyF BEd.out o5 LOW.out)
                     have A5 := Lib.hid (show Blk ((w5.alloc (.cells #[.int .i64 s', .int .u64 g'] 34)).alloc (.cells #[.int .i64 s', .int .u64 g'] 34)) (w5.heap.size + 1) 34 [.int .i64 s', .int .u64 g'] from by
                       have := Blk.new (w5.alloc (.cells #[.int .i64 s', .int .u64 g'] 34)) 34 [.int .i64 s', .int .u64 g']
                       rwa [World.size_alloc] at this)
                     have NP := Lib.hid (fun g (h : P.all g) => show g < w5.heap.size from k5.lt h)
                     clear k5 o5)
                  | (at_builtin; refine wpList_append_slc _ rfl (.tmp 77) (.tmp 79) _ rfl 34 i9 _ 2 16 Try.underlying52 hi9 hz9 hz91 hz92 rfl (by omega) _ all.length (flatA all) rfl (Slc.alloc (Slc.alloc S5.out _) _) (some ⟨w5.heap.size + 1, 0, none⟩) 1 1 [.int .i64 s', .int .u64 g'] rfl (srcBlock A5.out rfl) (by simp [Value.oneCell']) (by omega) (by simp only [maxLen]; omega) ?_))
                intro v' w' hs' ho' hat'
                obtain ⟨A4, c4', e4, -⟩ := hs'.shape
                subst e4
                have HS := Lib.hid hs'
                have HAT := Lib.hid hat'
                have B6 := Lib.hid (Below.onlyF ((B5.out.alloc B5.out.size _).alloc (by have := B5.out.size; simp only [World.size_alloc]; omega) _) ho' (fun g hg => (OW.out g hg).2))
                have K6 := Lib.hid (((K5.out.alloc _).alloc _).only ho' (fun g hg ha => (OW.out g hg).1 ha))
                clear hs' ho' hat'
                go_wp2_with fail
                go_roundw
                case rel => exact ⟨i + 1, _, all ++ [(s', g')], by go_num, by omega, by rw [flatA_app]; simpa [flatA] using HS.out, (fun g hg => by
                  rcases HAT.out with e | e
                  · exact OW.out g (e ▸ hg)
                  · rw [e] at hg
                    simp at hg
                    have := NP.out
                    have := B5.out.size
                    exact ⟨fun h => by have := NP.out g h; omega, by omega⟩), K6.out, by rw [show (1 : Int) + ((i + 1 : Nat) : Int) = 1 + i + 1 by omega]; exact I1.out (by trivial), by simp; omega, B6.out⟩
                case measure => simp [intOf]; omega
              · have hc2 : (c' == 0) = false := beq_eq_false_iff_ne.2 hc
                have I0' := Lib.hid (I0.out hc)
                clear hc
                go_wp2_with (first
                  | (go_at_call 12; (with_reducible refine Calls.mono (C1.out) ?_); rintro e w5 ⟨rfl, k5, o5⟩
                     have K5 := Lib.hid k5
                     have S5 := Lib.hid (SLd.out.only o5 (fun g hg h => (OW.out g hg).1 (.inr (.inr h))))
                     have B5 := Lib.hid (Below.onlyF BEd.out o5 LOW.out)
                     clear k5 o5))
                go_roundw
                case rel => exact ⟨i + 1, _, all, by go_num, by omega, Slc.alloc S5.out _, OW.out, K5.out.alloc _, by rw [show (1 : Int) + ((i + 1 : Nat) : Int) = 1 + i + 1 by omega]; exact I0'.out, by omega, B5.out.alloc B5.out.size _⟩
                case measure => simp [intOf]; omega
            · have e0 : (kd == 0) = false := beq_eq_false_iff_ne.2 hk0
              by_cases hk1 : kd = 1
              · have C1 := Lib.hid (sharep_any KPd.out hs hg IN.out.ok)
                subst hk1
                go_wp2_with (first
                  | (go_at_call 18; (with_reducible refine Calls.mono (C1).out ?_); rintro e w5 ⟨rfl, k5, o5⟩
                     have K5 := Lib.hid k5
                     have S5 := Lib.hid (SLd.out.only o5 (fun g hg h => (OW.out g hg).1 (.inr (.inr h))))
                     have B5 := Lib.hid (Below.onlyF BEd.out o5 LOW.out)
                     clear k5 o5))
                go_roundw
                case rel => exact ⟨i + 1, _, all, by go_num, by omega, S5.out, OW.out, K5.out, by rw [show (1 : Int) + ((i + 1 : Nat) : Int) = 1 + i + 1 by omega]; exact IN.out.share hs hg, by omega, B5.out⟩
                case measure => simp [intOf]; omega
              · have e1 : (kd == 1) = false := beq_eq_false_iff_ne.2 hk1
                by_cases hk2 : kd = 2
                · have C1 := Lib.hid (dropp_any KPd.out hs hg IN.out.ok (by omega))
                  subst hk2
                  go_wp2_with (first
                    | (go_at_call 20; (with_reducible refine Calls.mono (C1).out ?_); rintro e w5 ⟨rfl, k5, o5⟩
                       have K5 := Lib.hid k5
                       have S5 := Lib.hid (SLd.out.only o5 (fun g hg h => (OW.out g hg).1 (.inr (.inr h))))
                       have B5 := Lib.hid (Below.onlyF BEd.out o5 LOW.out)
                       clear k5 o5))
                  go_roundw
                  case rel => exact ⟨i + 1, _, all, by go_num, by omega, S5.out, OW.out, K5.out, by rw [show (1 : Int) + ((i + 1 : Nat) : Int) = 1 + i + 1 by omega]; exact IN.out.drop hs hg, by omega, B5.out⟩
                  case measure => simp [intOf]; omega
                · have e2 : (kd == 2) = false := beq_eq_false_iff_ne.2 hk2
                  by_cases hk3 : kd = 3
                  · have C1 := Lib.hid (givep_any KPd.out hs hg ga gb)
                    subst hk3
                    go_wp2_with (first
                      | (go_at_call 17; (with_reducible refine Calls.mono (C1).out ?_); rintro e w5 ⟨rfl, k5, o5⟩
                         have K5 := Lib.hid k5
                         have S5 := Lib.hid (SLd.out.only o5 (fun g hg h => (OW.out g hg).1 (.inr (.inr h))))
                         have B5 := Lib.hid (Below.onlyF BEd.out o5 LOW.out)
                         clear k5 o5))
                    go_roundw
                    case rel => exact ⟨i + 1, _, all, by go_num, by omega, S5.out, OW.out, K5.out, by rw [show (1 : Int) + ((i + 1 : Nat) : Int) = 1 + i + 1 by omega]; exact IN.out.give hs hg ga gb, by omega, B5.out⟩
                    case measure => simp [intOf]; omega
                  · have e3 : (kd == 3) = false := beq_eq_false_iff_ne.2 hk3
                    by_cases hk4 : kd = 4
                    · have C1 := Lib.hid (writep_any KPd.out hs hg ga gb l Aw cw LEN.out (by omega) hrb.1 hrb.2 (SRC.out.below (Below.next BEL.out bw.out)))
                      subst hk4
                      go_wp2_with (first
                        | (go_at_call 14; (with_reducible refine Calls.mono (C1).out ?_); rintro e w5 ⟨rfl, k5, o5⟩
                           have K5 := Lib.hid k5
                           have S5 := Lib.hid (SLd.out.only o5 (fun g hg h => (OW.out g hg).1 (.inr (.inr h))))
                           have B5 := Lib.hid (Below.onlyF BEd.out o5 LOW.out)
                           clear k5 o5))
                      go_roundw
                      case rel => exact ⟨i + 1, _, all, by go_num, by omega, S5.out, OW.out, K5.out, by rw [show (1 : Int) + ((i + 1 : Nat) : Int) = 1 + i + 1 by omega]; exact IN.out.write hs hg ga gb l EL.out, by omega, B5.out⟩
                      case measure => simp [intOf]; omega
                    · have e4 : (kd == 4) = false := beq_eq_false_iff_ne.2 hk4
                      go_wp2_with fail
                      go_roundw
                      case rel => exact ⟨i + 1, bs, all, by go_num, by omega, SLd.out, OW.out, KPd.out, by rw [show (1 : Int) + ((i + 1 : Nat) : Int) = 1 + i + 1 by omega]; exact IN.out.later (by omega), by omega, BEd.out⟩
                      case measure => simp [intOf]; omega
          · rcases (show ¬ (i < ns) ∨ (i < ns ∧ ¬ (i < 120)) by omega) with h1 | ⟨h1, h2⟩
            · have h3 : ¬ (i : Int) < ns := by omega
              go_wp2_with fail
              obtain ⟨Aa, ca, ea, hca⟩ := SL.out.shape
              subst ea
              go_loopw [12] (fun iv wi => Hid (RelB w P Ls all (.slice Aa all.length ca) iv wi)) (fun iv _ => all.length - (intOf iv).toNat)
              case atStart => exact ⟨0, bs, rfl, by omega, KP.out, IN.out.later (by omega), (fun x hx => by simp at hx), SL.out, BEL.out⟩
              case round =>
                clear SL KP IN BEL
                obtain ⟨j, bs1, rfl, hj, kp, inv, hdd, hsl, hbel⟩ := hrel
                have SL := Lib.hid hsl
                have KP := Lib.hid kp
                have IN := Lib.hid inv
                have DD := Lib.hid hdd
                have BEL := Lib.hid hbel
                have LEN : Hid (∀ b ∈ bs1, b.bytes.length ≤ 65536) := fun b hb => (IN.out.ok b hb).len
                clear hsl kp inv hdd hbel
                by_cases hjn : j < all.length
                · have hji : (j : Int) < all.length := by omega
                  obtain ⟨g0, off, c', hv, hc1, hc2, hlt, hcell, hfr⟩ := SL.out.at_ (by omega)
                  injection hv with hv1 hv2 hv3
                  subst hv1
                  obtain ⟨⟨hs, hg⟩, hx⟩ : ∃ x, all[j]? = some x := ⟨_, List.getElem?_eq_getElem hjn⟩
                  obtain ⟨ha0, ha1⟩ := flatA_at all j (hs, hg) hx
                  have c0 := hcell _ _ ha0
                  have c1 := hcell _ _ ha1
                  have c1' : wr.cell? ⟨g0, off + j * 2 + 1, none⟩ = some (.int .u64 hg) := by rw [show off + j * 2 + 1 = off + (j * 2 + 1) by omega]; exact c1
                  have HX := Lib.hid hx
                  have CELL := Lib.hid hcell
                  clear hv2 hv3 hc1 hc2 hcell hfr ha0 ha1 hx c1
                  have C1 := Lib.hid (ownerp_any KP.out hs hg)
                  cases hl : look bs1 hs hg with
                  | none =>
                    have DEAD := Lib.hid hl
                    unfold ownerQ at C1
                    rw [hl] at C1
                    clear hl
                    go_wp2_with (first
                      | (go_at_call 19; (with_reducible refine Calls.mono (C1).out ?_); rintro e w5 ⟨rfl, k5, o5⟩
                         have K5 := Lib.hid k5
                         have B5 := Lib.hid o5
                         clear k5 o5))
                    go_roundw
                    case rel =>
                      refine ⟨j + 1, bs1, by go_num, by omega, K5.out, IN.out.later (by omega), fun x hx => ?_, SL.out.below B5.out (fun g hg => SL.out.lt hg), Below.next BEL.out B5.out⟩
                      rw [List.take_add_one, HX.out] at hx
                      rcases List.mem_append.1 hx with hx | hx
                      · exact DD.out x hx
                      · simp at hx
                        subst hx
                        exact DEAD.out
                    case measure => simp [intOf]; omega
                  | some p =>
                    obtain ⟨bi, b⟩ := p
                    obtain ⟨rfl, hbi, hb, hb0, rfl⟩ := look_some hl
                    have LK := Lib.hid hl
                    have HB := Lib.hid hb
                    have hok := IN.out.ok b (List.mem_of_getElem? hb)
                    have OKB := Lib.hid hok
                    obtain ⟨K, hK⟩ : ∃ K : Nat, b.refs = K := ⟨b.refs.toNat, by have := hok.r0; omega⟩
                    have KB := Lib.hid hK
                    have hK1 : (1 : Int) ≤ K := by have := hok.live hb0; omega
                    have hK2 : (K : Int) ≤ 100 := by have := hok.r1; omega
                    have ho1 : 1 ≤ b.own := by have := hok.o0; omega
                    have ho3 : b.own ≤ 3 := hok.o1
                    have GO := Lib.hid (fun h => give_one LK.out h ho1 ho3)
                    have DZ := Lib.hid (D_zero hok hb0)
                    have DR := Lib.hid (fun k (hk : k < K) => D_drop (bs := bs1) hbi (b := b) (k := k) (by omega))
                    have DOK := Lib.hid (fun k : Nat => set_ok IN.out.ok (D_ok hok k) (i := bi))
                    have hb00 := Lib.hid hb0
                    unfold ownerQ at C1
                    rw [hl] at C1
                    simp only [hK] at C1
                    clear hl hb hb0 hok hK
                    obtain ⟨o, ho⟩ : ∃ o, b.own = o := ⟨_, rfl⟩
                    have HO := Lib.hid ho
                    rw [ho] at GO C1 ho1 ho3
                    clear ho
                    have e1 : decide ((K : Int) < 1) = false := decide_eq_false (by omega)
                    have e2 : decide (o < 1) = false := decide_eq_false (by omega)
                    have e3 : decide (3 < o) = false := decide_eq_false (by omega)
                    by_cases h1 : o = 1
                    · subst h1
                      go_wp2_with (first
                        | (go_at_call 19; (with_reducible refine Calls.mono (C1).out ?_); rintro e w5 ⟨rfl, k5, o5⟩
                           have K5 := Lib.hid k5
                           have B5 := Lib.hid o5
                           have S5 := Lib.hid (SL.out.below B5.out (fun g hg => SL.out.lt hg))
                           have BE5 := Lib.hid (Below.next BEL.out B5.out)
                           have c0 := (o5.cell (p := ⟨g0, off + j * 2, none⟩) hlt).trans c0
                           have c1' := (o5.cell (p := ⟨g0, off + j * 2 + 1, none⟩) hlt).trans c1'
                           clear k5 o5))
                      have K6 := Lib.hid (show IsP w5 P (bs1.set bi (D b 0)) from by rw [DZ.out]; rw [show ({ b with own := 1 } : Bf) = b by rw [← HO.out]]; exact K5.out.nil HB.out)
                      have S6 := S5
                      have BE6 := BE5
                      go_loopw [16] (fun iv wi => Hid (RelC w P bs1 all (.slice (some ⟨g0, off, none⟩) all.length ca) bi b K iv wi)) (fun iv _ => K - (intOf iv).toNat)
                      case atStart => exact ⟨0, rfl, by omega, K6.out, S6.out, BE6.out⟩
                      case round =>
                        obtain ⟨k, rfl, hk, kq, sq, bq⟩ := hrel
                        have KQ := Lib.hid kq
                        have SQ := Lib.hid sq
                        have BQ := Lib.hid bq
                        clear kq sq bq
                        by_cases hkn : k < K
                        · have hki : (k : Int) < K := by omega
                          have CD := Lib.hid (DR.out k hkn ▸ dropp_any KQ.out bi b.gen (DOK.out k) (by omega))
                          obtain ⟨g1, off1, c1, hv, -, -, hlt1, hcell, -⟩ := SQ.out.at_ (by omega)
                          simp only [Value.slice.injEq, Option.some.injEq, Addr.mk.injEq] at hv
                          obtain ⟨⟨hv4, hv5, -⟩, -, -⟩ := hv
                          subst hv4 hv5
                          obtain ⟨ha0, ha1⟩ := flatA_at all j _ HX.out
                          have d0 := hcell _ _ ha0
                          have d1 := hcell _ _ ha1
                          have d1' : wr.cell? ⟨g0, off + j * 2 + 1, none⟩ = some (.int .u64 b.gen) := by rw [show off + j * 2 + 1 = off + (j * 2 + 1) by omega]; exact d1
                          clear ha0 ha1 hcell d1
                          go_wp2_with (first
                            | (go_at_call 20; (with_reducible refine Calls.mono (CD).out ?_); rintro e w7 ⟨rfl, k7, o7⟩
                               have K7 := Lib.hid k7
                               have S7 := Lib.hid (SQ.out.only o7 (fun g hg h => (OW.out g hg).1 (.inr (.inr h))))
                               have BE7 := Lib.hid (Below.onlyF BQ.out o7 LOW.out)
                               clear k7 o7))
                          go_roundw
                          case rel => exact ⟨k + 1, by go_num, by omega, K7.out, S7.out, BE7.out⟩
                          case measure => simp [intOf]; omega
                        · obtain rfl : k = K := by omega
                          have hki : ¬ ((k : Int) < k) := by omega
                          go_wp2_with fail
                          obtain ⟨q1, q2, q3⟩ := IN.out.gone HB.out hb00.out KB.out
                          go_roundw
                          case rel =>
                            refine ⟨j + 1, _, by go_num, by omega, KQ.out, by rw [show (121 : Int) + ((j + 1 : Nat) : Int) = 121 + j + 1 by omega]; exact q1, fun x hx => ?_, SQ.out, BQ.out⟩
                            rw [List.take_add_one, HX.out] at hx
                            rcases List.mem_append.1 hx with hx | hx
                            · exact q2 x (DD.out x hx)
                            · simp at hx
                              subst hx
                              exact q3
                          case measure => simp [intOf]; omega

                    · have h1' : (o == 1) = false := beq_eq_false_iff_ne.2 h1
                      have GV := fun W k => Lib.hid (GO.out h1 ▸ givep_any (w := W) (P := P) (bs := bs1) k bi b.gen o 1)
                      go_wp2_with (first
                        | (go_at_call 19; (with_reducible refine Calls.mono (C1).out ?_); rintro e w5 ⟨rfl, k5, o5⟩
                           have K5 := Lib.hid k5
                           have B5 := Lib.hid o5
                           have S5 := Lib.hid (SL.out.below B5.out (fun g hg => SL.out.lt hg))
                           have BE5 := Lib.hid (Below.next BEL.out B5.out)
                           have c0 := (o5.cell (p := ⟨g0, off + j * 2, none⟩) hlt).trans c0
                           have c1' := (o5.cell (p := ⟨g0, off + j * 2 + 1, none⟩) hlt).trans c1'
                           clear k5 o5)
                        | (go_at_call 17; (with_reducible refine Calls.mono (GV _ K5.out).out ?_); rintro e w6 ⟨rfl, k6, o6⟩
                           have K6 := Lib.hid (show IsP w6 P (bs1.set bi (D b 0)) from by rw [DZ.out]; exact k6)
                           have S6 := Lib.hid (S5.out.only o6 (fun g hg h => (OW.out g hg).1 (.inr (.inr h))))
                           have BE6 := Lib.hid (Below.onlyF BE5.out o6 LOW.out)
                           clear k6 o6))
                      go_loopw [16] (fun iv wi => Hid (RelC w P bs1 all (.slice (some ⟨g0, off, none⟩) all.length ca) bi b K iv wi)) (fun iv _ => K - (intOf iv).toNat)
                      case atStart => exact ⟨0, rfl, by omega, K6.out, S6.out, BE6.out⟩
                      case round =>
                        obtain ⟨k, rfl, hk, kq, sq, bq⟩ := hrel
                        have KQ := Lib.hid kq
                        have SQ := Lib.hid sq
                        have BQ := Lib.hid bq
                        clear kq sq bq
                        by_cases hkn : k < K
                        · have hki : (k : Int) < K := by omega
                          have CD := Lib.hid (DR.out k hkn ▸ dropp_any KQ.out bi b.gen (DOK.out k) (by omega))
                          obtain ⟨g1, off1, c1, hv, -, -, hlt1, hcell, -⟩ := SQ.out.at_ (by omega)
                          simp only [Value.slice.injEq, Option.some.injEq, Addr.mk.injEq] at hv
                          obtain ⟨⟨hv4, hv5, -⟩, -, -⟩ := hv
                          subst hv4 hv5
                          obtain ⟨ha0, ha1⟩ := flatA_at all j _ HX.out
                          have d0 := hcell _ _ ha0
                          have d1 := hcell _ _ ha1
                          have d1' : wr.cell? ⟨g0, off + j * 2 + 1, none⟩ = some (.int .u64 b.gen) := by rw [show off + j * 2 + 1 = off + (j * 2 + 1) by omega]; exact d1
                          clear ha0 ha1 hcell d1
                          go_wp2_with (first
                            | (go_at_call 20; (with_reducible refine Calls.mono (CD).out ?_); rintro e w7 ⟨rfl, k7, o7⟩
                               have K7 := Lib.hid k7
                               have S7 := Lib.hid (SQ.out.only o7 (fun g hg h => (OW.out g hg).1 (.inr (.inr h))))
                               have BE7 := Lib.hid (Below.onlyF BQ.out o7 LOW.out)
                               clear k7 o7))
                          go_roundw
                          case rel => exact ⟨k + 1, by go_num, by omega, K7.out, S7.out, BE7.out⟩
                          case measure => simp [intOf]; omega
                        · obtain rfl : k = K := by omega
                          have hki : ¬ ((k : Int) < k) := by omega
                          go_wp2_with fail
                          obtain ⟨q1, q2, q3⟩ := IN.out.gone HB.out hb00.out KB.out
                          go_roundw
                          case rel =>
                            refine ⟨j + 1, _, by go_num, by omega, KQ.out, by rw [show (121 : Int) + ((j + 1 : Nat) : Int) = 121 + j + 1 by omega]; exact q1, fun x hx => ?_, SQ.out, BQ.out⟩
                            rw [List.take_add_one, HX.out] at hx
                            rcases List.mem_append.1 hx with hx | hx
                            · exact q2 x (DD.out x hx)
                            · simp at hx
                              subst hx
                              exact q3
                          case measure => simp [intOf]; omega

                · obtain rfl : j = all.length := by omega
                  have hji : ¬ ((all.length : Int) < all.length) := by omega
                  have hfree : ∀ b ∈ bs1, b.own = 0 := IN.out.free fun x hx => DD.out x (by rw [List.take_length]; exact hx)
                  obtain ⟨gn, bs2, hg1, hg2, hg3, hg4⟩ := IN.out.last HLs.out hfree
                  have hbne : 0 < bs1.length := by have := IN.out.len; obtain ⟨r, e⟩ := HLs.out.head; rw [e] at this; simp at this; omega
                  have C1 := Lib.hid (freep_any KP.out)
                  rw [free_all hfree] at C1
                  have C2 := Lib.hid (count_any KP.out)
                  have C3 := fun W (k : IsP W P bs1) => Lib.hid (hg1 ▸ getp_any k LEN.out hbne 1)
                  have C4 := fun W (k : IsP W P bs2) => Lib.hid (hg2 ▸ sizep_any k 0 gn hg4)
                  have hS0 : (S 0).toNat ≤ 65536 := (by obtain ⟨r, e⟩ := HLs.out.head; have := HLs.out.pos (S 0).toNat (by rw [e]; exact List.mem_cons_self ..); omega)
                  have C5 := fun W (k : IsP W P bs2) => Lib.hid (read_is k 0 gn 0 ((S 0).toNat : Int) hg4 (by omega) (by omega) (by omega) (by omega) hg3 (List.length_replicate ..))
                  have hS00 : ((S 0).toNat : Int) = S 0 := by have := size_pos MAY.out 0 MAY.out.1; omega
                  have HS00 := Lib.hid hS00
                  clear hfree hg1 hg2 hg3 hg4 hS00
                  obtain ⟨N0, hN0⟩ : ∃ N0, (S 0).toNat = N0 := ⟨_, rfl⟩
                  rw [hN0] at C4 C5 HS00 hS0
                  clear hN0
                  go_wp2_with (first
                    | (go_at_call 13; (with_reducible refine Calls.mono C1.out ?_); rintro e w5 ⟨rfl, rfl⟩)
                    | (go_at_call 11; (with_reducible refine Calls.mono C2.out ?_); rintro e w6 ⟨rfl, n6, rfl⟩)
                    | (go_at_call 12; (with_reducible refine Calls.mono (C3 _ (KP.out.drewN _)).out ?_); rintro e w7 ⟨rfl, k7, o7⟩
                       have K7 := Lib.hid k7
                       have BE7 := Lib.hid (Below.onlyF (Below.drewN' BEL.out _) o7 LOW.out)
                       clear k7 o7)
                    | (go_at_call 24; (with_reducible refine Calls.mono (C4 _ (K7.out.alloc _)).out ?_); rintro e w8 ⟨rfl, k8, o8⟩
                       have K8 := Lib.hid k8
                       have BE8 := Lib.hid (Below.next (BE7.out.alloc BE7.out.size _) o8)
                       have bh := (Blk.new w7 34 [.int .i64 0, .int .u64 gn]).below o8 (by simp)
                       have e0 : w8.cell? ⟨w7.heap.size, 0, none⟩ = some (.int .i64 0) := bh.cell 0
                       have e1 : w8.cell? ⟨w7.heap.size, 1, none⟩ = some (.int .u64 gn) := bh.cell 1
                       have hl8 := bh.lt
                       clear k8 o8 bh)
                    | (go_at_call 15; (with_reducible refine Calls.mono (C5 _ K8.out).out ?_); rintro e w9 ⟨A9, c9, rfl, s9, o9, k9, b9⟩
                       have S9 := Lib.hid s9
                       have BE9 := Lib.hid (Below.next BE8.out b9)
                       clear s9 o9 k9 b9))
                  go_loopw [23] (fun iv wi => Hid (RelZ w N0 A9 c9 iv wi)) (fun iv _ => N0 - (intOf iv).toNat)
                  case atStart => exact ⟨0, rfl, by omega, S9.out, BE9.out⟩
                  case round =>
                    obtain ⟨k, rfl, hk, sz, bz⟩ := hrel
                    have SZ := Lib.hid sz
                    have BZ := Lib.hid bz
                    clear sz bz
                    by_cases hkn : k < N0
                    · have hki : (k : Int) < (N0 : Int) := by omega
                      obtain ⟨g9, off9, c8, hv, -, -, -, hcell, -⟩ := SZ.out.at_ (by omega)
                      simp only [Value.slice.injEq] at hv
                      obtain ⟨hv1, -, -⟩ := hv
                      subst hv1
                      have z0 := hcell k (.int .u8 0) (by simp [byteCells, hkn])
                      clear hcell
                      go_wp2_with fail
                      go_roundw
                      case rel => exact ⟨k + 1, by go_num, by omega, SZ.out, BZ.out⟩
                      case measure => simp [intOf]; omega
                    · obtain rfl : k = N0 := by omega
                      have hki : ¬ ((k : Int) < (k : Int)) := by omega
                      obtain ⟨bl, ol, ea, hbl, hsz, -⟩ := hA.out 0 MAY.out.1
                      have lz := (BZ.out.cell (p := ⟨bl, ol, none⟩) hbl).trans hsz
                      have hn0 : (0 : Int) < n := by have := MAY.out.1; omega
                      rw [← HS00.out] at lz
                      go_wp2_with fail
                      go_ret
                      exact ⟨rfl, BZ.out⟩

            · have h3 : (i : Int) < ns := by omega
              have h4 : ¬ (i : Int) < 120 := by omega
              go_wp2_with fail
              obtain ⟨Aa, ca, ea, hca⟩ := SL.out.shape
              subst ea
              go_loopw [12] (fun iv wi => Hid (RelB w P Ls all (.slice Aa all.length ca) iv wi)) (fun iv _ => all.length - (intOf iv).toNat)
              case atStart => exact ⟨0, bs, rfl, by omega, KP.out, IN.out.later (by omega), (fun x hx => by simp at hx), SL.out, BEL.out⟩
              case round =>
                clear SL KP IN BEL
                obtain ⟨j, bs1, rfl, hj, kp, inv, hdd, hsl, hbel⟩ := hrel
                have SL := Lib.hid hsl
                have KP := Lib.hid kp
                have IN := Lib.hid inv
                have DD := Lib.hid hdd
                have BEL := Lib.hid hbel
                have LEN : Hid (∀ b ∈ bs1, b.bytes.length ≤ 65536) := fun b hb => (IN.out.ok b hb).len
                clear hsl kp inv hdd hbel
                by_cases hjn : j < all.length
                · have hji : (j : Int) < all.length := by omega
                  obtain ⟨g0, off, c', hv, hc1, hc2, hlt, hcell, hfr⟩ := SL.out.at_ (by omega)
                  injection hv with hv1 hv2 hv3
                  subst hv1
                  obtain ⟨⟨hs, hg⟩, hx⟩ : ∃ x, all[j]? = some x := ⟨_, List.getElem?_eq_getElem hjn⟩
                  obtain ⟨ha0, ha1⟩ := flatA_at all j (hs, hg) hx
                  have c0 := hcell _ _ ha0
                  have c1 := hcell _ _ ha1
                  have c1' : wr.cell? ⟨g0, off + j * 2 + 1, none⟩ = some (.int .u64 hg) := by rw [show off + j * 2 + 1 = off + (j * 2 + 1) by omega]; exact c1
                  have HX := Lib.hid hx
                  have CELL := Lib.hid hcell
                  clear hv2 hv3 hc1 hc2 hcell hfr ha0 ha1 hx c1
                  have C1 := Lib.hid (ownerp_any KP.out hs hg)
                  cases hl : look bs1 hs hg with
                  | none =>
                    have DEAD := Lib.hid hl
                    unfold ownerQ at C1
                    rw [hl] at C1
                    clear hl
                    go_wp2_with (first
                      | (go_at_call 19; (with_reducible refine Calls.mono (C1).out ?_); rintro e w5 ⟨rfl, k5, o5⟩
                         have K5 := Lib.hid k5
                         have B5 := Lib.hid o5
                         clear k5 o5))
                    go_roundw
                    case rel =>
                      refine ⟨j + 1, bs1, by go_num, by omega, K5.out, IN.out.later (by omega), fun x hx => ?_, SL.out.below B5.out (fun g hg => SL.out.lt hg), Below.next BEL.out B5.out⟩
                      rw [List.take_add_one, HX.out] at hx
                      rcases List.mem_append.1 hx with hx | hx
                      · exact DD.out x hx
                      · simp at hx
                        subst hx
                        exact DEAD.out
                    case measure => simp [intOf]; omega
                  | some p =>
                    obtain ⟨bi, b⟩ := p
                    obtain ⟨rfl, hbi, hb, hb0, rfl⟩ := look_some hl
                    have LK := Lib.hid hl
                    have HB := Lib.hid hb
                    have hok := IN.out.ok b (List.mem_of_getElem? hb)
                    have OKB := Lib.hid hok
                    obtain ⟨K, hK⟩ : ∃ K : Nat, b.refs = K := ⟨b.refs.toNat, by have := hok.r0; omega⟩
                    have KB := Lib.hid hK
                    have hK1 : (1 : Int) ≤ K := by have := hok.live hb0; omega
                    have hK2 : (K : Int) ≤ 100 := by have := hok.r1; omega
                    have ho1 : 1 ≤ b.own := by have := hok.o0; omega
                    have ho3 : b.own ≤ 3 := hok.o1
                    have GO := Lib.hid (fun h => give_one LK.out h ho1 ho3)
                    have DZ := Lib.hid (D_zero hok hb0)
                    have DR := Lib.hid (fun k (hk : k < K) => D_drop (bs := bs1) hbi (b := b) (k := k) (by omega))
                    have DOK := Lib.hid (fun k : Nat => set_ok IN.out.ok (D_ok hok k) (i := bi))
                    have hb00 := Lib.hid hb0
                    unfold ownerQ at C1
                    rw [hl] at C1
                    simp only [hK] at C1
                    clear hl hb hb0 hok hK
                    obtain ⟨o, ho⟩ : ∃ o, b.own = o := ⟨_, rfl⟩
                    have HO := Lib.hid ho
                    rw [ho] at GO C1 ho1 ho3
                    clear ho
                    have e1 : decide ((K : Int) < 1) = false := decide_eq_false (by omega)
                    have e2 : decide (o < 1) = false := decide_eq_false (by omega)
                    have e3 : decide (3 < o) = false := decide_eq_false (by omega)
                    by_cases h1 : o = 1
                    · subst h1
                      go_wp2_with (first
                        | (go_at_call 19; (with_reducible refine Calls.mono (C1).out ?_); rintro e w5 ⟨rfl, k5, o5⟩
                           have K5 := Lib.hid k5
                           have B5 := Lib.hid o5
                           have S5 := Lib.hid (SL.out.below B5.out (fun g hg => SL.out.lt hg))
                           have BE5 := Lib.hid (Below.next BEL.out B5.out)
                           have c0 := (o5.cell (p := ⟨g0, off + j * 2, none⟩) hlt).trans c0
                           have c1' := (o5.cell (p := ⟨g0, off + j * 2 + 1, none⟩) hlt).trans c1'
                           clear k5 o5))
                      have K6 := Lib.hid (show IsP w5 P (bs1.set bi (D b 0)) from by rw [DZ.out]; rw [show ({ b with own := 1 } : Bf) = b by rw [← HO.out]]; exact K5.out.nil HB.out)
                      have S6 := S5
                      have BE6 := BE5
                      go_loopw [16] (fun iv wi => Hid (RelC w P bs1 all (.slice (some ⟨g0, off, none⟩) all.length ca) bi b K iv wi)) (fun iv _ => K - (intOf iv).toNat)
                      case atStart => exact ⟨0, rfl, by omega, K6.out, S6.out, BE6.out⟩
                      case round =>
                        obtain ⟨k, rfl, hk, kq, sq, bq⟩ := hrel
                        have KQ := Lib.hid kq
                        have SQ := Lib.hid sq
                        have BQ := Lib.hid bq
                        clear kq sq bq
                        by_cases hkn : k < K
                        · have hki : (k : Int) < K := by omega
                          have CD := Lib.hid (DR.out k hkn ▸ dropp_any KQ.out bi b.gen (DOK.out k) (by omega))
                          obtain ⟨g1, off1, c1, hv, -, -, hlt1, hcell, -⟩ := SQ.out.at_ (by omega)
                          simp only [Value.slice.injEq, Option.some.injEq, Addr.mk.injEq] at hv
                          obtain ⟨⟨hv4, hv5, -⟩, -, -⟩ := hv
                          subst hv4 hv5
                          obtain ⟨ha0, ha1⟩ := flatA_at all j _ HX.out
                          have d0 := hcell _ _ ha0
                          have d1 := hcell _ _ ha1
                          have d1' : wr.cell? ⟨g0, off + j * 2 + 1, none⟩ = some (.int .u64 b.gen) := by rw [show off + j * 2 + 1 = off + (j * 2 + 1) by omega]; exact d1
                          clear ha0 ha1 hcell d1
                          go_wp2_with (first
                            | (go_at_call 20; (with_reducible refine Calls.mono (CD).out ?_); rintro e w7 ⟨rfl, k7, o7⟩
                               have K7 := Lib.hid k7
                               have S7 := Lib.hid (SQ.out.only o7 (fun g hg h => (OW.out g hg).1 (.inr (.inr h))))
                               have BE7 := Lib.hid (Below.onlyF BQ.out o7 LOW.out)
                               clear k7 o7))
                          go_roundw
                          case rel => exact ⟨k + 1, by go_num, by omega, K7.out, S7.out, BE7.out⟩
                          case measure => simp [intOf]; omega
                        · obtain rfl : k = K := by omega
                          have hki : ¬ ((k : Int) < k) := by omega
                          go_wp2_with fail
                          obtain ⟨q1, q2, q3⟩ := IN.out.gone HB.out hb00.out KB.out
                          go_roundw
                          case rel =>
                            refine ⟨j + 1, _, by go_num, by omega, KQ.out, by rw [show (121 : Int) + ((j + 1 : Nat) : Int) = 121 + j + 1 by omega]; exact q1, fun x hx => ?_, SQ.out, BQ.out⟩
                            rw [List.take_add_one, HX.out] at hx
                            rcases List.mem_append.1 hx with hx | hx
                            · exact q2 x (DD.out x hx)
                            · simp at hx
                              subst hx
                              exact q3
                          case measure => simp [intOf]; omega

                    · have h1' : (o == 1) = false := beq_eq_false_iff_ne.2 h1
                      have GV := fun W k => Lib.hid (GO.out h1 ▸ givep_any (w := W) (P := P) (bs := bs1) k bi b.gen o 1)
                      go_wp2_with (first
                        | (go_at_call 19; (with_reducible refine Calls.mono (C1).out ?_); rintro e w5 ⟨rfl, k5, o5⟩
                           have K5 := Lib.hid k5
                           have B5 := Lib.hid o5
                           have S5 := Lib.hid (SL.out.below B5.out (fun g hg => SL.out.lt hg))
                           have BE5 := Lib.hid (Below.next BEL.out B5.out)
                           have c0 := (o5.cell (p := ⟨g0, off + j * 2, none⟩) hlt).trans c0
                           have c1' := (o5.cell (p := ⟨g0, off + j * 2 + 1, none⟩) hlt).trans c1'
                           clear k5 o5)
                        | (go_at_call 17; (with_reducible refine Calls.mono (GV _ K5.out).out ?_); rintro e w6 ⟨rfl, k6, o6⟩
                           have K6 := Lib.hid (show IsP w6 P (bs1.set bi (D b 0)) from by rw [DZ.out]; exact k6)
                           have S6 := Lib.hid (S5.out.only o6 (fun g hg h => (OW.out g hg).1 (.inr (.inr h))))
                           have BE6 := Lib.hid (Below.onlyF BE5.out o6 LOW.out)
                           clear k6 o6))
                      go_loopw [16] (fun iv wi => Hid (RelC w P bs1 all (.slice (some ⟨g0, off, none⟩) all.length ca) bi b K iv wi)) (fun iv _ => K - (intOf iv).toNat)
                      case atStart => exact ⟨0, rfl, by omega, K6.out, S6.out, BE6.out⟩
                      case round =>
                        obtain ⟨k, rfl, hk, kq, sq, bq⟩ := hrel
                        have KQ := Lib.hid kq
                        have SQ := Lib.hid sq
                        have BQ := Lib.hid bq
                        clear kq sq bq
                        by_cases hkn : k < K
                        · have hki : (k : Int) < K := by omega
                          have CD := Lib.hid (DR.out k hkn ▸ dropp_any KQ.out bi b.gen (DOK.out k) (by omega))
                          obtain ⟨g1, off1, c1, hv, -, -, hlt1, hcell, -⟩ := SQ.out.at_ (by omega)
                          simp only [Value.slice.injEq, Option.some.injEq, Addr.mk.injEq] at hv
                          obtain ⟨⟨hv4, hv5, -⟩, -, -⟩ := hv
                          subst hv4 hv5
                          obtain ⟨ha0, ha1⟩ := flatA_at all j _ HX.out
                          have d0 := hcell _ _ ha0
                          have d1 := hcell _ _ ha1
                          have d1' : wr.cell? ⟨g0, off + j * 2 + 1, none⟩ = some (.int .u64 b.gen) := by rw [show off + j * 2 + 1 = off + (j * 2 + 1) by omega]; exact d1
                          clear ha0 ha1 hcell d1
                          go_wp2_with (first
                            | (go_at_call 20; (with_reducible refine Calls.mono (CD).out ?_); rintro e w7 ⟨rfl, k7, o7⟩
                               have K7 := Lib.hid k7
                               have S7 := Lib.hid (SQ.out.only o7 (fun g hg h => (OW.out g hg).1 (.inr (.inr h))))
                               have BE7 := Lib.hid (Below.onlyF BQ.out o7 LOW.out)
                               clear k7 o7))
                          go_roundw
                          case rel => exact ⟨k + 1, by go_num, by omega, K7.out, S7.out, BE7.out⟩
                          case measure => simp [intOf]; omega
                        · obtain rfl : k = K := by omega
                          have hki : ¬ ((k : Int) < k) := by omega
                          go_wp2_with fail
                          obtain ⟨q1, q2, q3⟩ := IN.out.gone HB.out hb00.out KB.out
                          go_roundw
                          case rel =>
                            refine ⟨j + 1, _, by go_num, by omega, KQ.out, by rw [show (121 : Int) + ((j + 1 : Nat) : Int) = 121 + j + 1 by omega]; exact q1, fun x hx => ?_, SQ.out, BQ.out⟩
                            rw [List.take_add_one, HX.out] at hx
                            rcases List.mem_append.1 hx with hx | hx
                            · exact q2 x (DD.out x hx)
                            · simp at hx
                              subst hx
                              exact q3
                          case measure => simp [intOf]; omega

                · obtain rfl : j = all.length := by omega
                  have hji : ¬ ((all.length : Int) < all.length) := by omega
                  have hfree : ∀ b ∈ bs1, b.own = 0 := IN.out.free fun x hx => DD.out x (by rw [List.take_length]; exact hx)
                  obtain ⟨gn, bs2, hg1, hg2, hg3, hg4⟩ := IN.out.last HLs.out hfree
                  have hbne : 0 < bs1.length := by have := IN.out.len; obtain ⟨r, e⟩ := HLs.out.head; rw [e] at this; simp at this; omega
                  have C1 := Lib.hid (freep_any KP.out)
                  rw [free_all hfree] at C1
                  have C2 := Lib.hid (count_any KP.out)
                  have C3 := fun W (k : IsP W P bs1) => Lib.hid (hg1 ▸ getp_any k LEN.out hbne 1)
                  have C4 := fun W (k : IsP W P bs2) => Lib.hid (hg2 ▸ sizep_any k 0 gn hg4)
                  have hS0 : (S 0).toNat ≤ 65536 := (by obtain ⟨r, e⟩ := HLs.out.head; have := HLs.out.pos (S 0).toNat (by rw [e]; exact List.mem_cons_self ..); omega)
                  have C5 := fun W (k : IsP W P bs2) => Lib.hid (read_is k 0 gn 0 ((S 0).toNat : Int) hg4 (by omega) (by omega) (by omega) (by omega) hg3 (List.length_replicate ..))
                  have hS00 : ((S 0).toNat : Int) = S 0 := by have := size_pos MAY.out 0 MAY.out.1; omega
                  have HS00 := Lib.hid hS00
                  clear hfree hg1 hg2 hg3 hg4 hS00
                  obtain ⟨N0, hN0⟩ : ∃ N0, (S 0).toNat = N0 := ⟨_, rfl⟩
                  rw [hN0] at C4 C5 HS00 hS0
                  clear hN0
                  go_wp2_with (first
                    | (go_at_call 13; (with_reducible refine Calls.mono C1.out ?_); rintro e w5 ⟨rfl, rfl⟩)
                    | (go_at_call 11; (with_reducible refine Calls.mono C2.out ?_); rintro e w6 ⟨rfl, n6, rfl⟩)
                    | (go_at_call 12; (with_reducible refine Calls.mono (C3 _ (KP.out.drewN _)).out ?_); rintro e w7 ⟨rfl, k7, o7⟩
                       have K7 := Lib.hid k7
                       have BE7 := Lib.hid (Below.onlyF (Below.drewN' BEL.out _) o7 LOW.out)
                       clear k7 o7)
                    | (go_at_call 24; (with_reducible refine Calls.mono (C4 _ (K7.out.alloc _)).out ?_); rintro e w8 ⟨rfl, k8, o8⟩
                       have K8 := Lib.hid k8
                       have BE8 := Lib.hid (Below.next (BE7.out.alloc BE7.out.size _) o8)
                       have bh := (Blk.new w7 34 [.int .i64 0, .int .u64 gn]).below o8 (by simp)
                       have e0 : w8.cell? ⟨w7.heap.size, 0, none⟩ = some (.int .i64 0) := bh.cell 0
                       have e1 : w8.cell? ⟨w7.heap.size, 1, none⟩ = some (.int .u64 gn) := bh.cell 1
                       have hl8 := bh.lt
                       clear k8 o8 bh)
                    | (go_at_call 15; (with_reducible refine Calls.mono (C5 _ K8.out).out ?_); rintro e w9 ⟨A9, c9, rfl, s9, o9, k9, b9⟩
                       have S9 := Lib.hid s9
                       have BE9 := Lib.hid (Below.next BE8.out b9)
                       clear s9 o9 k9 b9))
                  go_loopw [23] (fun iv wi => Hid (RelZ w N0 A9 c9 iv wi)) (fun iv _ => N0 - (intOf iv).toNat)
                  case atStart => exact ⟨0, rfl, by omega, S9.out, BE9.out⟩
                  case round =>
                    obtain ⟨k, rfl, hk, sz, bz⟩ := hrel
                    have SZ := Lib.hid sz
                    have BZ := Lib.hid bz
                    clear sz bz
                    by_cases hkn : k < N0
                    · have hki : (k : Int) < (N0 : Int) := by omega
                      obtain ⟨g9, off9, c8, hv, -, -, -, hcell, -⟩ := SZ.out.at_ (by omega)
                      simp only [Value.slice.injEq] at hv
                      obtain ⟨hv1, -, -⟩ := hv
                      subst hv1
                      have z0 := hcell k (.int .u8 0) (by simp [byteCells, hkn])
                      clear hcell
                      go_wp2_with fail
                      go_roundw
                      case rel => exact ⟨k + 1, by go_num, by omega, SZ.out, BZ.out⟩
                      case measure => simp [intOf]; omega
                    · obtain rfl : k = N0 := by omega
                      have hki : ¬ ((k : Int) < (k : Int)) := by omega
                      obtain ⟨bl, ol, ea, hbl, hsz, -⟩ := hA.out 0 MAY.out.1
                      have lz := (BZ.out.cell (p := ⟨bl, ol, none⟩) hbl).trans hsz
                      have hn0 : (0 : Int) < n := by have := MAY.out.1; omega
                      rw [← HS00.out] at lz
                      go_wp2_with fail
                      go_ret
                      exact ⟨rfl, BZ.out⟩

theorem walk (w : World) (A0 : Option Addr) (n0 cap0 : Nat) (D0 : Nat → List Value) (w0 : Elems w [some .i64, some .i64] A0 n0 D0) (l0 : n0 * 16 ≤ 140737488351232)
    (A1 : Option Addr) (n1 cap1 : Nat) (D1 : Nat → List Value) (w1 : ElemsN w [.int .i64, .int .i64, .int .u64, .int .i64, .int .i64, .sl [some .u8]] A1 n1 D1) (l1 : n1 * 64 ≤ 140737488351232) :
    Calls Try.prog 7 #[.slice A0 n0 cap0, .slice A1 n1 cap1] w fun e w' => e = .returned (.bool true) ∧ Below w.heap.size w w' := by
  obtain ⟨S, C, hA, hS⟩ := cls_of w0
  obtain ⟨X, hX⟩ := script_of w1
  exact walk2 w A0 n0 cap0 S C (Lib.hid hA) (Lib.hid hS) (by omega) A1 n1 cap1 X (Lib.hid hX) (by omega)
end poolReturns
namespace poolReturns
theorem own : ownKnob Try.prog.godebug = none := by kernel_rfl
set_option maxRecDepth 100000 in
theorem lifted (os : Os) (started : os.Started) (H : Type) (enc : TypeId × Value → H) :
    ReturnsInHanded {} Try.checked os 7 .any (Rows.poolReturnsSpec.pre6 enc Try.prog Try.f7 Rows.poolReturnsRow.domain false) (Rows.poolReturnsSpec.post enc Try.prog Try.f7 false true false false) := by
  refine returnsInHanded_of_change_sized (C := Try.checked) own started (by kernel_rfl) Try.func7
    (ChangeSpec.witness6 (enc := enc) (C := Try.checked) false ⟨#[], #[.slice none 0 0, .slice none 0 0], []⟩ 8 (by kernel_rfl) (by kernel_rfl) (by kernel_rfl) (by kernel_rfl)) ?_
  intro W base args ds gs before hval0 hW hcnd hsz0 _
  have hsz : (DataW.weightsEach Try.prog (Try.f7.params.toList ++ Rows.poolReturnsSpec.plain.varTypes Try.prog) (ds ++ gs)).all (· ≤ reachBytes) = true := hsz0
  have hval : ∀ (j : Nat) t v, Try.f7.params[j]? = some t → args[j]? = some v → Value.okWide Try.prog W .any base t v := hval0
  have hW' := hW
  obtain ⟨p, q, hA0, hV, rfl, hfz, hnd⟩ := hW
  have hA : DataW.TrodAll enc Try.prog W 0 (fun _ => true) true Try.f7.params.toList args.toList ds p := hA0
  rw [Try.params7] at hA hval hsz
  obtain ⟨v0, vs0, d0, ds0, p0, q0, hargs, rfl, rfl, h0, r0⟩ := trodAll_cons hA
  obtain ⟨v1, vs1, d1, ds1, p1, q1, rfl, rfl, rfl, h1, r1⟩ := trodAll_cons r0
  obtain ⟨rfl, rfl, rfl⟩ := trodAll_nil r1
  obtain rfl : args = #[v0, v1] := by cases args; simp_all
  obtain ⟨rfl, rfl⟩ := trodVars_none hV
  obtain ⟨A0, n0, cap0, D0, rfl, w0, m0, z0⟩ := arg_slice [some .i64, some .i64] Try.underlying22 6 (by kernel_rfl) (by kernel_rfl) (hval 0 22 v0 rfl rfl) h0
  have l0 : n0 * Try.prog.bytesOf 26 ≤ reachBytes := by
    rcases z0 with ⟨_, e⟩ | ⟨es, sp, e, el⟩
    · subst e; simp
    · subst e; subst el; exact Nat.le_trans (Nat.mul_le_mul_right _ (Nat.le_add_right _ _)) (sized_slice hsz (j := 0) (t := 22) (e := 26) rfl rfl Try.underlying22)
  have b0 : Try.prog.bytesOf 26 = 16 := by kernel_rfl
  rw [b0] at l0
  simp only [reachBytes] at l0
  clear z0 b0
  obtain ⟨A1, n1, cap1, D1, rfl, w1, m1, z1⟩ := arg_sliceN [.int .i64, .int .i64, .int .u64, .int .i64, .int .i64, .sl [some .u8]] Try.underlying50 6 (by kernel_rfl) (by kernel_rfl) (hval 1 50 v1 rfl rfl) h1
  have l1 : n1 * Try.prog.bytesOf 54 ≤ reachBytes := by
    rcases z1 with ⟨_, e⟩ | ⟨es, sp, e, el⟩
    · subst e; simp
    · subst e; subst el; exact Nat.le_trans (Nat.mul_le_mul_right _ (Nat.le_add_right _ _)) (sized_slice hsz (j := 1) (t := 50) (e := 54) rfl rfl Try.underlying50)
  have b1 : Try.prog.bytesOf 54 = 64 := by kernel_rfl
  rw [b1] at l1
  simp only [reachBytes] at l1
  clear z1 b1
  clear hA0 hval0 hsz0 hsz
  refine (walk W A0 n0 cap0 D0 w0 l0 A1 n1 cap1 D1 w1 l1).mono fun e W' ⟨he, bel⟩ => ?_
  subst he
  exact ⟨_, rfl, _, _, _, [], _, [], hW', trodAll_mk1 (shut_bool Try.underlying4 _), (trodAll_cons_mk (Below.trod laidOut (by kernel_rfl) (of_decide_eq_true (by kernel_rfl)) h0 bel (fun x hx => by simpa using hW'.lt x (by simp [hx]))) (trodAll_cons_mk (Below.trod laidOut (by kernel_rfl) (of_decide_eq_true (by kernel_rfl)) h1 bel (fun x hx => by simpa using hW'.lt x (by simp [hx]))) trodAll_mk0)), rfl, bel.frame _, fun h => by cases h⟩
theorem over : Rows.poolReturnsRow.holds Try.pinned (OpenSpec.ofChange Rows.poolReturnsSpec) :=
  OpenClaim.holds_of_wide 7 Try.f7 rfl rfl rfl rfl rfl rfl rfl ⟨rfl, rfl, rfl, rfl, rfl⟩ rfl rfl rfl rfl rfl (by kernel_rfl) Try.func7 (by kernel_rfl)
    (of_decide_eq_true (by kernel_rfl)) (by unfold Func.isWrapper; first | (rw [if_pos (by decide +kernel)]; kernel_rfl) | (rw [if_neg (by decide +kernel)]; exact ⟨rfl, rfl⟩))
    (fun os started H enc _ => lifted os started H enc)
end poolReturns
theorem poolReturns_holds : Rows.PoolReturnsSaid := poolReturns.over
#print axioms poolReturns_holds
end Go.Proofs.Ytbhpdljfkcdnbaa
