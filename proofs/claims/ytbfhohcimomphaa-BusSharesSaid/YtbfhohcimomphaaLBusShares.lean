/- BusShares: no master has more slots in any span than its share lets, nor more in a row than its burst, whoever wants what; whoever may, and is the most urgent, has the slot. No condition. -/
import Derived.Test.YtbfhohcimomphaaBusShare
import Derived.Test.YtbfhohcimomphaaStill
import Derived.Test.YtbfhohcimomphaaArg
import Derived.Test.YtbfhohcimomphaaRows
import Derived.ProofKit
import Derived.OpenShut
import Derived.ShutString
import Derived.ChangeOld
import Derived.Below
import Derived.SizedLaws
namespace Go.Proofs.Ytbfhohcimomphaa
open Go.ChangeShapes Go.WideShapes Go.ChangeAt Go.RowKit
open Go.ChangeMaps (open_string shut_string)
set_option linter.unusedVariables false
set_option linter.unusedSimpArgs false
namespace busShares
def bit (u : Int) (k : Nat) : Bool := bits BinOp.and .u16 (u / 2 ^ k) 1 == 1
theorem ids_yes {f : Nat → Bool} {i : Nat} (h : f i = true) : ids 1 f (i + 1) = ids 1 f i ++ [(i : Int)] := by simp [ids, h]
theorem ids_no {f : Nat → Bool} {i : Nat} (h : f i = false) : ids 1 f (i + 1) = ids 1 f i := by simp [ids, h]
open busShare
theorem box2 (w : World) (x y : Int) (W : World) (h : Below (w.alloc (.cells #[.int .u8 x, .int .u8 y] 24)).heap.size (w.alloc (.cells #[.int .u8 x, .int .u8 y] 24)) W) :
    W.cell? ⟨w.heap.size, 0, none⟩ = some (.int .u8 x) ∧ W.cell? ⟨w.heap.size, 1, none⟩ = some (.int .u8 y) := by
  have k := (Blk.new w 24 [.int .u8 x, .int .u8 y]).below h (by simp)
  exact ⟨k.cell 0, k.cell 1⟩
theorem isb_far {w : World} {A : Bl} {B : Bu} (k : IsB w A B) {g i : Nat} (h : ¬ A.all g) (x : Value) : IsB (w.setCell ⟨g, i, none⟩ x) A B :=
  k.only (F := fun j => j = g) (Only.setCell (F := fun j => j = g) (Only.refl _ _) (fun _ => rfl) _) (fun i hi h' => h (hi ▸ h'))
def W0 (w : World) (x y : Int) : World := w.alloc (.cells #[.int .u8 x, .int .u8 y] 24)
def RelT (w : World) (x y : Int) (L : List Mp) (a n g : Nat) (A : Bl) (rv lv tv : Value) (wr : World) : Prop :=
  ∃ (t : Nat) (cnt : Nat → Int) (B : Bu), tv = .int .i64 t ∧ rv = .int .i64 B.row ∧ lv = .int .i64 B.who ∧ t ≤ 200 ∧ IsB wr A B ∧ Sh L a n t cnt B ∧ Blk wr g 30 (Fn .u64 cnt L.length) ∧ Below (W0 w x y).heap.size (W0 w x y) wr
def RelI (wr : World) (f : Nat → Bool) (n : Nat) (lv iv : Value) (wi : World) : Prop :=
  ∃ i : Nat, iv = .int .i64 i ∧ i ≤ n ∧ Slc wi 3 1 lv (ids 1 f i).length (intCells (ids 1 f i)) ∧ (∀ g, lv.ownBlock = some g → wr.heap.size ≤ g) ∧ Below wr.heap.size wr wi
def RelF (wr : World) (n : Nat) (iv : Value) (wi : World) : Prop := ∃ i : Nat, iv = .int .i64 i ∧ i ≤ n ∧ Below wr.heap.size wr wi
set_option maxRecDepth 100000 in
set_option maxHeartbeats 40000000 in
theorem walk2 (w : World) (A0 : Option Addr) (cap : Nat) (L : List Mp) (hA : Hid (Mps w A0 L)) (hL : Hid (∀ m ∈ L, m.rng)) (hn : L.length ≤ 140737488351232)
    (A1 : Option Addr) (nw capw : Nat) (U : Nat → Int) (hU : Hid (IntsAt w .u16 A1 nw U)) (hU2 : Hid (∀ i, i < nw → 0 ≤ U i ∧ U i ≤ 65535)) (hnw : nw ≤ 140737488351232) (x y : Int) (x0 : 0 ≤ x) (x1 : x ≤ 255) (y0 : 0 ≤ y) (y1 : y ≤ 255) :
    Calls Try.prog 3 #[.slice A0 L.length cap, .slice A1 nw capw, .agg #[.int .u8 x, .int .u8 y]] w fun e w' => e = .returned (.bool true) ∧ Below w.heap.size w w' := by
  have AW := fun W => Lib.hid (awake_any W)
  have BOX := Lib.hid (box2 w x y)
  have w0s : w.heap.size ≤ (w.alloc (.cells #[.int .u8 x, .int .u8 y] 24)).heap.size := by simp
  have b00 := Lib.hid ((Below.refl w.heap.size w).alloc (Nat.le_refl _) (.cells #[.int .u8 x, .int .u8 y] 24))
  have MP := fun W (b : Below (w.alloc (.cells #[.int .u8 x, .int .u8 y] 24)).heap.size (w.alloc (.cells #[.int .u8 x, .int .u8 y] 24)) W) => Lib.hid (hA.out.below (Below.trans b00.out (Below.mono b w0s)))
  have RA := fun W h => Lib.hid (rallB_any W A0 cap L h hL hn)
  by_cases hall : allB L
  · have N1 := fun W h => Lib.hid (newb_any W A0 cap L 7 h (Lib.hid hall.2.2) hall.1 hall.2.1 (by decide) (by decide))
    have HALL := Lib.hid hall
    have n16 := hall.2.1
    have n1 := hall.1
    clear hall
    by_cases hz : nw = 0
    · have d1 : ((nw : Int) == 0) = true := beq_iff_eq.2 (by omega)
      go_enter Try.func3, Try.ntmps3
      go_wp2_with (first
        | (go_at_call 9; (with_reducible refine Calls.mono (AW _).out ?_); rintro e w0 ⟨rfl, bel0⟩; have HB := Lib.hid bel0; clear bel0)
        | (go_at_call 10; (with_reducible refine Calls.mono (N1 _ (MP _ HB.out)).out ?_); rintro e w1 ⟨A, rfl, k1, lo1, bel1⟩; have HB := Lib.hid (Below.next HB.out bel1); clear bel1)
        | (go_at_call 11; (with_reducible refine Calls.mono (RA _ (MP _ HB.out)).out ?_); rintro e w2 ⟨r, rfl, r1, bel1⟩; obtain rfl := r1.2 HALL.out; have HB := Lib.hid (Below.next HB.out bel1); clear bel1 r1))
      go_ret
      exact ⟨rfl, Below.next b00.out HB.out⟩
    · have d1 : ((nw : Int) == 0) = false := beq_eq_false_iff_ne.2 (by omega)
      have hmk : ∀ W, (Instr.makeSlice 32 (.int .i64 L.length) (.int .i64 L.length)).run Try.prog W = .ok (.slice (some ⟨W.heap.size, 0, none⟩) L.length L.length) (W.alloc (.cells ⟨Fn .u64 (fun _ => 0) L.length⟩ 30)) := fun W => by
        rw [← made_Fn]
        exact run_make_row' 32 30 (.int .u64 0) 8 Try.underlying32 infoU64 rfl .i64 .i64 L.length (by omega) (by omega) W
      obtain ⟨i0, hi0, hz0, hz1, hz2⟩ := info_parts infoInt
      obtain ⟨a, ha⟩ : ∃ a : Nat, x % 200 = (a : Int) := ⟨(x % 200).toNat, by omega⟩
      obtain ⟨n, hn9⟩ : ∃ n : Nat, y % 200 = (n : Int) := ⟨(y % 200).toNat, by omega⟩
      go_enter Try.func3, Try.ntmps3
      go_wp2_with (first
        | (go_at_call 9; (with_reducible refine Calls.mono (AW _).out ?_); rintro e w0 ⟨rfl, bel0⟩; have HB := Lib.hid bel0; clear bel0)
        | (go_at_call 10; (with_reducible refine Calls.mono (N1 _ (MP _ HB.out)).out ?_); rintro e w1 ⟨A, rfl, k1, lo1, bel1⟩; have K1 := Lib.hid k1; have LO := Lib.hid (show ∀ a, A.own a → (w.alloc (.cells #[.int .u8 x, .int .u8 y] 24)).heap.size ≤ a from fun a ha => Nat.le_trans HB.out.size (lo1 a (.inl ha))); have HB := Lib.hid (Below.next HB.out bel1); clear bel1 k1 lo1)
        | (go_at_call 11; (with_reducible refine Calls.mono (RA _ (MP _ HB.out)).out ?_); rintro e w2 ⟨r, rfl, r1, bel1⟩; obtain rfl := r1.2 HALL.out; have K1 := Lib.hid (K1.out.below bel1); have HB := Lib.hid (Below.next HB.out bel1); clear bel1 r1; have HB2 := HB.out; obtain ⟨q0, q1⟩ := BOX.out _ HB2; clear HB2))
      have GB := Lib.hid (Blk.new w2 30 (Fn .u64 (fun _ => 0) L.length))
      have NG : Hid (¬ A.all w2.heap.size) := fun h => by have := K1.out.lt h; omega
      rw [ha, hn9]
      have a2 : a ≤ 200 := by omega
      have n2 : n ≤ 200 := by omega
      have HG := Lib.hid (show (W0 w x y).heap.size ≤ w2.heap.size from HB.out.size)
      generalize w2.heap.size = g at *
      clear ha hn9 hmk N1 RA AW
      go_loopw [12, 13, 14] (fun rv lv tv wr => Hid (RelT w x y L a n g A rv lv tv wr)) (fun _ _ tv _ => 200 - (intOf tv).toNat)
      case atStart => exact ⟨0, fun _ => 0, _, rfl, rfl, rfl, by omega, K1.out.alloc _, Sh.first HALL.out.2.2 n16, GB.out, HB.out.alloc (by have := HB.out.size; omega) _⟩
      case round =>
        clear K1 HB q0 q1 GB
        obtain ⟨t, cnt, B, rfl, rfl, rfl, ht, ks, sh, kg, hbel⟩ := hrel
        have KS := Lib.hid ks
        have SH := Lib.hid sh
        have KG := Lib.hid kg
        have BEL := Lib.hid hbel
        clear ks sh kg hbel
        by_cases hi : t < 200
        · have hi2 : (t : Int) < 200 := by omega
          have hlt : t % nw < nw := Nat.mod_lt _ (by omega)
          obtain ⟨gb, off, rfl, hgb, hc⟩ := hU.out.at_ hlt
          obtain ⟨hu0, hu1⟩ := hU2.out _ hlt
          have hc2 := Lib.hid ((BEL.out.cell (p := ⟨gb, off + t % nw, none⟩) (by unfold W0; simp; omega)).trans ((World.cell?_alloc_lt w _ _ hgb).trans hc))
          have hgb2 : gb < wr.heap.size := by have := BEL.out.size; unfold W0 at this; omega
          clear hc
          generalize U (t % nw) = u at *
          go_wp2_with fail
          go_loopw [15, 16] (fun lv iv wi => Hid (RelI wr (fun k => bit u k) L.length lv iv wi)) (fun _ iv _ => L.length - (intOf iv).toNat)
          case atStart => exact ⟨0, rfl, by omega, Slc.nil _ _ _, fun g h => by simp [Value.ownBlock] at h, Below.refl _ _⟩
          case round =>
            obtain ⟨i, rfl, hil, hsl, hown, hb⟩ := hrel
            have SL := Lib.hid hsl
            have OW := Lib.hid hown
            have BI := Lib.hid hb
            clear hsl hown hb
            by_cases hin : i < L.length
            · have hin2 : (i : Int) < L.length := by omega
              have hc3 := (BI.out.cell (p := ⟨gb, off + t % nw, none⟩) hgb2).trans hc2.out
              have hlen : (ids 1 (fun k => bit u k) i).length ≤ 16 := by have := ids_len 1 (fun k => bit u k) i; omega
              cases hbit : bit u i with
              | true =>
                have hb1 : (bits BinOp.and .u16 (u / 2 ^ i) 1 == 1) = true := hbit
                have HI := Lib.hid (ids_yes (f := fun k => bit u k) hbit)
                clear hbit
                obtain ⟨A3, c3, e3, hc9⟩ := SL.out.shape
                subst e3
                generalize ids 1 (fun k => bit u k) i = l at *
                go_wp2_with (at_builtin; refine wpList_append_slc _ rfl (.tmp 85) (.tmp 87) _ rfl 3 i0 _ 1 8 Try.underlying33 hi0 hz0 hz1 hz2 rfl (by omega) _ l.length (intCells l) rfl (Slc.alloc SL.out _) (some ⟨wr.heap.size, 0, none⟩) 1 1 [.int .i64 i] rfl (Src.one wr 3 _) (by simp [Value.oneCell']) (by omega) (by simp only [maxLen]; omega) ?_)
                intro v' w' hs' ho' hat'
                obtain ⟨A4, c4, e4, -⟩ := hs'.shape
                subst e4
                have HS := Lib.hid hs'
                have HAT := Lib.hid hat'
                have BN := Lib.hid (Below.onlyF (BI.out.alloc BI.out.size _) ho' OW.out)
                have sz := BI.out.size
                clear hs' ho' hat'
                go_wp2_with fail
                go_roundw
                case rel => exact ⟨i + 1, by go_num, by omega, by rw [HI.out]; simpa [intCells] using HS.out, fun g hg => by
                  rcases HAT.out with e | e
                  · exact OW.out g (e ▸ hg)
                  · rw [e] at hg; simp at hg; omega, BN.out⟩
                case measure => simp [intOf]; omega
              | false =>
                have hb1 : (bits BinOp.and .u16 (u / 2 ^ i) 1 == 1) = false := hbit
                have HI := Lib.hid (ids_no (f := fun k => bit u k) hbit)
                clear hbit
                go_wp2_with fail
                go_roundw
                case rel => exact ⟨i + 1, by go_num, by omega, by rw [HI.out]; exact SL.out, OW.out, BI.out⟩
                case measure => simp [intOf]; omega
            · have hin2 : ¬ (i : Int) < L.length := by omega
              obtain rfl : i = L.length := by omega
              have hw := ids_wants (show 0 < 1 by decide) (fun k => bit u k) L.length
              have hok := ids_ok (show 0 < 1 by decide) (fun k => bit u k) L.length
              have hlen := ids_len 1 (fun k => bit u k) L.length
              obtain ⟨Al, cl, e3, hsrc⟩ := SL.out.src
              subst e3
              have KI := Lib.hid (KS.out.below BI.out)
              have GI := Lib.hid (KG.out.below BI.out KG.out.lt)
              have BE := Lib.hid (Below.next BEL.out BI.out)
              have st := SH.out.step HALL.out.2.2 hi (by omega) (wants (ids 1 (fun k => bit u k) L.length))
              have c0 := slot_run KI.out SH.out.g.at_ (by omega) (by omega) (by omega) (ids 1 (fun k => bit u k) L.length) Al cl hsrc (by omega) (by rw [SH.out.g.hL]; exact hok)
              rw [hw] at st c0
              have hwr := hgb2
              have hgb3 : gb < (W0 w x y).heap.size := by unfold W0; simp; omega
              have hgc : (W0 w x y).cell? ⟨gb, off + t % nw, none⟩ = some (.int .u16 u) := by
                rw [← hc2.out]; exact (BEL.out.cell (p := ⟨gb, off + t % nw, none⟩) hgb3).symm
              have WC := Lib.hid (fun W (b : Below (W0 w x y).heap.size (W0 w x y) W) => (b.cell (p := ⟨gb, off + t % nw, none⟩) hgb3).trans hgc)
              clear hok hw hsrc hgc hwr
              generalize winB (7 + t) (fun k => decide (k < L.length) && bit u k) (freshB (7 + t) B) = R at st c0
              generalize (ids 1 (fun k => bit u k) L.length).length = ln at *
              have LO2 : Hid (∀ a, A.own a → (W0 w x y).heap.size ≤ a) := LO.out
              rcases st with ⟨B', rfl, hw0, hr0, sh'⟩ | ⟨id, m, B', rfl, hm, hwant, hw0, hr0, hbu, sh'⟩
              · have C1 := Lib.hid c0
                have SH2 := Lib.hid sh'
                have HW := Lib.hid hw0
                have HR := Lib.hid hr0
                clear c0 sh' hw0 hr0
                go_wp2_with (go_at_call 12; (with_reducible refine Calls.mono C1.out ?_); rintro e w2 ⟨rfl, k2, b2, o2⟩; have K2 := Lib.hid k2; have G2 := Lib.hid (GI.out.only o2 (fun h => NG.out (.inl h))); have B2 := Lib.hid (Below.onlyF BE.out o2 LO2.out); clear k2 b2 o2)
                go_roundw
                case rel => exact ⟨t + 1, cnt, B', by go_num, by rw [HR.out], by rw [HW.out], by omega, K2.out, SH2.out, G2.out, B2.out⟩
                case measure => simp [intOf]; omega
              · obtain ⟨hidl, hbit⟩ : id < L.length ∧ bit u id = true := by simpa using hwant
                have hidl2 : (id : Int) < L.length := by omega
                have hb1 : (bits BinOp.and .u16 (u / 2 ^ id) 1 == 1) = true := hbit
                have hb2 : (bits BinOp.and .u16 (u / 2 ^ id) 1 != 1) = false := by rw [bne, hb1]; rfl
                obtain ⟨ab, ao, rfl, hab, -, hcu, -, -⟩ := hA.out id m hm
                have okm := HALL.out.2.2 m (List.mem_of_getElem? hm)
                have MC := Lib.hid (fun W (b : Below (W0 w x y).heap.size (W0 w x y) W) => ((Below.trans b00.out (Below.mono b w0s)).cell (p := ⟨ab, ao + id * 4 + 1, none⟩) hab).trans hcu)
                obtain ⟨sm, -, hcn⟩ := SH.out.c id m hm
                have cn0 := hcn.c0
                have cn1 := hcn.c1
                have FA := Lib.hid (Fn_at .u64 cnt hidl)
                obtain ⟨rw0, rw1⟩ := SH.out.g.at_.row
                have u0 := okm.u0
                have u1 := okm.u1
                generalize hcv : cnt id = cv at *
                have HCV := Lib.hid hcv
                have C1 := Lib.hid c0
                have SH2 := Lib.hid sh'
                have HW := Lib.hid hw0
                clear c0 sh' hw0 hcv hcu hab hm hcn okm hbit hwant
                by_cases e1 : (id : Int) = B.who
                · have e2 : ((id : Int) == B.who) = true := beq_iff_eq.2 e1
                  have e3 : ((id : Int) != B.who) = false := by rw [bne, e2]; rfl
                  rw [if_pos e1] at hr0
                  rw [hr0] at hbu
                  have HR := Lib.hid hr0
                  clear e1 hr0
                  by_cases g1 : 0 < m.u
                  · have g1' : decide (0 < m.u) = true := decide_eq_true g1
                    have hbu := hbu g1
                    have g2' : decide (m.u < B.row + 1) = false := decide_eq_false (by omega)
                    by_cases t1 : a ≤ t
                    · have t1' : decide ((a : Int) ≤ t) = true := decide_eq_true (by omega)
                      have t1n : decide (a ≤ t) = true := decide_eq_true t1
                      by_cases t2 : t < a + n
                      · have t2' : decide ((t : Int) < (a : Int) + n) = true := decide_eq_true (by omega)
                        have t2n : decide (t < a + n) = true := decide_eq_true t2
                        rw [if_pos ⟨t1, t2⟩] at SH2
                        go_wp2_with (go_at_call 12; (with_reducible refine Calls.mono C1.out ?_); rintro e w2 ⟨rfl, k2, b2, o2⟩; have K2 := Lib.hid k2; have G2 := Lib.hid (GI.out.only o2 (fun h => NG.out (.inl h))); have B2 := Lib.hid (Below.onlyF BE.out o2 LO2.out); have q1 := MC.out _ B2.out; have q2 := WC.out _ B2.out; have q3 := (G2.out.cell id).trans FA.out; have q4 := G2.out.free id; have q5 := G2.out.lt; clear k2 b2 o2)
                        go_roundw
                        case rel => exact ⟨t + 1, _, B', by go_num, by rw [HR.out], by rw [HW.out], by omega, isb_far K2.out NG.out _, SH2.out, by rw [← HCV.out, ← Fn_set, HCV.out]; exact G2.out.put id _, B2.out.setCell (Nat.le_of_lt_succ (Nat.lt_succ_of_le HG.out)) _⟩
                        case measure => simp [intOf]; omega
                      · have t2' : decide ((t : Int) < (a : Int) + n) = false := decide_eq_false (by omega)
                        have t2n : decide (t < a + n) = false := decide_eq_false t2
                        rw [if_neg (by omega)] at SH2
                        go_wp2_with (go_at_call 12; (with_reducible refine Calls.mono C1.out ?_); rintro e w2 ⟨rfl, k2, b2, o2⟩; have K2 := Lib.hid k2; have G2 := Lib.hid (GI.out.only o2 (fun h => NG.out (.inl h))); have B2 := Lib.hid (Below.onlyF BE.out o2 LO2.out); have q1 := MC.out _ B2.out; have q2 := WC.out _ B2.out; have q3 := (G2.out.cell id).trans FA.out; have q4 := G2.out.free id; have q5 := G2.out.lt; clear k2 b2 o2)
                        go_roundw
                        case rel => exact ⟨t + 1, _, B', by go_num, by rw [HR.out], by rw [HW.out], by omega, K2.out, SH2.out, G2.out, B2.out⟩
                        case measure => simp [intOf]; omega
                    · have t1' : decide ((a : Int) ≤ t) = false := decide_eq_false (by omega)
                      have t1n : decide (a ≤ t) = false := decide_eq_false t1
                      rw [if_neg (by omega)] at SH2
                      go_wp2_with (go_at_call 12; (with_reducible refine Calls.mono C1.out ?_); rintro e w2 ⟨rfl, k2, b2, o2⟩; have K2 := Lib.hid k2; have G2 := Lib.hid (GI.out.only o2 (fun h => NG.out (.inl h))); have B2 := Lib.hid (Below.onlyF BE.out o2 LO2.out); have q1 := MC.out _ B2.out; have q2 := WC.out _ B2.out; have q3 := (G2.out.cell id).trans FA.out; have q4 := G2.out.free id; have q5 := G2.out.lt; clear k2 b2 o2)
                      go_roundw
                      case rel => exact ⟨t + 1, _, B', by go_num, by rw [HR.out], by rw [HW.out], by omega, K2.out, SH2.out, G2.out, B2.out⟩
                      case measure => simp [intOf]; omega
                  · have g1' : decide (0 < m.u) = false := decide_eq_false g1
                    by_cases t1 : a ≤ t
                    · have t1' : decide ((a : Int) ≤ t) = true := decide_eq_true (by omega)
                      have t1n : decide (a ≤ t) = true := decide_eq_true t1
                      by_cases t2 : t < a + n
                      · have t2' : decide ((t : Int) < (a : Int) + n) = true := decide_eq_true (by omega)
                        have t2n : decide (t < a + n) = true := decide_eq_true t2
                        rw [if_pos ⟨t1, t2⟩] at SH2
                        go_wp2_with (go_at_call 12; (with_reducible refine Calls.mono C1.out ?_); rintro e w2 ⟨rfl, k2, b2, o2⟩; have K2 := Lib.hid k2; have G2 := Lib.hid (GI.out.only o2 (fun h => NG.out (.inl h))); have B2 := Lib.hid (Below.onlyF BE.out o2 LO2.out); have q1 := MC.out _ B2.out; have q2 := WC.out _ B2.out; have q3 := (G2.out.cell id).trans FA.out; have q4 := G2.out.free id; have q5 := G2.out.lt; clear k2 b2 o2)
                        go_roundw
                        case rel => exact ⟨t + 1, _, B', by go_num, by rw [HR.out], by rw [HW.out], by omega, isb_far K2.out NG.out _, SH2.out, by rw [← HCV.out, ← Fn_set, HCV.out]; exact G2.out.put id _, B2.out.setCell (Nat.le_of_lt_succ (Nat.lt_succ_of_le HG.out)) _⟩
                        case measure => simp [intOf]; omega
                      · have t2' : decide ((t : Int) < (a : Int) + n) = false := decide_eq_false (by omega)
                        have t2n : decide (t < a + n) = false := decide_eq_false t2
                        rw [if_neg (by omega)] at SH2
                        go_wp2_with (go_at_call 12; (with_reducible refine Calls.mono C1.out ?_); rintro e w2 ⟨rfl, k2, b2, o2⟩; have K2 := Lib.hid k2; have G2 := Lib.hid (GI.out.only o2 (fun h => NG.out (.inl h))); have B2 := Lib.hid (Below.onlyF BE.out o2 LO2.out); have q1 := MC.out _ B2.out; have q2 := WC.out _ B2.out; have q3 := (G2.out.cell id).trans FA.out; have q4 := G2.out.free id; have q5 := G2.out.lt; clear k2 b2 o2)
                        go_roundw
                        case rel => exact ⟨t + 1, _, B', by go_num, by rw [HR.out], by rw [HW.out], by omega, K2.out, SH2.out, G2.out, B2.out⟩
                        case measure => simp [intOf]; omega
                    · have t1' : decide ((a : Int) ≤ t) = false := decide_eq_false (by omega)
                      have t1n : decide (a ≤ t) = false := decide_eq_false t1
                      rw [if_neg (by omega)] at SH2
                      go_wp2_with (go_at_call 12; (with_reducible refine Calls.mono C1.out ?_); rintro e w2 ⟨rfl, k2, b2, o2⟩; have K2 := Lib.hid k2; have G2 := Lib.hid (GI.out.only o2 (fun h => NG.out (.inl h))); have B2 := Lib.hid (Below.onlyF BE.out o2 LO2.out); have q1 := MC.out _ B2.out; have q2 := WC.out _ B2.out; have q3 := (G2.out.cell id).trans FA.out; have q4 := G2.out.free id; have q5 := G2.out.lt; clear k2 b2 o2)
                      go_roundw
                      case rel => exact ⟨t + 1, _, B', by go_num, by rw [HR.out], by rw [HW.out], by omega, K2.out, SH2.out, G2.out, B2.out⟩
                      case measure => simp [intOf]; omega
                · have e2 : ((id : Int) == B.who) = false := beq_eq_false_iff_ne.2 e1
                  have e3 : ((id : Int) != B.who) = true := by rw [bne, e2]; rfl
                  rw [if_neg e1] at hr0
                  rw [hr0] at hbu
                  have HR := Lib.hid hr0
                  clear e1 hr0
                  by_cases g1 : 0 < m.u
                  · have g1' : decide (0 < m.u) = true := decide_eq_true g1
                    have hbu := hbu g1
                    have g2' : decide (m.u < 1) = false := decide_eq_false (by omega)
                    by_cases t1 : a ≤ t
                    · have t1' : decide ((a : Int) ≤ t) = true := decide_eq_true (by omega)
                      have t1n : decide (a ≤ t) = true := decide_eq_true t1
                      by_cases t2 : t < a + n
                      · have t2' : decide ((t : Int) < (a : Int) + n) = true := decide_eq_true (by omega)
                        have t2n : decide (t < a + n) = true := decide_eq_true t2
                        rw [if_pos ⟨t1, t2⟩] at SH2
                        go_wp2_with (go_at_call 12; (with_reducible refine Calls.mono C1.out ?_); rintro e w2 ⟨rfl, k2, b2, o2⟩; have K2 := Lib.hid k2; have G2 := Lib.hid (GI.out.only o2 (fun h => NG.out (.inl h))); have B2 := Lib.hid (Below.onlyF BE.out o2 LO2.out); have q1 := MC.out _ B2.out; have q2 := WC.out _ B2.out; have q3 := (G2.out.cell id).trans FA.out; have q4 := G2.out.free id; have q5 := G2.out.lt; clear k2 b2 o2)
                        go_roundw
                        case rel => exact ⟨t + 1, _, B', by go_num, by rw [HR.out], by rw [HW.out], by omega, isb_far K2.out NG.out _, SH2.out, by rw [← HCV.out, ← Fn_set, HCV.out]; exact G2.out.put id _, B2.out.setCell (Nat.le_of_lt_succ (Nat.lt_succ_of_le HG.out)) _⟩
                        case measure => simp [intOf]; omega
                      · have t2' : decide ((t : Int) < (a : Int) + n) = false := decide_eq_false (by omega)
                        have t2n : decide (t < a + n) = false := decide_eq_false t2
                        rw [if_neg (by omega)] at SH2
                        go_wp2_with (go_at_call 12; (with_reducible refine Calls.mono C1.out ?_); rintro e w2 ⟨rfl, k2, b2, o2⟩; have K2 := Lib.hid k2; have G2 := Lib.hid (GI.out.only o2 (fun h => NG.out (.inl h))); have B2 := Lib.hid (Below.onlyF BE.out o2 LO2.out); have q1 := MC.out _ B2.out; have q2 := WC.out _ B2.out; have q3 := (G2.out.cell id).trans FA.out; have q4 := G2.out.free id; have q5 := G2.out.lt; clear k2 b2 o2)
                        go_roundw
                        case rel => exact ⟨t + 1, _, B', by go_num, by rw [HR.out], by rw [HW.out], by omega, K2.out, SH2.out, G2.out, B2.out⟩
                        case measure => simp [intOf]; omega
                    · have t1' : decide ((a : Int) ≤ t) = false := decide_eq_false (by omega)
                      have t1n : decide (a ≤ t) = false := decide_eq_false t1
                      rw [if_neg (by omega)] at SH2
                      go_wp2_with (go_at_call 12; (with_reducible refine Calls.mono C1.out ?_); rintro e w2 ⟨rfl, k2, b2, o2⟩; have K2 := Lib.hid k2; have G2 := Lib.hid (GI.out.only o2 (fun h => NG.out (.inl h))); have B2 := Lib.hid (Below.onlyF BE.out o2 LO2.out); have q1 := MC.out _ B2.out; have q2 := WC.out _ B2.out; have q3 := (G2.out.cell id).trans FA.out; have q4 := G2.out.free id; have q5 := G2.out.lt; clear k2 b2 o2)
                      go_roundw
                      case rel => exact ⟨t + 1, _, B', by go_num, by rw [HR.out], by rw [HW.out], by omega, K2.out, SH2.out, G2.out, B2.out⟩
                      case measure => simp [intOf]; omega
                  · have g1' : decide (0 < m.u) = false := decide_eq_false g1
                    by_cases t1 : a ≤ t
                    · have t1' : decide ((a : Int) ≤ t) = true := decide_eq_true (by omega)
                      have t1n : decide (a ≤ t) = true := decide_eq_true t1
                      by_cases t2 : t < a + n
                      · have t2' : decide ((t : Int) < (a : Int) + n) = true := decide_eq_true (by omega)
                        have t2n : decide (t < a + n) = true := decide_eq_true t2
                        rw [if_pos ⟨t1, t2⟩] at SH2
                        go_wp2_with (go_at_call 12; (with_reducible refine Calls.mono C1.out ?_); rintro e w2 ⟨rfl, k2, b2, o2⟩; have K2 := Lib.hid k2; have G2 := Lib.hid (GI.out.only o2 (fun h => NG.out (.inl h))); have B2 := Lib.hid (Below.onlyF BE.out o2 LO2.out); have q1 := MC.out _ B2.out; have q2 := WC.out _ B2.out; have q3 := (G2.out.cell id).trans FA.out; have q4 := G2.out.free id; have q5 := G2.out.lt; clear k2 b2 o2)
                        go_roundw
                        case rel => exact ⟨t + 1, _, B', by go_num, by rw [HR.out], by rw [HW.out], by omega, isb_far K2.out NG.out _, SH2.out, by rw [← HCV.out, ← Fn_set, HCV.out]; exact G2.out.put id _, B2.out.setCell (Nat.le_of_lt_succ (Nat.lt_succ_of_le HG.out)) _⟩
                        case measure => simp [intOf]; omega
                      · have t2' : decide ((t : Int) < (a : Int) + n) = false := decide_eq_false (by omega)
                        have t2n : decide (t < a + n) = false := decide_eq_false t2
                        rw [if_neg (by omega)] at SH2
                        go_wp2_with (go_at_call 12; (with_reducible refine Calls.mono C1.out ?_); rintro e w2 ⟨rfl, k2, b2, o2⟩; have K2 := Lib.hid k2; have G2 := Lib.hid (GI.out.only o2 (fun h => NG.out (.inl h))); have B2 := Lib.hid (Below.onlyF BE.out o2 LO2.out); have q1 := MC.out _ B2.out; have q2 := WC.out _ B2.out; have q3 := (G2.out.cell id).trans FA.out; have q4 := G2.out.free id; have q5 := G2.out.lt; clear k2 b2 o2)
                        go_roundw
                        case rel => exact ⟨t + 1, _, B', by go_num, by rw [HR.out], by rw [HW.out], by omega, K2.out, SH2.out, G2.out, B2.out⟩
                        case measure => simp [intOf]; omega
                    · have t1' : decide ((a : Int) ≤ t) = false := decide_eq_false (by omega)
                      have t1n : decide (a ≤ t) = false := decide_eq_false t1
                      rw [if_neg (by omega)] at SH2
                      go_wp2_with (go_at_call 12; (with_reducible refine Calls.mono C1.out ?_); rintro e w2 ⟨rfl, k2, b2, o2⟩; have K2 := Lib.hid k2; have G2 := Lib.hid (GI.out.only o2 (fun h => NG.out (.inl h))); have B2 := Lib.hid (Below.onlyF BE.out o2 LO2.out); have q1 := MC.out _ B2.out; have q2 := WC.out _ B2.out; have q3 := (G2.out.cell id).trans FA.out; have q4 := G2.out.free id; have q5 := G2.out.lt; clear k2 b2 o2)
                      go_roundw
                      case rel => exact ⟨t + 1, _, B', by go_num, by rw [HR.out], by rw [HW.out], by omega, K2.out, SH2.out, G2.out, B2.out⟩
                      case measure => simp [intOf]; omega
        · obtain rfl : t = 200 := by omega
          go_wp2_with fail
          go_loopw [19] (fun iv wi => Hid (RelF wr L.length iv wi)) (fun iv _ => L.length - (intOf iv).toNat)
          case atStart => exact ⟨0, rfl, by omega, Below.refl _ _⟩
          case round =>
            obtain ⟨i, rfl, hil, hb⟩ := hrel
            have BI := Lib.hid hb
            have BE := Lib.hid (Below.next BEL.out hb)
            clear hb
            by_cases hin : i < L.length
            · have hin2 : (i : Int) < L.length := by omega
              have hm : L[i]? = some L[i] := List.getElem?_eq_getElem hin
              have okm := HALL.out.2.2 _ (List.mem_of_getElem? hm)
              obtain ⟨ab, ao, rfl, hab, -, -, hcb, hcp⟩ := hA.out i _ hm
              obtain ⟨sm, hsm, hcn⟩ := SH.out.c i _ hm
              obtain ⟨sm2, hsm2, hnw⟩ := SH.out.g.met i _ hm
              rw [hsm] at hsm2; cases hsm2
              have fin := hcn.final okm.may (by omega) a2 hnw
              have GI := KG.out.below BI.out KG.out.lt
              have q0 := (GI.cell i).trans (Fn_at .u64 cnt hin)
              have bb := Below.trans b00.out (Below.mono BE.out w0s)
              have q1 := (bb.cell (p := ⟨ab, ao + i * 4 + 2, none⟩) hab).trans hcb
              have q2 := (bb.cell (p := ⟨ab, ao + i * 4 + 3, none⟩) hab).trans hcp
              have z0 := GI.lt
              have z1 := Nat.lt_of_lt_of_le hab bb.size
              have r := okm.rng
              have CM := fun W => Lib.hid (rmostM_any L[i].b L[i].p n W r.b0 r.b1 r.p0 r.p1 (by omega) (by omega))
              have cn0 := hcn.c0
              have cn1 := hcn.c1
              clear hm okm hcb hcp hsm hcn hnw GI bb r
              generalize mostM L[i].b L[i].p n = mo at *
              generalize L[i].b = mb at *
              generalize L[i].p = mp at *
              generalize cnt i = cv at *
              have d9 : decide (mo < cv) = false := decide_eq_false (by omega)
              have g0 := SubW.cell q0 (by omega)
              have g1 := SubW.cell q1 (by omega)
              have g2 := SubW.cell q2 (by omega)
              go_wp2_with fail
              refine wp_region_sub (by kernel_rfl) (by kernel_rfl) ?_
              repeat (go_big_quiet_step (first | (go_at_call 13; exact sub_call _ (CM _).out)))
              refine wpQuiet_nil ?_
              intro _ hw'
              obtain ⟨⟨w5, hw5⟩, rfl⟩ := hw'
              have B5 := Lib.hid (Below.next BI.out hw5)
              clear g0 g1 g2 hw5 q0 q1 q2
              go_wp2_with fail
              go_roundw
              case rel => exact ⟨i + 1, by go_num, by omega, B5.out⟩
              case measure => simp [intOf]; omega
            · have hin2 : ¬ (i : Int) < L.length := by omega
              go_wp2_with fail
              go_ret
              exact ⟨rfl, Below.next b00.out BE.out⟩
  · have N1 := fun W h => Lib.hid (newb_no W A0 cap L 7 h hL hn (by decide) (by decide) (Lib.hid hall))
    have HNO := Lib.hid hall
    clear hall
    go_enter Try.func3, Try.ntmps3
    go_wp2_with (first
      | (go_at_call 9; (with_reducible refine Calls.mono (AW _).out ?_); rintro e w0 ⟨rfl, bel0⟩; have HB := Lib.hid bel0; clear bel0)
      | (go_at_call 10; (with_reducible refine Calls.mono (N1 _ (MP _ HB.out)).out ?_); rintro e w1 ⟨rfl, bel1⟩; have HB := Lib.hid (Below.next HB.out bel1); clear bel1)
      | (go_at_call 11; (with_reducible refine Calls.mono (RA _ (MP _ HB.out)).out ?_); rintro e w2 ⟨r, rfl, r1, bel1⟩; obtain rfl : r = false := by { cases r with | false => rfl | true => exact absurd (r1.1 rfl) HNO.out }; have HB := Lib.hid (Below.next HB.out bel1); clear bel1 r1))
    all_goals
      go_ret
      exact ⟨rfl, Below.next b00.out HB.out⟩
theorem walk (w : World) (A0 : Option Addr) (n0 cap0 : Nat) (D0 : Nat → List Value) (w0 : Elems w [some .i64, some .i64, some .u64, some .u64] A0 n0 D0) (l0 : n0 * 32 ≤ 140737488351232)
    (A1 : Option Addr) (n1 cap1 : Nat) (D1 : Nat → List Value) (w1 : Elems w [some .u16] A1 n1 D1) (l1 : n1 * 2 ≤ 140737488351232) (ds : List Value) (vs : AllOk [some .u8, some .u8] ds) :
    Calls Try.prog 3 #[.slice A0 n0 cap0, .slice A1 n1 cap1, .agg ⟨ds⟩] w fun e w' => e = .returned (.bool true) ∧ Below w.heap.size w w' := by
  obtain ⟨L, rfl, hM, hr⟩ := mps_of w0
  obtain ⟨_, _, rfl, ⟨x, rfl, wx⟩, k1⟩ := allOk_cons vs
  obtain ⟨_, _, rfl, ⟨y, rfl, wy⟩, k2⟩ := allOk_cons k1
  obtain rfl := allOk_nil k2
  obtain ⟨U, hU, hw⟩ := ints_of w1
  exact walk2 w A0 cap0 L (Lib.hid hM) (Lib.hid hr) (by omega) A1 n1 cap1 U (Lib.hid hU) (Lib.hid fun i hi => bounds_u16 (hw i hi)) (by omega) x y (bounds_u8 wx).1 (bounds_u8 wx).2 (bounds_u8 wy).1 (bounds_u8 wy).2
end busShares
namespace busShares
theorem own : ownKnob Try.prog.godebug = none := by kernel_rfl
set_option maxRecDepth 100000 in
theorem lifted (os : Os) (started : os.Started) (H : Type) (enc : TypeId × Value → H) :
    ReturnsInHanded {} Try.checked os 3 .any (Rows.busSharesSpec.pre6 enc Try.prog Try.f3 Rows.busSharesRow.domain false) (Rows.busSharesSpec.post enc Try.prog Try.f3 false true false false) := by
  refine returnsInHanded_of_change_sized (C := Try.checked) own started (by kernel_rfl) Try.func3
    (ChangeSpec.witness6 (enc := enc) (C := Try.checked) false ⟨#[], #[.slice none 0 0, .slice none 0 0, .agg #[.int .u8 0, .int .u8 0]], []⟩ 8 (by kernel_rfl) (by kernel_rfl) (by kernel_rfl) (by kernel_rfl)) ?_
  intro W base args ds gs before hval0 hW hcnd hsz0 _
  have hsz : (DataW.weightsEach Try.prog (Try.f3.params.toList ++ Rows.busSharesSpec.plain.varTypes Try.prog) (ds ++ gs)).all (· ≤ reachBytes) = true := hsz0
  have hval : ∀ (j : Nat) t v, Try.f3.params[j]? = some t → args[j]? = some v → Value.okWide Try.prog W .any base t v := hval0
  have hW' := hW
  obtain ⟨p, q, hA0, hV, rfl, hfz, hnd⟩ := hW
  have hA : DataW.TrodAll enc Try.prog W 0 (fun _ => true) true Try.f3.params.toList args.toList ds p := hA0
  rw [Try.params3] at hA hval hsz
  obtain ⟨v0, vs0, d0, ds0, p0, q0, hargs, rfl, rfl, h0, r0⟩ := trodAll_cons hA
  obtain ⟨v1, vs1, d1, ds1, p1, q1, rfl, rfl, rfl, h1, r1⟩ := trodAll_cons r0
  obtain ⟨v2, vs2, d2, ds2, p2, q2, rfl, rfl, rfl, h2, r2⟩ := trodAll_cons r1
  obtain ⟨rfl, rfl, rfl⟩ := trodAll_nil r2
  obtain rfl : args = #[v0, v1, v2] := by cases args; simp_all
  obtain ⟨rfl, rfl⟩ := trodVars_none hV
  obtain ⟨A0, n0, cap0, D0, rfl, w0, m0, z0⟩ := arg_slice [some .i64, some .i64, some .u64, some .u64] Try.underlying22 6 (by kernel_rfl) (by kernel_rfl) (hval 0 22 v0 rfl rfl) h0
  have l0 : n0 * Try.prog.bytesOf 41 ≤ reachBytes := by
    rcases z0 with ⟨_, e⟩ | ⟨es, sp, e, el⟩
    · subst e; simp
    · subst e; subst el; exact Nat.le_trans (Nat.mul_le_mul_right _ (Nat.le_add_right _ _)) (sized_slice hsz (j := 0) (t := 22) (e := 41) rfl rfl Try.underlying22)
  have b0 : Try.prog.bytesOf 41 = 32 := by kernel_rfl
  rw [b0] at l0
  simp only [reachBytes] at l0
  clear z0 b0
  obtain ⟨A1, n1, cap1, D1, rfl, w1, m1, z1⟩ := arg_slice [some .u16] Try.underlying23 6 (by kernel_rfl) (by kernel_rfl) (hval 1 23 v1 rfl rfl) h1
  have l1 : n1 * Try.prog.bytesOf 34 ≤ reachBytes := by
    rcases z1 with ⟨_, e⟩ | ⟨es, sp, e, el⟩
    · subst e; simp
    · subst e; subst el; exact Nat.le_trans (Nat.mul_le_mul_right _ (Nat.le_add_right _ _)) (sized_slice hsz (j := 1) (t := 23) (e := 34) rfl rfl Try.underlying23)
  have b1 : Try.prog.bytesOf 34 = 2 := by kernel_rfl
  rw [b1] at l1
  simp only [reachBytes] at l1
  clear z1 b1
  obtain ⟨c2, rfl, w2⟩ := arg_agg [some .u8, some .u8] (by first | exact .inl ⟨_, Try.underlying24⟩ | exact .inr ⟨_, _, Try.underlying24⟩) 6 (by kernel_rfl) (by kernel_rfl) (hval 2 24 v2 rfl rfl) h2
  clear hA0 hval0 hsz0 hsz
  refine (walk W A0 n0 cap0 D0 w0 l0 A1 n1 cap1 D1 w1 l1 c2 w2).mono fun e W' ⟨he, bel⟩ => ?_
  subst he
  exact ⟨_, rfl, _, _, _, [], _, [], hW', trodAll_mk1 (shut_bool Try.underlying4 _), (trodAll_cons_mk (Below.trod laidOut (by kernel_rfl) (of_decide_eq_true (by kernel_rfl)) h0 bel (fun x hx => by simpa using hW'.lt x (by simp [hx]))) (trodAll_cons_mk (Below.trod laidOut (by kernel_rfl) (of_decide_eq_true (by kernel_rfl)) h1 bel (fun x hx => by simpa using hW'.lt x (by simp [hx]))) (trodAll_cons_mk (Below.trod laidOut (by kernel_rfl) (of_decide_eq_true (by kernel_rfl)) h2 bel (fun x hx => by simpa using hW'.lt x (by simp [hx]))) trodAll_mk0))), rfl, bel.frame _, fun h => by cases h⟩
theorem over : Rows.busSharesRow.holds Try.pinned (OpenSpec.ofChange Rows.busSharesSpec) :=
  OpenClaim.holds_of_wide 3 Try.f3 rfl rfl rfl rfl rfl rfl rfl ⟨rfl, rfl, rfl, rfl, rfl⟩ rfl rfl rfl rfl rfl (by kernel_rfl) Try.func3 (by kernel_rfl)
    (of_decide_eq_true (by kernel_rfl)) (by unfold Func.isWrapper; first | (rw [if_pos (by decide +kernel)]; kernel_rfl) | (rw [if_neg (by decide +kernel)]; exact ⟨rfl, rfl⟩))
    (fun os started H enc _ => lifted os started H enc)
end busShares
theorem busShares_holds : Rows.BusSharesSaid := busShares.over
#print axioms busShares_holds
end Go.Proofs.Ytbfhohcimomphaa
