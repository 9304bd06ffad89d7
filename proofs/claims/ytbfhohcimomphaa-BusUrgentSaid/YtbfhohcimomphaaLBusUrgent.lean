/- BusUrgent: whoever has a slot is at least as urgent as all that wanted it, and may; of alike ones it has the least number. No condition. -/
import Derived.Test.YtbfhohcimomphaaBusBoth
import Derived.Test.YtbfhohcimomphaaStill
import Derived.Test.YtbfhohcimomphaaArg
import Derived.Test.YtbfhohcimomphaaRows
import Derived.ProofKit
import Derived.OpenShut
import Derived.ShutString
import Derived.ChangeOld
import Derived.Below
import Derived.SizedLaws
namespace Go.Proofs.Ytbfhohcimomphaa
open Go.ChangeShapes Go.WideShapes Go.ChangeAt Go.RowKit
open Go.ChangeMaps (open_string shut_string)
set_option linter.unusedVariables false
set_option linter.unusedSimpArgs false
namespace busUrgent
open busBoth
def bit (u : Int) (k : Nat) : Bool := bits BinOp.and .u16 (u / 2 ^ k) 1 == 1
theorem ids_yes {f : Nat → Bool} {i : Nat} (h : f i = true) : ids 1 f (i + 1) = ids 1 f i ++ [(i : Int)] := by simp [ids, h]
theorem ids_no {f : Nat → Bool} {i : Nat} (h : f i = false) : ids 1 f (i + 1) = ids 1 f i := by simp [ids, h]
theorem best_is (can : Nat → Bool) (pri : Nat → Int) (n : Nat) : ∃ b, BestR can pri n b := by
  induction n with
  | zero => exact ⟨-1, .inl ⟨rfl, fun j h => by omega⟩⟩
  | succ n ih =>
    obtain ⟨b, h⟩ := ih
    cases hc : can n with
    | false => exact ⟨b, h.no hc⟩
    | true =>
      by_cases h1 : b < 0 ∨ pri n < pri b.toNat
      · exact ⟨n, h.first hc h1⟩
      · exact ⟨b, h.keep (by omega) (fun h2 => h1 (.inr h2))⟩
theorem src_slc {w : World} {e : TypeId} {A : Option Addr} {m c : Nat} {xs : List Value} (h : Slc w e 1 (.slice A m c) m xs) : Src w 1 A m xs := by
  obtain ⟨A', c', e', hs⟩ := h.src
  cases e'
  exact hs
def RelT (w : World) (L : List Mp) (A : Bl) (rp : Nat) (av : Value) (tv : Value) (wr : World) : Prop :=
  ∃ (t : Nat) (B : Bu) (M : Nat → Ms) (c : Nat → Int) (H : List (Int × Int)) (R : Rl), tv = .int .u64 t ∧ t ≤ 120 ∧ IsB wr A B ∧ Both L t B M c H ∧ IsRB wr R L.length M c H 0 ∧ R.p = rp ∧ R.av = av ∧ (∀ a, A.all a → ¬ R.all L.length a) ∧ (∀ a, R.all L.length a → w.heap.size ≤ a) ∧ Below w.heap.size w wr
def RelI (wr : World) (f : Nat → Bool) (n : Nat) (lv iv : Value) (wi : World) : Prop :=
  ∃ i : Nat, iv = .int .i64 i ∧ i ≤ n ∧ Slc wi 3 1 lv (ids 1 f i).length (intCells (ids 1 f i)) ∧ (∀ g, lv.ownBlock = some g → wr.heap.size ≤ g) ∧ Below wr.heap.size wr wi
def RelF (wr : World) (n : Nat) (iv : Value) (wi : World) : Prop := ∃ i : Nat, iv = .int .i64 i ∧ i ≤ n ∧ Below wr.heap.size wr wi
set_option maxRecDepth 100000 in
set_option maxHeartbeats 40000000 in
theorem walk2 (w : World) (A0 : Option Addr) (cap : Nat) (L : List Mp) (hA : Hid (Mps w A0 L)) (hL : Hid (∀ m ∈ L, m.rng)) (hn : L.length ≤ 140737488351232)
    (A1 : Option Addr) (nw capw : Nat) (U : Nat → Int) (hU : Hid (IntsAt w .u16 A1 nw U)) (hU2 : Hid (∀ i, i < nw → 0 ≤ U i ∧ U i ≤ 65535)) (hnw : nw ≤ 140737488351232) :
    Calls Try.prog 5 #[.slice A0 L.length cap, .slice A1 nw capw] w fun e w' => e = .returned (.bool true) ∧ Below w.heap.size w w' := by
  have AW := fun W => Lib.hid (awake_any W)
  have MP := fun W (b : Below w.heap.size w W) => Lib.hid (hA.out.below b)
  have RA := fun W h => Lib.hid (rallB_any W A0 cap L h hL hn)
  by_cases hall : allB L
  · have N1 := fun W h => Lib.hid (newb_any W A0 cap L 0 h (Lib.hid hall.2.2) hall.1 hall.2.1 (by decide) (by decide))
    have N2 := fun W h => Lib.hid (rnewB_any W A0 cap L 0 h hL hall.2.1 (by decide) (by decide))
    have HALL := Lib.hid hall
    have n16 := hall.2.1
    have n1 := hall.1
    clear hall
    by_cases hz : nw = 0
    · have d1 : ((nw : Int) == 0) = true := beq_iff_eq.2 (by omega)
      go_enter Try.func5, Try.ntmps5
      go_wp2_with (first
        | (go_at_call 9; (with_reducible refine Calls.mono (AW _).out ?_); rintro e w0 ⟨rfl, bel0⟩; have HB := Lib.hid bel0; clear bel0)
        | (go_at_call 11; (with_reducible refine Calls.mono (RA _ (MP _ HB.out)).out ?_); rintro e w2 ⟨r, rfl, r1, bel1⟩; obtain rfl := r1.2 HALL.out; have HB := Lib.hid (Below.next HB.out bel1); clear bel1 r1))
      go_ret
      exact ⟨rfl, HB.out⟩
    · have d1 : ((nw : Int) == 0) = false := beq_eq_false_iff_ne.2 (by omega)
      obtain ⟨i0, hi0, hz0, hz1, hz2⟩ := info_parts infoInt
      go_enter Try.func5, Try.ntmps5
      go_wp2_with (first
        | (go_at_call 9; (with_reducible refine Calls.mono (AW _).out ?_); rintro e w0 ⟨rfl, bel0⟩; have HB := Lib.hid bel0; clear bel0)
        | (go_at_call 10; (with_reducible refine Calls.mono (N1 _ (MP _ HB.out)).out ?_); rintro e w1 ⟨A, rfl, k1, lo1, bel1⟩; have K1 := Lib.hid k1; have LO := Lib.hid (show ∀ a, A.own a → w.heap.size ≤ a from fun a ha => Nat.le_trans HB.out.size (lo1 a (.inl ha))); have HB := Lib.hid (Below.next HB.out bel1); clear bel1 k1 lo1)
        | (go_at_call 17; (with_reducible refine Calls.mono (N2 _ (MP _ HB.out)).out ?_); rintro e w2 ⟨R, rfl, ra, kr, lo2, bel2⟩; have KR := Lib.hid kr; have RA2 := Lib.hid ra; have DJ := Lib.hid (show ∀ a, A.all a → ¬ R.all L.length a from fun a ha hr => by have := K1.out.lt ha; have := lo2 a hr; omega); have LR := Lib.hid (show ∀ a, R.all L.length a → w.heap.size ≤ a from fun a ha => Nat.le_trans HB.out.size (lo2 a ha)); have K1 := Lib.hid (K1.out.below bel2); have HB := Lib.hid (Below.next HB.out bel2); clear bel2 kr ra lo2)
        | (go_at_call 11; (with_reducible refine Calls.mono (RA _ (MP _ HB.out)).out ?_); rintro e w2 ⟨r, rfl, r1, bel1⟩; obtain rfl := r1.2 HALL.out; have HB := Lib.hid (Below.next HB.out bel1); clear bel1 r1))
      clear N1 N2 RA AW
      go_loopw [8] (fun tv wr => Hid (RelT w L A R.p (.slice A0 L.length cap) tv wr)) (fun tv _ => 120 - (intOf tv).toNat)
      case atStart => exact ⟨0, _, _, _, _, R, rfl, by omega, K1.out, Both.first HALL.out.2.2 n16, KR.out, rfl, RA2.out, DJ.out, LR.out, HB.out⟩
      case round =>
        clear K1 KR RA2 DJ LR HB
        generalize R.p = rp at *
        obtain ⟨t, B, M, c, H, R, rfl, ht, ks, both, kr, rfl, hav, dj, lr, hbel⟩ := hrel
        have KS := Lib.hid ks
        have BO := Lib.hid both
        have KR := Lib.hid kr
        have HAV := Lib.hid hav
        have DJ := Lib.hid dj
        have LR := Lib.hid lr
        have BEL := Lib.hid hbel
        clear ks both kr hav dj lr hbel
        by_cases hi : t < 120
        · have hi2 : (t : Int) < 120 := by omega
          have hlt : t % nw < nw := Nat.mod_lt _ (by omega)
          obtain ⟨gb, off, rfl, hgb, hc⟩ := hU.out.at_ hlt
          obtain ⟨hu0, hu1⟩ := hU2.out _ hlt
          have hc2 := Lib.hid ((BEL.out.cell (p := ⟨gb, off + t % nw, none⟩) hgb).trans hc)
          have hgb2 : gb < wr.heap.size := by have := BEL.out.size; omega
          clear hc
          generalize U (t % nw) = u at *
          have KLT := Lib.hid (fun a (h : A.all a) => KS.out.lt h)
          have RLT := Lib.hid (fun a (h : R.all L.length a) => KR.out.lt h)
          go_wp2_with fail
          go_loopw [9, 10] (fun lv iv wi => Hid (RelI wr (fun k => bit u k) L.length lv iv wi)) (fun _ iv _ => L.length - (intOf iv).toNat)
          case atStart => exact ⟨0, rfl, by omega, Slc.nil _ _ _, fun g h => by simp [Value.ownBlock] at h, Below.refl _ _⟩
          case round =>
            obtain ⟨i, rfl, hil, hsl, hown, hb⟩ := hrel
            have SL := Lib.hid hsl
            have OW := Lib.hid hown
            have BI := Lib.hid hb
            clear hsl hown hb
            by_cases hin : i < L.length
            · have hin2 : (i : Int) < L.length := by omega
              have hc3 := (BI.out.cell (p := ⟨gb, off + t % nw, none⟩) hgb2).trans hc2.out
              have hlen : (ids 1 (fun k => bit u k) i).length ≤ 16 := by have := ids_len 1 (fun k => bit u k) i; omega
              cases hbit : bit u i with
              | true =>
                have hb1 : (bits BinOp.and .u16 (u / 2 ^ i) 1 == 1) = true := hbit
                have HI := Lib.hid (ids_yes (f := fun k => bit u k) hbit)
                clear hbit
                obtain ⟨A3, c3, e3, hc9⟩ := SL.out.shape
                subst e3
                generalize ids 1 (fun k => bit u k) i = l at *
                go_wp2_with (at_builtin; refine wpList_append_slc _ rfl (.tmp 62) (.tmp 64) _ rfl 3 i0 _ 1 8 Try.underlying33 hi0 hz0 hz1 hz2 rfl (by omega) _ l.length (intCells l) rfl (Slc.alloc SL.out _) (some ⟨wr.heap.size, 0, none⟩) 1 1 [.int .i64 i] rfl (Src.one wr 3 _) (by simp [Value.oneCell']) (by omega) (by simp only [maxLen]; omega) ?_)
                intro v' w' hs' ho' hat'
                obtain ⟨A4, c4, e4, -⟩ := hs'.shape
                subst e4
                have HS := Lib.hid hs'
                have HAT := Lib.hid hat'
                have BN := Lib.hid (Below.onlyF (BI.out.alloc BI.out.size _) ho' OW.out)
                have sz := BI.out.size
                clear hs' ho' hat'
                go_wp2_with fail
                go_roundw
                case rel => exact ⟨i + 1, by go_num, by omega, by rw [HI.out]; simpa [intCells] using HS.out, fun g hg => by
                  rcases HAT.out with e | e
                  · exact OW.out g (e ▸ hg)
                  · rw [e] at hg; simp at hg; omega, BN.out⟩
                case measure => simp [intOf]; omega
              | false =>
                have hb1 : (bits BinOp.and .u16 (u / 2 ^ i) 1 == 1) = false := hbit
                have HI := Lib.hid (ids_no (f := fun k => bit u k) hbit)
                clear hbit
                go_wp2_with fail
                go_roundw
                case rel => exact ⟨i + 1, by go_num, by omega, by rw [HI.out]; exact SL.out, OW.out, BI.out⟩
                case measure => simp [intOf]; omega
            · have hin2 : ¬ (i : Int) < L.length := by omega
              obtain rfl : i = L.length := by omega
              have hw := ids_wants (show 0 < 1 by decide) (fun k => bit u k) L.length
              have hok := ids_ok (show 0 < 1 by decide) (fun k => bit u k) L.length
              have hlen := ids_len 1 (fun k => bit u k) L.length
              have PM := Lib.hid (fun x => ids_mem (m := 1) (by decide) (f := fun k => bit u k) (n := L.length) (x := x))
              obtain ⟨Al, cl, e3, hsrc⟩ := SL.out.src
              subst e3
              have KI := Lib.hid (KS.out.below BI.out)
              have RI := Lib.hid (KR.out.below BI.out)
              have BE := Lib.hid (Below.next BEL.out BI.out)
              obtain ⟨b, hb⟩ := best_is (canR t (wants (ids 1 (fun k => bit u k) L.length)) L M H) (priR L) L.length
              obtain ⟨B', e1, -, hle⟩ := BO.out.step HALL.out.2.2 (by omega) _ hb (M' := fun j => if (j : Int) = b then tk t (M j) else onS t (M j)) (fun j _ => rfl)
              have c0 := slot_run KI.out BO.out.g.at_ (by omega) (by omega) (by omega) (ids 1 (fun k => bit u k) L.length) Al cl hsrc (by omega) (by rw [BO.out.g.hL]; exact hok)
              rw [e1] at c0
              have HBB := Lib.hid hb
              have HLE := Lib.hid hle
              have HE1 := Lib.hid e1
              have C2 := fun W (k : IsRB W R L.length M c H 0) (be : Below w.heap.size w W) (hsl : Src W 1 Al (ids 1 (fun k => bit u k) L.length).length (intCells (ids 1 (fun k => bit u k) L.length))) => Lib.hid (rslot_ok (T := (t : Int)) k A0 cap HAV.out (Lib.hid fun W' o => hA.out.below (Below.onlyF be o LR.out)) (Lib.hid HALL.out.2.2)
                (Lib.hid ⟨fun i m hm => by obtain ⟨s, -, nw, -⟩ := BO.out.m i m hm; exact nw⟩) n16 (by omega) (by omega) (by decide) (by omega) (Lib.hid BO.out.hH) (by have := BO.out.hl; omega)
                (Lib.hid fun k hk => by have := BO.out.g.at_.st _ (List.mem_of_getElem? (BO.out.c k hk)); omega) (ids 1 (fun k => bit u k) L.length) Al cl (Lib.hid hsl) (by omega) (Lib.hid hok))
              have DONE : ∀ (w3 : World) (R3 : Rl) (M3 : Nat → Ms), IsB w3 A B' → (∀ j, j < L.length → M3 j = if (j : Int) = b then tk t (M j) else onS t (M j)) → IsRB w3 R3 L.length M3 (stallR (wants (ids 1 (fun k => bit u k) L.length)) b c L.length) (H ++ [((t : Int), b)]) 0 → R3.p = R.p → R3.av = R.av → (∀ a, A.all a → ¬ R3.all L.length a) → (∀ a, R3.all L.length a → w.heap.size ≤ a) → Below w.heap.size w w3 →
                  RelT w L A R.p (.slice A0 L.length cap) (.int .u64 ((t : Int) + 1)) w3 := fun w3 R3 M3 a1 a2 a3 a4 a5 a6 a7 a8 => by
                obtain ⟨B4, e4, bo4, -⟩ := BO.out.step HALL.out.2.2 (by omega) _ HBB.out a2
                rw [HE1.out] at e4
                cases e4
                exact ⟨t + 1, B', M3, _, _, R3, by go_num, by omega, a1, bo4, a3, a4, a5.trans HAV.out, a6, a7, a8⟩
              have DN := Lib.hid DONE
              clear hok e1 hle hb hsrc DONE
              by_cases hb0 : b < 0
              · rw [if_pos hb0, if_pos hb0] at c0
                have C1 := Lib.hid c0
                clear c0
                go_wp2_with (first
                  | (go_at_call 12; (with_reducible refine Calls.mono C1.out ?_); rintro e w2 ⟨rfl, k2, b2, o2⟩
                     have K2 := Lib.hid k2
                     have R2 := Lib.hid (RI.out.only o2 (fun a ha => DJ.out a (.inl ha)))
                     have B2 := Lib.hid (Below.onlyF BE.out o2 LO.out)
                     have S2 := Lib.hid (SL.out.only o2 (fun a ha h => by have := OW.out a ha; have := KLT.out a (.inl h); omega))
                     clear k2 b2 o2)
                  | (go_at_call 18; (with_reducible refine Calls.mono (C2 _ R2.out B2.out (src_slc S2.out)).out ?_); rintro e w3 ⟨b3, R3, M3, q1, he, q2, q3, q4, q5, q6, q7⟩
                     obtain rfl := q1.uniq HBB.out
                     rw [if_pos hb0, if_pos hb0] at he
                     subst he
                     have K3 := Lib.hid (K2.out.only q6 (fun a ha hx => DJ.out a hx ha))
                     have B3 := Lib.hid (Below.onlyF B2.out q6 LR.out)
                     have R3' := Lib.hid q4
                     have S3 := Lib.hid (S2.out.only q6 (fun a ha h => by have := OW.out a ha; have := RLT.out a h; omega))
                     have D3 := Lib.hid (show ∀ a, A.all a → ¬ R3.all L.length a from fun a ha hx => (q7 a hx).elim (fun hx => DJ.out a ha hx) (fun hx => by have := K2.out.lt ha; omega))
                     have L3 := Lib.hid (show ∀ a, R3.all L.length a → w.heap.size ≤ a from fun a hx => (q7 a hx).elim (LR.out a) (fun hx => Nat.le_trans B2.out.size hx))
                     have P3 := Lib.hid q2
                     have V3 := Lib.hid q3
                     have M3' := Lib.hid q5
                     clear q1 q2 q3 q4 q5 q6 q7))
                go_roundw
                case rel => exact DN.out _ _ _ K3.out M3'.out R3'.out P3.out V3.out D3.out L3.out B3.out
                case measure => simp [intOf]; omega
              · rw [if_neg hb0, if_neg hb0] at c0
                obtain ⟨id, hid, hbest⟩ := HLE.out (by omega)
                subst hid
                have C1 := Lib.hid c0
                have HBEST := Lib.hid hbest
                clear c0 hbest
                go_wp2_with (first
                  | (go_at_call 12; (with_reducible refine Calls.mono C1.out ?_); rintro e w2 ⟨rfl, k2, b2, o2⟩
                     have K2 := Lib.hid k2
                     have R2 := Lib.hid (RI.out.only o2 (fun a ha => DJ.out a (.inl ha)))
                     have B2 := Lib.hid (Below.onlyF BE.out o2 LO.out)
                     have S2 := Lib.hid (SL.out.only o2 (fun a ha h => by have := OW.out a ha; have := KLT.out a (.inl h); omega))
                     clear k2 b2 o2)
                  | (go_at_call 18; (with_reducible refine Calls.mono (C2 _ R2.out B2.out (src_slc S2.out)).out ?_); rintro e w3 ⟨b3, R3, M3, q1, he, q2, q3, q4, q5, q6, q7⟩
                     obtain rfl := q1.uniq HBB.out
                     rw [if_neg (show ¬ ((id : Int) < 0) by omega), if_neg (show ¬ ((id : Int) < 0) by omega)] at he
                     subst he
                     have K3 := Lib.hid (K2.out.only q6 (fun a ha hx => DJ.out a hx ha))
                     have B3 := Lib.hid (Below.onlyF B2.out q6 LR.out)
                     have R3' := Lib.hid q4
                     have S3 := Lib.hid (S2.out.only q6 (fun a ha h => by have := OW.out a ha; have := RLT.out a h; omega))
                     have D3 := Lib.hid (show ∀ a, A.all a → ¬ R3.all L.length a from fun a ha hx => (q7 a hx).elim (fun hx => DJ.out a ha hx) (fun hx => by have := K2.out.lt ha; omega))
                     have L3 := Lib.hid (show ∀ a, R3.all L.length a → w.heap.size ≤ a from fun a hx => (q7 a hx).elim (LR.out a) (fun hx => Nat.le_trans B2.out.size hx))
                     have P3 := Lib.hid q2
                     have V3 := Lib.hid q3
                     have M3' := Lib.hid q5
                     clear q1 q2 q3 q4 q5 q6 q7))
                have hidl : id < L.length := HBEST.out.lt
                have hmi : L[id]? = some L[id] := List.getElem?_eq_getElem hidl
                have hidl2 : (id : Int) < L.length := by omega
                have EPI := Lib.hid (show prB (freshB t B) id = L[id].q from by unfold prB; rw [show (freshB (t : Int) B).L = L from BO.out.g.hL, hmi])
                have HMI := Lib.hid hmi
                clear hmi C1
                generalize L[id] = mi at *
                go_loopw [15] (fun iv wi => Hid (RelF w3 (ids 1 (fun k => bit u k) L.length).length iv wi)) (fun iv _ => (ids 1 (fun k => bit u k) L.length).length - (intOf iv).toNat)
                case atStart => exact ⟨0, rfl, by omega, Below.refl _ _⟩
                case round =>
                  obtain ⟨i, rfl, hil, hb⟩ := hrel
                  have BI4 := Lib.hid hb
                  have BE4 := Lib.hid (Below.next B3.out hb)
                  clear hb
                  by_cases hin : i < (ids 1 (fun k => bit u k) L.length).length
                  · have hin2 : (i : Int) < (ids 1 (fun k => bit u k) L.length).length := by omega
                    have hx : (ids 1 (fun k => bit u k) L.length)[i]? = some ((ids 1 (fun k => bit u k) L.length)[i]) := List.getElem?_eq_getElem hin
                    obtain ⟨xk, exk, hxk, hbit⟩ := (PM.out _).1 (List.mem_of_getElem? hx)
                    rw [exk] at hx
                    have sl4 := S3.out.below BI4.out (fun g hg => S3.out.lt hg)
                    obtain ⟨gl, ol, cl', e3, -, -, hgl, hcl, -⟩ := sl4.at_ (by omega)
                    cases e3
                    have q0 := hcl i _ (show (intCells (ids 1 (fun k => bit u k) L.length))[i]? = some (.int .i64 xk) by simp [intCells, hx])
                    have hmx : L[xk]? = some L[xk] := List.getElem?_eq_getElem hxk
                    have hxk2 : (xk : Int) < L.length := by omega
                    obtain ⟨ab, ao, rfl, hab, a0, a1, a2, a3⟩ := (MP _ BE4.out).out xk _ hmx
                    obtain ⟨b2, o2, eA, -, x0, -, -, -⟩ := (MP _ BE4.out).out id _ HMI.out
                    cases eA
                    have ABLE := Lib.hid (fun (hu : L[xk].u = 0) (hp : L[xk].b = L[xk].p) => BO.out.whole HALL.out.2.2 (by omega) (wants (ids 1 (fun k => bit u k) L.length)) hmx (by rw [hw]; simp [hxk, hbit]) hu hp)
                    have EPX := Lib.hid (show prB (freshB t B) xk = L[xk].q from by unfold prB; rw [show (freshB (t : Int) B).L = L from BO.out.g.hL, hmx])
                    have okx := HALL.out.2.2 _ (List.mem_of_getElem? hmx)
                    have ux0 := okx.u0
                    have px0 := mayM_iff.1 okx.may
                    clear hmx hx hcl sl4 exk hbit okx
                    generalize L[xk] = mx at *
                    obtain ⟨m1, m2, m3, m4⟩ := px0
                    have abl := BE4.out.size
                    by_cases z1 : mx.q < mi.q
                    · have z1' : decide (mx.q < mi.q) = true := decide_eq_true z1
                      by_cases z2 : mx.u = 0
                      · have z2' : (mx.u == 0) = true := beq_iff_eq.2 z2
                        by_cases z3 : mx.b = mx.p
                        · have := HBEST.out.best xk hxk (ABLE.out z2 z3)
                          rw [EPI.out, EPX.out] at this
                          omega
                        · have z3' : (mx.b == mx.p) = false := beq_eq_false_iff_ne.2 z3
                          clear z2 ABLE
                          go_wp2_with fail
                          go_quiet (fail)
                          go_wp2_with fail
                          go_roundw
                          case rel => exact ⟨i + 1, by go_num, by omega, by first | exact BI4.out | exact Below.drewN' BI4.out _⟩
                          case measure => simp [intOf]; omega
                      · have z2' : (mx.u == 0) = false := beq_eq_false_iff_ne.2 z2
                        clear ABLE
                        go_wp2_with fail
                        go_quiet (fail)
                        go_wp2_with fail
                        go_roundw
                        case rel => exact ⟨i + 1, by go_num, by omega, by first | exact BI4.out | exact Below.drewN' BI4.out _⟩
                        case measure => simp [intOf]; omega
                    · have z1' : decide (mx.q < mi.q) = false := decide_eq_false z1
                      clear ABLE
                      go_wp2_with fail
                      go_quiet (fail)
                      go_wp2_with fail
                      go_roundw
                      case rel => exact ⟨i + 1, by go_num, by omega, by first | exact BI4.out | exact Below.drewN' BI4.out _⟩
                      case measure => simp [intOf]; omega
                  · have hin2 : ¬ (i : Int) < (ids 1 (fun k => bit u k) L.length).length := by omega
                    have hk4 := Lib.hid (K3.out.below BI4.out)
                    have hr4 := Lib.hid (R3'.out.below BI4.out)
                    go_wp2_with fail
                    go_roundw
                    case rel => exact DN.out _ _ _ hk4.out M3'.out hr4.out P3.out V3.out D3.out L3.out BE4.out
                    case measure => simp [intOf]; omega
        · go_wp2_with fail
          go_ret
          exact ⟨rfl, BEL.out⟩
  · have HNO := Lib.hid hall
    clear hall
    go_enter Try.func5, Try.ntmps5
    go_wp2_with (first
      | (go_at_call 9; (with_reducible refine Calls.mono (AW _).out ?_); rintro e w0 ⟨rfl, bel0⟩; have HB := Lib.hid bel0; clear bel0)
      | (go_at_call 11; (with_reducible refine Calls.mono (RA _ (MP _ HB.out)).out ?_); rintro e w2 ⟨r, rfl, r1, bel1⟩; obtain rfl : r = false := by { cases r with | false => rfl | true => exact absurd (r1.1 rfl) HNO.out }; have HB := Lib.hid (Below.next HB.out bel1); clear bel1 r1))
    all_goals
      go_ret
      exact ⟨rfl, HB.out⟩
theorem walk (w : World) (A0 : Option Addr) (n0 cap0 : Nat) (D0 : Nat → List Value) (w0 : Elems w [some .i64, some .i64, some .u64, some .u64] A0 n0 D0) (l0 : n0 * 32 ≤ 140737488351232)
    (A1 : Option Addr) (n1 cap1 : Nat) (D1 : Nat → List Value) (w1 : Elems w [some .u16] A1 n1 D1) (l1 : n1 * 2 ≤ 140737488351232) :
    Calls Try.prog 5 #[.slice A0 n0 cap0, .slice A1 n1 cap1] w fun e w' => e = .returned (.bool true) ∧ Below w.heap.size w w' := by
  obtain ⟨L, rfl, hM, hr⟩ := mps_of w0
  obtain ⟨U, hU, hw⟩ := ints_of w1
  exact walk2 w A0 cap0 L (Lib.hid hM) (Lib.hid hr) (by omega) A1 n1 cap1 U (Lib.hid hU) (Lib.hid fun i hi => bounds_u16 (hw i hi)) (by omega)
end busUrgent
namespace busUrgent
theorem own : ownKnob Try.prog.godebug = none := by kernel_rfl
set_option maxRecDepth 100000 in
theorem lifted (os : Os) (started : os.Started) (H : Type) (enc : TypeId × Value → H) :
    ReturnsInHanded {} Try.checked os 5 .any (Rows.busUrgentSpec.pre6 enc Try.prog Try.f5 Rows.busUrgentRow.domain false) (Rows.busUrgentSpec.post enc Try.prog Try.f5 false true false false) := by
  refine returnsInHanded_of_change_sized (C := Try.checked) own started (by kernel_rfl) Try.func5
    (ChangeSpec.witness6 (enc := enc) (C := Try.checked) false ⟨#[], #[.slice none 0 0, .slice none 0 0], []⟩ 8 (by kernel_rfl) (by kernel_rfl) (by kernel_rfl) (by kernel_rfl)) ?_
  intro W base args ds gs before hval0 hW hcnd hsz0 _
  have hsz : (DataW.weightsEach Try.prog (Try.f5.params.toList ++ Rows.busUrgentSpec.plain.varTypes Try.prog) (ds ++ gs)).all (· ≤ reachBytes) = true := hsz0
  have hval : ∀ (j : Nat) t v, Try.f5.params[j]? = some t → args[j]? = some v → Value.okWide Try.prog W .any base t v := hval0
  have hW' := hW
  obtain ⟨p, q, hA0, hV, rfl, hfz, hnd⟩ := hW
  have hA : DataW.TrodAll enc Try.prog W 0 (fun _ => true) true Try.f5.params.toList args.toList ds p := hA0
  rw [Try.params5] at hA hval hsz
  obtain ⟨v0, vs0, d0, ds0, p0, q0, hargs, rfl, rfl, h0, r0⟩ := trodAll_cons hA
  obtain ⟨v1, vs1, d1, ds1, p1, q1, rfl, rfl, rfl, h1, r1⟩ := trodAll_cons r0
  obtain ⟨rfl, rfl, rfl⟩ := trodAll_nil r1
  obtain rfl : args = #[v0, v1] := by cases args; simp_all
  obtain ⟨rfl, rfl⟩ := trodVars_none hV
  obtain ⟨A0, n0, cap0, D0, rfl, w0, m0, z0⟩ := arg_slice [some .i64, some .i64, some .u64, some .u64] Try.underlying22 6 (by kernel_rfl) (by kernel_rfl) (hval 0 22 v0 rfl rfl) h0
  have l0 : n0 * Try.prog.bytesOf 41 ≤ reachBytes := by
    rcases z0 with ⟨_, e⟩ | ⟨es, sp, e, el⟩
    · subst e; simp
    · subst e; subst el; exact Nat.le_trans (Nat.mul_le_mul_right _ (Nat.le_add_right _ _)) (sized_slice hsz (j := 0) (t := 22) (e := 41) rfl rfl Try.underlying22)
  have b0 : Try.prog.bytesOf 41 = 32 := by kernel_rfl
  rw [b0] at l0
  simp only [reachBytes] at l0
  clear z0 b0
  obtain ⟨A1, n1, cap1, D1, rfl, w1, m1, z1⟩ := arg_slice [some .u16] Try.underlying23 6 (by kernel_rfl) (by kernel_rfl) (hval 1 23 v1 rfl rfl) h1
  have l1 : n1 * Try.prog.bytesOf 34 ≤ reachBytes := by
    rcases z1 with ⟨_, e⟩ | ⟨es, sp, e, el⟩
    · subst e; simp
    · subst e; subst el; exact Nat.le_trans (Nat.mul_le_mul_right _ (Nat.le_add_right _ _)) (sized_slice hsz (j := 1) (t := 23) (e := 34) rfl rfl Try.underlying23)
  have b1 : Try.prog.bytesOf 34 = 2 := by kernel_rfl
  rw [b1] at l1
  simp only [reachBytes] at l1
  clear z1 b1
  clear hA0 hval0 hsz0 hsz
  refine (walk W A0 n0 cap0 D0 w0 l0 A1 n1 cap1 D1 w1 l1).mono fun e W' ⟨he, bel⟩ => ?_
  subst he
  exact ⟨_, rfl, _, _, _, [], _, [], hW', trodAll_mk1 (shut_bool Try.underlying4 _), (trodAll_cons_mk (Below.trod laidOut (by kernel_rfl) (of_decide_eq_true (by kernel_rfl)) h0 bel (fun x hx => by simpa using hW'.lt x (by simp [hx]))) (trodAll_cons_mk (Below.trod laidOut (by kernel_rfl) (of_decide_eq_true (by kernel_rfl)) h1 bel (fun x hx => by simpa using hW'.lt x (by simp [hx]))) trodAll_mk0)), rfl, bel.frame _, fun h => by cases h⟩
theorem over : Rows.busUrgentRow.holds Try.pinned (OpenSpec.ofChange Rows.busUrgentSpec) :=
  OpenClaim.holds_of_wide 5 Try.f5 rfl rfl rfl rfl rfl rfl rfl ⟨rfl, rfl, rfl, rfl, rfl⟩ rfl rfl rfl rfl rfl (by kernel_rfl) Try.func5 (by kernel_rfl)
    (of_decide_eq_true (by kernel_rfl)) (by unfold Func.isWrapper; first | (rw [if_pos (by decide +kernel)]; kernel_rfl) | (rw [if_neg (by decide +kernel)]; exact ⟨rfl, rfl⟩))
    (fun os started H enc _ => lifted os started H enc)
end busUrgent
theorem busUrgent_holds : Rows.BusUrgentSaid := busUrgent.over
#print axioms busUrgent_holds
end Go.Proofs.Ytbfhohcimomphaa
