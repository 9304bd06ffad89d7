/- BusPlays: of any masters it is told whether they may be; whoever wants the bus, whenever: who has each slot, who is stalled, and the row are what the document says. No condition. -/
import Derived.Test.YtbfhohcimomphaaBusPlay
import Derived.Test.YtbfhohcimomphaaStill
import Derived.Test.YtbfhohcimomphaaArg
import Derived.Test.YtbfhohcimomphaaRows
import Derived.ProofKit
import Derived.OpenShut
import Derived.ShutString
import Derived.ChangeOld
import Derived.Below
import Derived.SizedLaws
import Derived.Test.YtbfhohcimomphaaArgN
namespace Go.Proofs.Ytbfhohcimomphaa
open Go.ChangeShapes Go.WideShapes Go.ChangeAt Go.RowKit
open Go.ChangeMaps (open_string shut_string)
set_option linter.unusedVariables false
set_option linter.unusedSimpArgs false
namespace busPlays
open busPlay
def RelM (w : World) (n : Nat) (iv : Value) (wr : World) : Prop := ∃ i : Nat, iv = .int .i64 i ∧ i ≤ n ∧ Below w.heap.size w wr
def RelS (w : World) (L : List Mp) (ph : Int) (A : Bl) (rp : Nat) (av : Value) (nv iv : Value) (wr : World) : Prop :=
  ∃ (i n : Nat) (N T : Int) (B : Bu) (M : Nat → Ms) (c : Nat → Int) (H : List (Int × Int)) (R : Rl), nv = .int .u64 N ∧ iv = .int .i64 i ∧ i ≤ 120 ∧ n ≤ i ∧ 0 ≤ N ∧ N ≤ 18446744073709551615 ∧ IsB wr A B ∧ Al L ph n T B M c H ∧ (∀ e ∈ H, 0 ≤ e.1 ∧ e.1 < 4611686018427387904) ∧ IsRB wr R L.length M c H ph ∧ R.p = rp ∧ R.av = av ∧ (∀ a, A.all a → ¬ R.all L.length a) ∧ (∀ a, R.all L.length a → w.heap.size ≤ a) ∧ Below w.heap.size w wr
def RelD (wr : World) (n : Nat) (iv : Value) (wi : World) : Prop := ∃ d : Int, iv = .int .i64 d ∧ -1 ≤ d ∧ d ≤ n + 1 ∧ Below wr.heap.size wr wi
set_option maxRecDepth 100000 in
set_option maxHeartbeats 40000000 in
theorem walk2 (w : World) (A0 : Option Addr) (cap : Nat) (L : List Mp) (hA : Hid (Mps w A0 L)) (hL : Hid (∀ m ∈ L, m.rng)) (hn : L.length ≤ 140737488351232) (ph : Int) (p0 : 0 ≤ ph) (p1 : ph ≤ 18446744073709551615)
    (A1 : Option Addr) (ns caps : Nat) (Wt : Nat → Int) (Ws : Nat → List Int) (hS : Hid (Script w A1 ns Wt Ws)) (hns : ns ≤ 140737488351232) :
    Calls Try.prog 7 #[.slice A0 L.length cap, .int .u64 ph, .slice A1 ns caps] w fun e w' => e = .returned (.bool true) ∧ Below w.heap.size w w' := by
  have AW := fun W => Lib.hid (awake_any W)
  have MP := fun W (b : Below w.heap.size w W) => Lib.hid (hA.out.below b)
  have RA := fun W h => Lib.hid (rallB_any W A0 cap L h hL hn)
  by_cases h40 : L.length ≤ 40
  · have e40 : decide (40 < (L.length : Int)) = false := decide_eq_false (by omega)
    have N1 := fun W h => Lib.hid (new_play W A0 cap L ph h hL.out h40 p0 p1)
    go_enter Try.func7, Try.ntmps7
    go_wp2_with (first
      | (go_at_call 9; (with_reducible refine Calls.mono (AW _).out ?_); rintro e w0 ⟨rfl, bel0⟩; have HB := Lib.hid bel0; clear bel0)
      | (go_at_call 10; (with_reducible refine Calls.mono (N1 _ (MP _ HB.out).out).out ?_); rintro e w1 ⟨pv, y, rfl, bel1, n1, n2, n3⟩; have LO := Lib.hid HB.out.size; have HB := Lib.hid (Below.next HB.out bel1); have Q1 := Lib.hid n1; have Q2 := Lib.hid n2; have Q3 := Lib.hid n3; clear bel1 n1 n2 n3))
    clear N1 AW
    go_loopw [9] (fun iv wr => Hid (RelM w1 L.length iv wr)) (fun iv _ => L.length - (intOf iv).toNat)
    case atStart => exact ⟨0, rfl, by omega, Below.refl _ _⟩
    case round =>
      obtain ⟨i, rfl, hi, hbel⟩ := hrel
      have BEL := Lib.hid hbel
      have BE := Lib.hid (Below.next HB.out hbel)
      clear hbel
      by_cases hil : i < L.length
      · have hi2 : (i : Int) < L.length := by omega
        have hm : L[i]? = some L[i] := List.getElem?_eq_getElem hil
        obtain ⟨ab, ao, rfl, hab, a0, a1, a2, a3⟩ := (MP _ BE.out).out i _ hm
        have rg := hL.out _ (List.mem_of_getElem? hm)
        have M1 := fun W => Lib.hid (mayBu_any L[i] rg W)
        have M2 := fun W => Lib.hid (rmayB_any L[i] rg W)
        clear hm rg
        generalize mayBu L[i] = mb at *
        generalize L[i] = m at *
        have abl := BE.out.size
        have g0 := SubW.cell a0 (by omega)
        have g1 := SubW.cell a1 (by omega)
        have g2 := SubW.cell a2 (by omega)
        have g3 := SubW.cell a3 (by omega)
        go_wp2_with fail
        refine wp_region_sub (by kernel_rfl) (by kernel_rfl) ?_
        repeat (go_big_quiet_step (first | (go_at_call 15; exact sub_call _ (M1 _).out) | (go_at_call 14; exact sub_call _ (M2 _).out)))
        refine wpQuiet_nil ?_
        intro _ hw'
        obtain ⟨⟨w5, hw5⟩, rfl⟩ := hw'
        have BN := Lib.hid (Below.next BEL.out hw5)
        clear g0 g1 g2 g3 a0 a1 a2 a3 hw5
        go_wp2_with fail
        go_roundw
        case rel => exact ⟨i + 1, by go_num, by omega, by first | exact BN.out | exact Below.drewN' BN.out _⟩
        case measure => simp [intOf]; omega
      · have hi2 : ¬ (i : Int) < L.length := by omega
        by_cases hall : allB L
        · by_cases hp : ph < 4611686018427387904
          · have dp : decide (4611686018427387904 ≤ ph) = false := decide_eq_false (by omega)
            obtain ⟨A, rfl, rfl, k1, lo1⟩ := Q3.out hall hp
            have K1 := Lib.hid (k1.below BEL.out)
            have LO1 := Lib.hid (show ∀ a, A.own a → w.heap.size ≤ a from fun a ha => Nat.le_trans LO.out (lo1 a (.inl ha)))
            have N2 := fun W h => Lib.hid (rnewB_any W A0 cap L ph h hL hall.2.1 p0 p1)
            have HALL := Lib.hid hall
            have n16 := hall.2.1
            have n1 := hall.1
            clear Q1 Q2 Q3 k1 lo1 hall LO HB
            have HB := Lib.hid BE.out
            clear BE BEL
            go_wp2_with (first
              | (go_at_call 17; (with_reducible refine Calls.mono (N2 _ (MP _ HB.out)).out ?_); rintro e w3 ⟨R, rfl, ra, kr, lo2, bel2⟩; have KR := Lib.hid kr; have RA2 := Lib.hid ra; have DJ := Lib.hid (show ∀ a, A.all a → ¬ R.all L.length a from fun a ha hr => by have := K1.out.lt ha; have := lo2 a hr; omega); have LR := Lib.hid (show ∀ a, R.all L.length a → w.heap.size ≤ a from fun a ha => Nat.le_trans HB.out.size (lo2 a ha)); have K1 := Lib.hid (K1.out.below bel2); have HB := Lib.hid (Below.next HB.out bel2); clear bel2 kr ra lo2)
              | (go_at_call 11; (with_reducible refine Calls.mono (RA _ (MP _ HB.out)).out ?_); rintro e w2 ⟨r, rfl, r1, bel1⟩; obtain rfl := r1.2 HALL.out; have K1 := Lib.hid (K1.out.below bel1); have HB := Lib.hid (Below.next HB.out bel1); clear bel1 r1))
            clear N2 RA
            go_loopw [11, 12] (fun nv iv wr => Hid (RelS w L ph A R.p (.slice A0 L.length cap) nv iv wr)) (fun _ iv _ => 120 - (intOf iv).toNat)
            case atStart => exact ⟨0, 0, ph, _, _, _, _, _, R, rfl, rfl, by omega, Nat.le_refl _, p0, p1, K1.out, Al.first HALL.out.2.2 n16 p0 hp, (fun e he => by cases he), KR.out, rfl, RA2.out, DJ.out, LR.out, HB.out⟩
            case round =>
              clear K1 KR RA2 DJ LR HB
              generalize R.p = rp at *
              obtain ⟨i, n, N, T, B, M, c, H, R, rfl, rfl, hi, hni, hN0, hN1, ks, al, hH, kr, rfl, hav, dj, lr, hbel⟩ := hrel
              have KS := Lib.hid ks
              have AL := Lib.hid al
              have HH := Lib.hid hH
              have KR := Lib.hid kr
              have HAV := Lib.hid hav
              have DJ := Lib.hid dj
              have LR := Lib.hid lr
              have BEL := Lib.hid hbel
              clear ks al hH kr hav dj lr hbel
              by_cases hin : i < ns ∧ i < 120
              · obtain ⟨hin1, hin2⟩ := hin
                have hin3 : (i : Int) < ns := by omega
                have hin4 : (i : Int) < 120 := by omega
                obtain ⟨sb, so, Aw, cw, rfl, hsb, q0, q1, wt0, wt1, hsrc, hll⟩ := hS.out i hin1
                have q0 := (BEL.out.cell (p := ⟨sb, so + i * 2, none⟩) hsb).trans q0
                have q1 := (BEL.out.cell (p := ⟨sb, so + i * 2 + 1, none⟩) hsb).trans q1
                have SRC := Lib.hid hsrc
                clear hsrc
                generalize Ws i = l at *
                generalize Wt i = wt at *
                simp only [maxLen] at hll
                by_cases hw40 : l.length ≤ 40
                · have dw : decide (40 < (l.length : Int)) = false := decide_eq_false (by omega)
                  have hN2 : 0 ≤ IntKind.u64.wrap (N + wt) := by rw [IntKind.wrap_u64]; omega
                  have hN3 : IntKind.u64.wrap (N + wt) ≤ 18446744073709551615 := by rw [IntKind.wrap_u64]; omega
                  generalize hN' : IntKind.u64.wrap (N + wt) = N' at *
                  obtain ⟨x, y, B', s1, s2⟩ := step_any AL.out HH.out HALL.out.2.2 n16 p0 hp (by omega) w A0 cap hA.out HAV.out LR.out N' hN2 hN3 l hw40 Aw cw SRC.out
                  have S1 := fun W be k => Lib.hid (s1 W be k)
                  have S2 := fun W be k => Lib.hid (s2 W be k)
                  have hne : ¬ A.own wr.heap.size := fun h => by have := KS.out.lt (.inl h); omega
                  have BEd := Lib.hid (BEL.out.alloc BEL.out.size (.cells #[.int .u64 wt, .slice Aw l.length cw] 53))
                  have KSd := Lib.hid (KS.out.below ((Below.refl wr.heap.size wr).alloc (Nat.le_refl _) (.cells #[.int .u64 wt, .slice Aw l.length cw] 53)))
                  have KRd := Lib.hid (KR.out.below ((Below.refl wr.heap.size wr).alloc (Nat.le_refl _) (.cells #[.int .u64 wt, .slice Aw l.length cw] 53)))
                  clear s1 s2
                  go_wp2_with (first
                    | (go_at_call 12; (with_reducible refine Calls.mono (S1 _ BEd.out KSd.out).out ?_); rintro e w2 ⟨rfl, k2, o2⟩
                       have K2 := Lib.hid k2
                       have R2 := Lib.hid (KRd.out.only o2 (fun a ha => DJ.out a (.inl ha)))
                       have B2 := Lib.hid (Below.onlyF BEd.out o2 LO1.out)
                       have z2 : w2.cell? ⟨wr.heap.size, 1, none⟩ = some (.slice Aw l.length cw) := (Blk.only (Blk.new wr 53 [.int .u64 wt, .slice Aw l.length cw]) o2 hne).cell 1
                       clear k2 o2)
                    | (go_at_call 18; (with_reducible refine Calls.mono (S2 _ B2.out R2.out).out ?_); rintro e w3 ⟨rfl, R3, n3, T3, M3, c3, H3, hn3, e3p, e3v, k3, al3, hH3, o3, hd3⟩
                       have K3 := Lib.hid (K2.out.only o3 (fun a ha hx => DJ.out a hx ha))
                       have B3 := Lib.hid (Below.onlyF B2.out o3 LR.out)
                       have D3 := Lib.hid (show ∀ a, A.all a → ¬ R3.all L.length a from fun a ha hx => (hd3 a hx).elim (fun hx => DJ.out a ha hx) (fun hx => by have := K2.out.lt ha; omega))
                       have L3 := Lib.hid (show ∀ a, R3.all L.length a → w.heap.size ≤ a from fun a hx => (hd3 a hx).elim (LR.out a) (fun hx => Nat.le_trans B2.out.size hx))
                       have c5 := fun W (b : Below w3.heap.size w3 W) => rRow_any (k3.below b) (Lib.hid hH3) (by have := al3.hl; omega)
                       unfold RowPost at c5
                       rw [e3p, al3.row] at c5
                       have RR := fun W b => Lib.hid (c5 W b)
                       have EP := Lib.hid e3p
                       have EV := Lib.hid (e3v.trans HAV.out)
                       have KR3 := Lib.hid k3
                       have AL3 := Lib.hid al3
                       have HH3 := Lib.hid hH3
                       clear c5 e3p e3v k3 al3 hH3 o3 hd3)
                    | (go_at_call 19; (with_reducible refine Calls.mono (row_any K3.out) ?_); rintro e w4 ⟨rfl, n4, hw4⟩
                       have B4 := Lib.hid (show Below w3.heap.size w3 w4 from hw4 ▸ Below.drewN' (Below.refl _ _) n4)
                       clear hw4)
                    | (go_at_call 20; (with_reducible refine Calls.mono (RR _ B4.out).out ?_); rintro e w5 ⟨rfl, b5⟩
                       have B5 := Lib.hid (Below.next B4.out b5)
                       clear b5))
                  go_loopw [22] (fun iv wi => Hid (RelD w5 L.length iv wi)) (fun iv _ => (L.length + 1 - intOf iv).toNat)
                  case atStart => exact ⟨-1, rfl, by omega, by omega, Below.refl _ _⟩
                  case round =>
                    obtain ⟨d, rfl, hd0, hd1, hb⟩ := hrel
                    have BW := Lib.hid hb
                    have BI := Lib.hid (Below.next B5.out hb)
                    have KI := Lib.hid (K3.out.below BI.out)
                    have BLEN := Lib.hid AL3.out.g.hL
                    clear hb
                    by_cases hdn : d ≤ L.length
                    · by_cases hdi : 0 ≤ d ∧ d < L.length
                      · obtain ⟨hd2, hd3⟩ := hdi
                        obtain ⟨k, rfl⟩ : ∃ k : Nat, d = k := ⟨d.toNat, by omega⟩
                        have bs := AL3.out.c k (by omega)
                        have kI := KR3.out.below BI.out
                        obtain ⟨-, -, -, r3, -⟩ := kI.cells
                        rw [EP.out] at r3
                        have r4 := kI.st.cell k
                        rw [Fn_at .i64 c3 (show k < L.length by omega)] at r4
                        generalize c3 k = ck at bs r4
                        have ST := Lib.hid (stalls_any KI.out (by rw [BLEN.out]; exact n16) (by rw [BLEN.out]; omega) bs)
                        clear bs kI
                        go_wp2_with (go_at_call 16; (with_reducible refine Calls.mono ST.out ?_); rintro e w7 ⟨rfl, rfl⟩)
                        go_roundw
                        case rel => exact ⟨k + 1, by go_num, by omega, by omega, BW.out⟩
                        case measure => simp [intOf]; omega
                      · have ST := Lib.hid (stalls_no KI.out d (by rw [BLEN.out]; omega) (by rw [BLEN.out]; exact n16))
                        rcases (show d = -1 ∨ d = L.length by omega) with rfl | rfl
                        · go_wp2_with (go_at_call 16; (with_reducible refine Calls.mono ST.out ?_); rintro e w7 ⟨rfl, rfl⟩)
                          go_roundw
                          case rel => exact ⟨0, by go_num, by omega, by omega, BW.out⟩
                          case measure => simp [intOf] <;> omega
                        · go_wp2_with (go_at_call 16; (with_reducible refine Calls.mono ST.out ?_); rintro e w7 ⟨rfl, rfl⟩)
                          go_roundw
                          case rel => exact ⟨L.length + 1, by go_num, by omega, by omega, BW.out⟩
                          case measure => simp [intOf] <;> omega
                    · have KRI := Lib.hid (KR3.out.below BI.out)
                      have BE9 := Lib.hid (Below.next B3.out BI.out)
                      go_wp2_with fail
                      go_roundw
                      case rel => exact ⟨i + 1, n3, N', T3, B', M3, c3, H3, R3, rfl, by go_num, by omega, by omega, hN2, hN3, KI.out, AL3.out, HH3.out, KRI.out, EP.out, EV.out, D3.out, L3.out, BE9.out⟩
                      case measure => simp [intOf]; omega
                · have dw : decide (40 < (l.length : Int)) = true := decide_eq_true (by omega)
                  go_wp2_with fail
                  go_ret
                  exact ⟨rfl, BEL.out.alloc BEL.out.size _⟩
              · rcases (show ¬ (i < ns) ∨ (i < ns ∧ ¬ (i < 120)) by omega) with h1 | ⟨h1, h2⟩
                · have h3 : ¬ (i : Int) < ns := by omega
                  go_wp2_with fail
                  go_ret
                  exact ⟨rfl, BEL.out⟩
                · have h3 : (i : Int) < ns := by omega
                  have h4 : ¬ (i : Int) < 120 := by omega
                  go_wp2_with fail
                  go_ret
                  exact ⟨rfl, BEL.out⟩
          · have dp : decide (4611686018427387904 ≤ ph) = true := decide_eq_true (by omega)
            obtain ⟨rfl, rfl⟩ := Q2.out hall (by omega)
            have HALL := Lib.hid hall
            clear Q1 Q2 Q3 hall
            go_wp2_with (first
              | (go_at_call 11; (with_reducible refine Calls.mono (RA _ (MP _ BE.out)).out ?_); rintro e w2 ⟨r, rfl, r1, bel1⟩; obtain rfl := r1.2 HALL.out; have HB := Lib.hid (Below.next BE.out bel1); clear bel1 r1))
            go_ret
            exact ⟨rfl, HB.out⟩
        · obtain ⟨rfl, rfl⟩ := Q1.out hall
          have HNO := Lib.hid hall
          clear Q1 Q2 Q3 hall
          go_wp2_with (first
            | (go_at_call 11; (with_reducible refine Calls.mono (RA _ (MP _ BE.out)).out ?_); rintro e w2 ⟨r, rfl, r1, bel1⟩; obtain rfl : r = false := by { cases r with | false => rfl | true => exact absurd (r1.1 rfl) HNO.out }; have HB := Lib.hid (Below.next BE.out bel1); clear bel1 r1))
          go_ret
          exact ⟨rfl, HB.out⟩
  · have e40 : decide (40 < (L.length : Int)) = true := decide_eq_true (by omega)
    go_enter Try.func7, Try.ntmps7
    go_wp2_with (first
      | (go_at_call 9; (with_reducible refine Calls.mono (AW _).out ?_); rintro e w0 ⟨rfl, bel0⟩; have HB := Lib.hid bel0; clear bel0))
    go_ret
    exact ⟨rfl, HB.out⟩
theorem walk (w : World) (A0 : Option Addr) (n0 cap0 : Nat) (D0 : Nat → List Value) (w0 : Elems w [some .i64, some .i64, some .u64, some .u64] A0 n0 D0) (l0 : n0 * 32 ≤ 140737488351232) (ph : Int) (wp : (Lit.int .u64 ph).wf = true)
    (A1 : Option Addr) (n1 cap1 : Nat) (D1 : Nat → List Value) (w1 : ElemsN w [.int .u64, .sl [some .i64]] A1 n1 D1) (l1 : n1 * 32 ≤ 140737488351232) :
    Calls Try.prog 7 #[.slice A0 n0 cap0, .int .u64 ph, .slice A1 n1 cap1] w fun e w' => e = .returned (.bool true) ∧ Below w.heap.size w w' := by
  obtain ⟨L, rfl, hM, hr⟩ := mps_of w0
  obtain ⟨Wt, Ws, hS⟩ := script_of w1
  exact walk2 w A0 cap0 L (Lib.hid hM) (Lib.hid hr) (by omega) ph (bounds_u64 wp).1 (bounds_u64 wp).2 A1 n1 cap1 Wt Ws (Lib.hid hS) (by omega)
end busPlays
namespace busPlays
theorem own : ownKnob Try.prog.godebug = none := by kernel_rfl
set_option maxRecDepth 100000 in
theorem lifted (os : Os) (started : os.Started) (H : Type) (enc : TypeId × Value → H) :
    ReturnsInHanded {} Try.checked os 7 .any (Rows.busPlaysSpec.pre6 enc Try.prog Try.f7 Rows.busPlaysRow.domain false) (Rows.busPlaysSpec.post enc Try.prog Try.f7 false true false false) := by
  refine returnsInHanded_of_change_sized (C := Try.checked) own started (by kernel_rfl) Try.func7
    (ChangeSpec.witness6 (enc := enc) (C := Try.checked) false ⟨#[], #[.slice none 0 0, .int .u64 0, .slice none 0 0], []⟩ 8 (by kernel_rfl) (by kernel_rfl) (by kernel_rfl) (by kernel_rfl)) ?_
  intro W base args ds gs before hval0 hW hcnd hsz0 _
  have hsz : (DataW.weightsEach Try.prog (Try.f7.params.toList ++ Rows.busPlaysSpec.plain.varTypes Try.prog) (ds ++ gs)).all (· ≤ reachBytes) = true := hsz0
  have hval : ∀ (j : Nat) t v, Try.f7.params[j]? = some t → args[j]? = some v → Value.okWide Try.prog W .any base t v := hval0
  have hW' := hW
  obtain ⟨p, q, hA0, hV, rfl, hfz, hnd⟩ := hW
  have hA : DataW.TrodAll enc Try.prog W 0 (fun _ => true) true Try.f7.params.toList args.toList ds p := hA0
  rw [Try.params7] at hA hval hsz
  obtain ⟨v0, vs0, d0, ds0, p0, q0, hargs, rfl, rfl, h0, r0⟩ := trodAll_cons hA
  obtain ⟨v1, vs1, d1, ds1, p1, q1, rfl, rfl, rfl, h1, r1⟩ := trodAll_cons r0
  obtain ⟨v2, vs2, d2, ds2, p2, q2, rfl, rfl, rfl, h2, r2⟩ := trodAll_cons r1
  obtain ⟨rfl, rfl, rfl⟩ := trodAll_nil r2
  obtain rfl : args = #[v0, v1, v2] := by cases args; simp_all
  obtain ⟨rfl, rfl⟩ := trodVars_none hV
  obtain ⟨A0, n0, cap0, D0, rfl, w0, m0, z0⟩ := arg_slice [some .i64, some .i64, some .u64, some .u64] Try.underlying22 6 (by kernel_rfl) (by kernel_rfl) (hval 0 22 v0 rfl rfl) h0
  have l0 : n0 * Try.prog.bytesOf 41 ≤ reachBytes := by
    rcases z0 with ⟨_, e⟩ | ⟨es, sp, e, el⟩
    · subst e; simp
    · subst e; subst el; exact Nat.le_trans (Nat.mul_le_mul_right _ (Nat.le_add_right _ _)) (sized_slice hsz (j := 0) (t := 22) (e := 41) rfl rfl Try.underlying22)
  have b0 : Try.prog.bytesOf 41 = 32 := by kernel_rfl
  rw [b0] at l0
  simp only [reachBytes] at l0
  clear z0 b0
  obtain ⟨a1, rfl, w1⟩ := arg_one Try.underlying30 (hval 1 30 v1 rfl rfl) h1
  obtain ⟨A2, n2, cap2, D2, rfl, w2, m2, z2⟩ := arg_sliceN [.int .u64, .sl [some .i64]] Try.underlying51 6 (by kernel_rfl) (by kernel_rfl) (hval 2 51 v2 rfl rfl) h2
  have l2 : n2 * Try.prog.bytesOf 53 ≤ reachBytes := by
    rcases z2 with ⟨_, e⟩ | ⟨es, sp, e, el⟩
    · subst e; simp
    · subst e; subst el; exact Nat.le_trans (Nat.mul_le_mul_right _ (Nat.le_add_right _ _)) (sized_slice hsz (j := 2) (t := 51) (e := 53) rfl rfl Try.underlying51)
  have b2 : Try.prog.bytesOf 53 = 32 := by kernel_rfl
  rw [b2] at l2
  simp only [reachBytes] at l2
  clear z2 b2
  clear hA0 hval0 hsz0 hsz
  refine (walk W A0 n0 cap0 D0 w0 l0 a1 w1 A2 n2 cap2 D2 w2 l2).mono fun e W' ⟨he, bel⟩ => ?_
  subst he
  exact ⟨_, rfl, _, _, _, [], _, [], hW', trodAll_mk1 (shut_bool Try.underlying4 _), (trodAll_cons_mk (Below.trod laidOut (by kernel_rfl) (of_decide_eq_true (by kernel_rfl)) h0 bel (fun x hx => by simpa using hW'.lt x (by simp [hx]))) (trodAll_cons_mk (Below.trod laidOut (by kernel_rfl) (of_decide_eq_true (by kernel_rfl)) h1 bel (fun x hx => by simpa using hW'.lt x (by simp [hx]))) (trodAll_cons_mk (Below.trod laidOut (by kernel_rfl) (of_decide_eq_true (by kernel_rfl)) h2 bel (fun x hx => by simpa using hW'.lt x (by simp [hx]))) trodAll_mk0))), rfl, bel.frame _, fun h => by cases h⟩
theorem over : Rows.busPlaysRow.holds Try.pinned (OpenSpec.ofChange Rows.busPlaysSpec) :=
  OpenClaim.holds_of_wide 7 Try.f7 rfl rfl rfl rfl rfl rfl rfl ⟨rfl, rfl, rfl, rfl, rfl⟩ rfl rfl rfl rfl rfl (by kernel_rfl) Try.func7 (by kernel_rfl)
    (of_decide_eq_true (by kernel_rfl)) (by unfold Func.isWrapper; first | (rw [if_pos (by decide +kernel)]; kernel_rfl) | (rw [if_neg (by decide +kernel)]; exact ⟨rfl, rfl⟩))
    (fun os started H enc _ => lifted os started H enc)
end busPlays
theorem busPlays_holds : Rows.BusPlaysSaid := busPlays.over
#print axioms busPlays_holds
end Go.Proofs.Ytbfhohcimomphaa
