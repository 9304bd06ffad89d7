/- BucketMost: in any span no more are taken than the document's bound, whoever takes when; there are never more than the depth. No condition. -/
import Derived.Test.YtlcnemkbkbihhaaBucketLaw
import Derived.Test.YtlcnemkbkbihhaaCounts
import Derived.Test.YtlcnemkbkbihhaaArg
import Derived.Test.YtlcnemkbkbihhaaRows
import Derived.ProofKit
import Derived.OpenShut
import Derived.ShutString
import Derived.ChangeOld
import Derived.Below
import Derived.SizedLaws
namespace Go.Proofs.Ytlcnemkbkbihhaa
open Go.ChangeShapes Go.WideShapes Go.ChangeAt Go.RowKit
open Go.ChangeMaps (open_string shut_string)
set_option linter.unusedVariables false
set_option linter.unusedSimpArgs false
namespace bucketMost
/-- Behind t ticks, with U tries at each: how many were taken, and the bucket. -/
def runK (d q : Int) (U : Nat → Nat) : Nat → Int × Bk
  | 0 => (0, ⟨d, q, d, 0, 0⟩)
  | t + 1 => ((runK d q U t).1 + (takesK t (U t) (runK d q U t).2).1, (hasK t (takesK t (U t) (runK d q U t).2).2).2)
section
variable {d q : Int} {U : Nat → Nat}
theorem runs (m : mayK d q = true) (t : Nat) (ht : t ≤ 1000) : Now d q t (runK d q U t).2 ∧ (0 < t → (runK d q U t).2.r = ((t : Int) - 1) / q) ∧ (t = 0 → (runK d q U t).2.r = 0) := by
  induction t with
  | zero => exact ⟨⟨k0_ok m, rfl, rfl, by simp [runK]⟩, fun h => absurd h (by omega), fun _ => rfl⟩
  | succ t ih =>
    obtain ⟨i1, -, -⟩ := ih (by omega)
    obtain ⟨j1, -, -⟩ := takes i1 (by omega) (by omega) (U t)
    obtain ⟨-, k2, -, k4, -⟩ := j1.has (by omega) (by omega)
    simp only [runK]
    refine ⟨⟨k2.ok, k2.hd, k2.hq, by have := k2.t; omega⟩, fun _ => ?_, fun h => absurd h (by omega)⟩
    rw [k4, show ((t + 1 : Nat) : Int) - 1 = t by omega]
theorem fall (m : mayK d q = true) (hU : ∀ t, U t ≤ 4) (a n : Nat) (h : a + n ≤ 1000) :
    (runK d q U (a + n)).1 + (runK d q U (a + n)).2.k - (runK d q U (a + n)).2.r ≤ (runK d q U a).1 + (runK d q U a).2.k - (runK d q U a).2.r ∧ (runK d q U a).1 ≤ (runK d q U (a + n)).1 ∧ (runK d q U (a + n)).1 ≤ (runK d q U a).1 + 4 * n := by
  induction n with
  | zero => simp
  | succ n ih =>
    have i := ih (by omega)
    obtain ⟨i1, -, -⟩ := runs (U := U) m (a + n) (by omega)
    obtain ⟨j1, j2, j3, j4⟩ := takes i1 (by omega) (by omega) (U (a + n))
    obtain ⟨-, k2, k3, k4, -⟩ := j1.has (by omega) (by omega)
    have hu := hU (a + n)
    rw [← Nat.add_assoc]
    simp only [runK]
    omega
/-- What the law's last loops ask. -/
theorem answer (m : mayK d q = true) (hU : ∀ t, U t ≤ 4) (a b : Nat) (h : a ≤ b) (hb : b ≤ 1000) :
    (runK d q U b).1 - (runK d q U a).1 ≤ mostK d q (b - a) ∧ 0 ≤ (runK d q U b).1 - (runK d q U a).1 ∧ (runK d q U b).1 ≤ 4000 ∧ 0 ≤ (runK d q U a).1 := by
  obtain ⟨m1, m2, m3, m4⟩ := mayK_iff.1 m
  have h1 := fall m hU a (b - a) (by omega)
  have h2 := fall m hU 0 a (by omega)
  rw [show a + (b - a) = b by omega] at h1
  rw [Nat.zero_add] at h2
  have ha := runs (U := U) m a (by omega)
  have hb' := runs (U := U) m b (by omega)
  have k1 := ha.1.ok.k1
  have k2 := hb'.1.ok.k0
  rw [ha.1.hd] at k1
  have e0 : (runK d q U 0).1 = 0 := rfl
  refine ⟨?_, by omega, by omega, by omega⟩
  unfold mostK
  rw [if_neg (by rw [m]; simp; omega)]
  rcases Nat.eq_zero_or_pos b with h3 | h3
  · obtain rfl : a = 0 := by omega
    subst h3
    have := mul_div_le (0 - 0 : Int) q (by omega) (by omega)
    simp only [Int.sub_self] at *
    simp
    omega
  · have r1 := hb'.2.1 h3
    rcases Nat.eq_zero_or_pos a with h4 | h4
    · have r2 := ha.2.2 h4
      subst h4
      have := Int.ediv_le_ediv (show 0 < q by omega) (show (b : Int) - 1 ≤ b - (0 : Nat) by omega)
      omega
    · have r2 := ha.2.1 h4
      have := (div_add ((a : Int) - 1) ((b : Int) - a) q (by omega) (by omega) (by omega)).2
      rw [show (a : Int) - 1 + ((b : Int) - a) = b - 1 by omega] at this
      omega
end

theorem run_succ (d q : Int) (U : Nat → Nat) (t : Nat) : runK d q U (t + 1) = ((runK d q U t).1 + (takesK t (U t) (runK d q U t).2).1, (hasK t (takesK t (U t) (runK d q U t).2).2).2) := rfl
theorem takes_succ (T : Int) (m : Nat) (s : Bk) : takesK T (m + 1) s = ((takesK T m s).1 + (if (takeK T (takesK T m s).2).1.1 then 1 else 0), (takeK T (takesK T m s).2).2) := rfl
theorem keep {w w' : World} {a g : Nat} {s : Bk} (k : IsK w a s) {p : Addr} (h : a ≠ p.block) (x : Value) : IsK (w.setCell p x) a s := Blk.far k h x
theorem under {w w' : World} {a : Nat} {s : Bk} (k : IsK w a s) (o : Below w.heap.size w w') : IsK w' a s := Blk.below k o (Blk.lt k)
def RelT (w : World) (b g : Nat) (d q : Int) (V : Nat → Nat) (tv : Value) (wr : World) : Prop :=
  ∃ t : Nat, tv = .int .i64 t ∧ t ≤ 300 ∧ Counts wr g 301 t (fun k => (runK d q V k).1) ∧ IsK wr b (runK d q V t).2 ∧ Below w.heap.size w wr
def RelI (w : World) (b g : Nat) (d q : Int) (V : Nat → Nat) (t : Nat) (iv : Value) (wr : World) : Prop :=
  ∃ i : Nat, iv = .int .i64 i ∧ i ≤ V t ∧ Counts wr g 301 t (fun k => (runK d q V k).1) ∧ wr.cell? ⟨g, t + 1, none⟩ = some (.int .i64 ((runK d q V t).1 + (takesK t i (runK d q V t).2).1)) ∧ IsK wr b (takesK t i (runK d q V t).2).2 ∧ Below w.heap.size w wr
def RelF (w : World) (g : Nat) (d q : Int) (V : Nat → Nat) (fv : Value) (wr : World) : Prop :=
  ∃ t : Nat, fv = .int .i64 t ∧ t ≤ 310 ∧ Counts wr g 301 300 (fun k => (runK d q V k).1) ∧ Below w.heap.size w wr
def RelU (w : World) (g a : Nat) (d q : Int) (V : Nat → Nat) (fv : Value) (wr : World) : Prop :=
  ∃ t : Nat, fv = .int .i64 t ∧ a ≤ t ∧ t ≤ 311 ∧ Counts wr g 301 300 (fun k => (runK d q V k).1) ∧ Below w.heap.size w wr
set_option maxRecDepth 100000 in
set_option maxHeartbeats 8000000 in
theorem walk2 (w : World) (depth : Int) (b0 : 0 ≤ depth) (b0' : depth ≤ 255) (every : Int) (b1 : 0 ≤ every) (b1' : every ≤ 255) (A : Option Addr) (n cap : Nat) (U : Nat → Int) (hA : Hid (IntsAt w .u8 A n U)) (hU : Hid (∀ i, i < n → 0 ≤ U i ∧ U i ≤ 255)) (hn : n ≤ 140737488351232) :
    Calls Try.prog 3 #[.int .u8 depth, .int .u8 every, .slice A n cap] w fun e w' => e = .returned (.bool true) ∧ Below w.heap.size w w' := by
  obtain ⟨d, hd⟩ : ∃ d, 1 + depth % 20 = d := ⟨_, rfl⟩
  obtain ⟨q, hq⟩ : ∃ q, 1 + every % 30 = q := ⟨_, rfl⟩
  have m : mayK d q = true := mayK_iff.2 (by omega)
  have C1 := fun W => Lib.hid (newK_fix d q W m)
  have d0 : 1 ≤ d := by omega
  have d1 : d ≤ 20 := by omega
  have q0 : 1 ≤ q := by omega
  have q1 : q ≤ 30 := by omega
  by_cases hz : n = 0
  · subst hz
    go_enter Try.func3, Try.ntmps3
    go_wp2_with (first
      | (go_at_call 8; (with_reducible refine Calls.mono (awake_any _) ?_); rintro e w0 ⟨rfl, bel0⟩)
      | (go_at_call 9; (with_reducible refine Calls.mono (C1 _).out ?_); rintro e w1 ⟨b, rfl, hb, k1, bel1⟩))
    go_ret
    exact ⟨rfl, Below.next bel0 bel1⟩
  · have hn0 : 0 < n := by omega
    have z1 : ((n : Int) == 0) = false := beq_eq_false_iff_ne.2 (by omega)
    have hmk : ∀ W, (Instr.makeSlice 29 (.int .i64 301) (.int .i64 301)).run Try.prog W = .ok (.slice (some ⟨W.heap.size, 0, none⟩) 301 301) (W.alloc (.cells (row 301) 3)) := fun _ => by kernel_rfl
    obtain ⟨V, hV⟩ : ∃ V : Nat → Nat, Hid (∀ t, (V t : Int) = U (t % n) % 5) := ⟨fun t => (U (t % n) % 5).toNat, fun t => by simp only; omega⟩
    have V4 : Hid (∀ t, V t ≤ 4) := fun t => by have := hV.out t; omega
    have M := Lib.hid m
    clear m
    go_enter Try.func3, Try.ntmps3
    go_wp2_with (first
      | (go_at_call 8; (with_reducible refine Calls.mono (awake_any _) ?_); rintro e w0 ⟨rfl, bel0⟩)
      | (go_at_call 9; (with_reducible refine Calls.mono (C1 _).out ?_); rintro e w1 ⟨b, rfl, hb, k1, bel1⟩
         have HB := Lib.hid (Below.next bel0 bel1)
         have KB := Lib.hid k1
         clear bel1 k1))
    have hwb : w.heap.size ≤ b := Nat.le_trans bel0.size hb
    have hg0 : w.heap.size ≤ w1.heap.size := HB.out.size
    have hR : RelT w b w1.heap.size d q V (.int .i64 0) (w1.alloc (.cells (row 301) 3)) :=
      ⟨0, rfl, by omega, Counts.first _ _ (by omega) _ rfl, under KB.out ((Below.refl _ _).alloc (Nat.le_refl _) _), HB.out.alloc hg0 _⟩
    go_loopw [12] (fun tv wr => Hid (RelT w b w1.heap.size d q V tv wr)) (fun tv _ => 300 - (intOf tv).toNat)
    case atStart => exact hR
    case round =>
      clear hR hmk KB HB bel0 hb
      obtain ⟨t, rfl, ht, hc, hk, hbel⟩ := hrel
      have CN := Lib.hid hc
      have BEL := Lib.hid hbel
      have KS := Lib.hid hk
      clear hc hk hbel
      by_cases htn : t < 300
      · have ht3 : (t : Int) < 300 := by omega
        obtain ⟨nw, -, -⟩ := runs (U := V) M.out t (by omega)
        have hmod : t % n < n := Nat.mod_lt _ hn0
        obtain ⟨ab, ao, rfl, hlt, hcw⟩ := hA.out.at_ hmod
        obtain ⟨u0, u1⟩ := hU.out _ hmod
        have hVt := hV.out t
        have hV4 := V4.out t
        have hbz : ∀ wx, Below w.heap.size w wx → wx.cell? ⟨ab, ao + t % n, none⟩ = some (.int .u8 (U (t % n))) := fun wx hx => (hx.cell (p := ⟨ab, ao + t % n, none⟩) hlt).trans hcw
        have HBZ := Lib.hid hbz
        clear hbz hcw
        generalize U (t % n) = u at *
        have c0 := CN.out.at_ (Nat.le_refl t)
        obtain ⟨v1, c1⟩ := CN.out.has (k := t + 1) (by omega)
        have l1 := CN.out.free (t + 1)
        have NE := Lib.hid (CN.out.ne KS.out (by decide))
        obtain ⟨f1, f2, f3, f4⟩ := answer M.out V4.out 0 t (by omega) (by omega)
        have f5 : (runK d q V 0).1 = 0 := rfl
        rw [f5] at f2
        clear f1 f4 f5
        have hR : RelI w b w1.heap.size d q V t (.int .i64 0) (wr.setCell ⟨w1.heap.size, t + 1, none⟩ (.int .i64 (runK d q V t).1)) :=
          ⟨0, rfl, by omega, CN.out.put0 _, by rw [World.cell?_setCell_same' _ _ _ (by rw [c1]; rfl)]; simp [takesK], keep KS.out (w' := wr) (g := 0) (fun e => NE.out e.symm) _, BEL.out.setCell hg0 _⟩
        have HR := Lib.hid hR
        clear hR
        go_wp2_with fail
        go_loopw [13] (fun iv wr => Hid (RelI w b w1.heap.size d q V t iv wr)) (fun iv _ => V t - (intOf iv).toNat)
        case atStart => exact HR.out
        case round =>
          clear HR CN BEL KS c0 c1 l1
          obtain ⟨i, rfl, hi, hc, hcx, hk, hbel⟩ := hrel
          have CN := Lib.hid hc
          have BEL := Lib.hid hbel
          have KS := Lib.hid hk
          have l1 := CN.out.free (t + 1)
          have hcell := HBZ.out _ hbel
          obtain ⟨j1, j2, j3, j4⟩ := takes nw (by omega) (by omega) i
          clear hc hk hbel
          by_cases hiV : i < V t
          · have hi5 : (i : Int) < u % 5 := by omega
            obtain ⟨e1, k2, -, -⟩ := j1.take (by omega) (by omega)
            have c := fun W (kk : IsK W b (takesK t i (runK d q V t).2).2) => takek_any kk j1.ok t (by omega) (by omega)
            have es := takes_succ t i (runK d q V t).2
            rw [e1] at c
            cases hok : (takeK t (takesK t i (runK d q V t).2).2).1.1 with
            | false =>
              rw [hok] at c es
              simp only [Bool.false_eq_true, if_false, Int.add_zero] at es
              have ES := Lib.hid es
              have T1 := fun W kk => Lib.hid (c W kk)
              clear c es hok e1 k2 j1 nw j2
              generalize hx : (runK d q V t).1 + (takesK t i (runK d q V t).2).1 = x at *
              go_wp2_with (go_at_call 10; (with_reducible refine Calls.mono (T1 _ KS.out).out ?_); rintro e w3 ⟨rfl, k3, o3⟩
                           have HB3 := Lib.hid (Below.only BEL.out o3 hwb)
                           have CN3 := Lib.hid (CN.out.keep o3 NE.out)
                           have K3 := Lib.hid k3
                           have C3 := Lib.hid ((World.cell?_of_block (w := wr) (a := ⟨w1.heap.size, t + 1, none⟩) (o3.block w1.heap.size CN.out.lt NE.out)).trans hcx)
                           clear k3 o3)
              go_roundw
              case rel => exact ⟨i + 1, by go_num, by omega, CN3.out, by rw [ES.out]; rw [hx]; exact C3.out, by rw [ES.out]; exact K3.out, HB3.out⟩
              case measure => simp [intOf]; omega
            | true =>
              rw [hok] at c es
              simp only [if_true] at es
              have ES := Lib.hid es
              have T1 := fun W kk => Lib.hid (c W kk)
              clear c es hok e1 k2 j1 nw j2
              generalize hx : (runK d q V t).1 + (takesK t i (runK d q V t).2).1 = x at *
              go_wp2_with (go_at_call 10; (with_reducible refine Calls.mono (T1 _ KS.out).out ?_); rintro e w3 ⟨rfl, k3, o3⟩
                           have HB3 := Lib.hid (Below.only BEL.out o3 hwb)
                           have CN3 := Lib.hid (CN.out.keep o3 NE.out)
                           have K3 := Lib.hid k3
                           have c3 := (World.cell?_of_block (w := wr) (a := ⟨w1.heap.size, t + 1, none⟩) (o3.block w1.heap.size CN.out.lt NE.out)).trans hcx
                           have l3 := CN3.out.free (t + 1)
                           clear k3 o3)
              have CE := Lib.hid (World.cell?_setCell_same' w3 ⟨w1.heap.size, t + 1, none⟩ (.int .i64 (x + 1)) (by rw [c3]; rfl))
              go_roundw
              case rel => exact ⟨i + 1, by go_num, by omega, CN3.out.put0 _, by rw [ES.out]; simp only; rw [← Int.add_assoc, hx]; exact CE.out, by rw [ES.out]; exact keep K3.out (w' := wr) (g := 0) (fun e => NE.out e.symm) _, HB3.out.setCell hg0 _⟩
              case measure => simp [intOf]; omega
          · have hi5 : ¬ (i : Int) < u % 5 := by omega
            obtain ⟨e1, k2, k3, k4, k5, k6⟩ := j1.has (T := t) (by omega) (by omega)
            have c := fun W (kk : IsK W b (takesK t i (runK d q V t).2).2) => hask_any kk j1.ok t (by omega) (by omega)
            have es := run_succ d q V t
            rw [← (show i = V t by omega)] at es
            rw [e1] at c
            have T1 := fun W kk => Lib.hid (c W kk)
            have CM := Lib.hid (CN.out.more hcx (by rw [es]))
            have ES := Lib.hid es
            clear c es k2 k3 k4 e1 nw j1 j2 hcx CN
            generalize (hasK t (takesK t i (runK d q V t).2).2).1.1 = nn at *
            go_wp2_with (go_at_call 11; (with_reducible refine Calls.mono (T1 _ KS.out).out ?_); rintro e w3 ⟨rfl, k3, o3⟩
                         have HB3 := Lib.hid (Below.only BEL.out o3 hwb)
                         have CN3 := Lib.hid (CM.out.keep o3 NE.out)
                         have K3 := Lib.hid k3
                         clear k3 o3)
            go_roundw
            case rel => exact ⟨t + 1, by go_num, by omega, CN3.out, by rw [ES.out]; exact K3.out, HB3.out⟩
            case measure => simp [intOf]; omega
      · have CN2 : Hid (Counts wr w1.heap.size 301 300 (fun k => (runK d q V k).1)) := (show t = 300 by omega) ▸ CN
        clear KS CN
        have ht3 : ¬ (t : Int) < 300 := by omega
        go_wp2_with fail
        go_loopw [18] (fun fv wr => Hid (RelF w w1.heap.size d q V fv wr)) (fun fv _ => 310 - (intOf fv).toNat)
        case atStart => exact ⟨0, rfl, by omega, CN2.out, BEL.out⟩
        case round =>
          clear CN2 BEL
          obtain ⟨a, rfl, ha, hc, hbel⟩ := hrel
          have CN := Lib.hid hc
          have BEL := Lib.hid hbel
          clear hc hbel
          by_cases ha3 : a < 300
          · have ha4 : (a : Int) < 300 := by omega
            go_wp2_with fail
            go_loopw [19] (fun fv wr => Hid (RelU w w1.heap.size a d q V fv wr)) (fun fv _ => 311 - (intOf fv).toNat)
            case atStart => exact ⟨a, rfl, Nat.le_refl _, by omega, CN.out, BEL.out⟩
            case round =>
              clear CN BEL
              obtain ⟨c, rfl, hac, hc3, hc, hbel⟩ := hrel
              have CN := Lib.hid hc
              have BEL := Lib.hid hbel
              clear hc hbel
              by_cases hct : c ≤ 300
              · have hc4 : (c : Int) ≤ 300 := by omega
                obtain ⟨f1, f2, f3, f4⟩ := answer M.out V4.out a c hac (by omega)
                have x0 := CN.out.at_ (k := c) hct
                have x1 := CN.out.at_ (k := a) (by omega)
                have MO := fun W => Lib.hid (mostK_any d q ((c : Int) - a) W (by omega) (by omega) (by omega) (by omega) (by omega) (by omega))
                generalize mostK d q ((c : Int) - a) = mm at *
                generalize (runK d q V c).1 = x at *
                generalize (runK d q V a).1 = y at *
                have d1 : decide (mm < x - y) = false := decide_eq_false (by omega)
                go_wp2_with fail
                go_quiet ((go_at_call 12; exact Calls.quiet_of_same ((MO _).out.mono fun _ _ h => ⟨h.1, h.2.symm⟩)))
                go_wp2_with fail
                go_roundw
                case rel => exact ⟨c + 11, by go_num, by omega, by omega, CN.out.drewN _, Below.drewN' BEL.out _⟩
                case measure => simp [intOf]; omega
              · have hc4 : ¬ (c : Int) ≤ 300 := by omega
                go_wp2_with fail
                go_roundw
                case rel => exact ⟨a + 7, by go_num, by omega, CN.out, BEL.out⟩
                case measure => simp [intOf]; omega
          · have ha4 : ¬ (a : Int) < 300 := by omega
            go_wp2_with fail
            go_ret
            exact ⟨rfl, BEL.out⟩
theorem walk (w : World) (depth : Int) (w0 : (Lit.int .u8 depth).wf = true) (every : Int) (w1 : (Lit.int .u8 every).wf = true) (A : Option Addr) (n cap : Nat) (D : Nat → List Value) (w2 : Elems w [some .u8] A n D) (hl : n * 1 ≤ 140737488351232) :
    Calls Try.prog 3 #[.int .u8 depth, .int .u8 every, .slice A n cap] w fun e w' => e = .returned (.bool true) ∧ Below w.heap.size w w' := by
  obtain ⟨b0, b0'⟩ := bounds_u8 w0
  obtain ⟨b1, b1'⟩ := bounds_u8 w1
  obtain ⟨U, hU, hw⟩ := ints_of w2
  exact walk2 w depth b0 b0' every b1 b1' A n cap U hU (fun i hi => bounds_u8 (hw i hi)) (by omega)
end bucketMost
namespace bucketMost
theorem own : ownKnob Try.prog.godebug = none := by kernel_rfl
set_option maxRecDepth 100000 in
theorem lifted (os : Os) (started : os.Started) (H : Type) (enc : TypeId × Value → H) :
    ReturnsInHanded {} Try.checked os 3 .any (Rows.bucketMostSpec.pre6 enc Try.prog Try.f3 Rows.bucketMostRow.domain false) (Rows.bucketMostSpec.post enc Try.prog Try.f3 false true false false) := by
  refine returnsInHanded_of_change_sized (C := Try.checked) own started (by kernel_rfl) Try.func3
    (ChangeSpec.witness6 (enc := enc) (C := Try.checked) false ⟨#[], #[.int .u8 0, .int .u8 0, .slice none 0 0], []⟩ 8 (by kernel_rfl) (by kernel_rfl) (by kernel_rfl) (by kernel_rfl)) ?_
  intro W base args ds gs before hval0 hW hcnd hsz0 _
  have hsz : (DataW.weightsEach Try.prog (Try.f3.params.toList ++ Rows.bucketMostSpec.plain.varTypes Try.prog) (ds ++ gs)).all (· ≤ reachBytes) = true := hsz0
  have hval : ∀ (j : Nat) t v, Try.f3.params[j]? = some t → args[j]? = some v → Value.okWide Try.prog W .any base t v := hval0
  have hW' := hW
  obtain ⟨p, q, hA0, hV, rfl, hfz, hnd⟩ := hW
  have hA : DataW.TrodAll enc Try.prog W 0 (fun _ => true) true Try.f3.params.toList args.toList ds p := hA0
  rw [Try.params3] at hA hval hsz
  obtain ⟨v0, vs0, d0, ds0, p0, q0, hargs, rfl, rfl, h0, r0⟩ := trodAll_cons hA
  obtain ⟨v1, vs1, d1, ds1, p1, q1, rfl, rfl, rfl, h1, r1⟩ := trodAll_cons r0
  obtain ⟨v2, vs2, d2, ds2, p2, q2, rfl, rfl, rfl, h2, r2⟩ := trodAll_cons r1
  obtain ⟨rfl, rfl, rfl⟩ := trodAll_nil r2
  obtain rfl : args = #[v0, v1, v2] := by cases args; simp_all
  obtain ⟨rfl, rfl⟩ := trodVars_none hV
  obtain ⟨a0, rfl, w0⟩ := arg_one Try.underlying5 (hval 0 5 v0 rfl rfl) h0
  obtain ⟨a1, rfl, w1⟩ := arg_one Try.underlying5 (hval 1 5 v1 rfl rfl) h1
  obtain ⟨A2, n2, cap2, D2, rfl, w2, m2, z2⟩ := arg_slice [some .u8] Try.underlying22 6 (by kernel_rfl) (by kernel_rfl) (hval 2 22 v2 rfl rfl) h2
  have l2 : n2 * Try.prog.bytesOf 5 ≤ reachBytes := by
    rcases z2 with ⟨_, e⟩ | ⟨es, sp, e, el⟩
    · subst e; simp
    · subst e; subst el; exact Nat.le_trans (Nat.mul_le_mul_right _ (Nat.le_add_right _ _)) (sized_slice hsz (j := 2) (t := 22) (e := 5) rfl rfl Try.underlying22)
  have b2 : Try.prog.bytesOf 5 = 1 := by kernel_rfl
  rw [b2] at l2
  simp only [reachBytes] at l2
  clear z2 b2
  clear hA0 hval0 hsz0 hsz
  refine (walk W a0 w0 a1 w1 A2 n2 cap2 D2 w2 l2).mono fun e W' ⟨he, bel⟩ => ?_
  subst he
  exact ⟨_, rfl, _, _, _, [], _, [], hW', trodAll_mk1 (shut_bool Try.underlying4 _), (trodAll_cons_mk (Below.trod laidOut (by kernel_rfl) (of_decide_eq_true (by kernel_rfl)) h0 bel (fun x hx => by simpa using hW'.lt x (by simp [hx]))) (trodAll_cons_mk (Below.trod laidOut (by kernel_rfl) (of_decide_eq_true (by kernel_rfl)) h1 bel (fun x hx => by simpa using hW'.lt x (by simp [hx]))) (trodAll_cons_mk (Below.trod laidOut (by kernel_rfl) (of_decide_eq_true (by kernel_rfl)) h2 bel (fun x hx => by simpa using hW'.lt x (by simp [hx]))) trodAll_mk0))), rfl, bel.frame _, fun h => by cases h⟩
theorem over : Rows.bucketMostRow.holds Try.pinned (OpenSpec.ofChange Rows.bucketMostSpec) :=
  OpenClaim.holds_of_wide 3 Try.f3 rfl rfl rfl rfl rfl rfl rfl ⟨rfl, rfl, rfl, rfl, rfl⟩ rfl rfl rfl rfl rfl (by kernel_rfl) Try.func3 (by kernel_rfl)
    (of_decide_eq_true (by kernel_rfl)) (by unfold Func.isWrapper; first | (rw [if_pos (by decide +kernel)]; kernel_rfl) | (rw [if_neg (by decide +kernel)]; exact ⟨rfl, rfl⟩))
    (fun os started H enc _ => lifted os started H enc)
end bucketMost
theorem bucketMost_holds : Rows.BucketMostSaid := bucketMost.over
#print axioms bucketMost_holds
end Go.Proofs.Ytlcnemkbkbihhaa
