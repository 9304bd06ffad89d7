/- CoalPlays: of any rule it is told whether it may be; whenever is raised, and the time goes on: how many are fired, how many are there, and when it is due, is what the reference says. No condition. -/
import Derived.Test.YtppkpelpdmkgjaaCoalAwake
import Derived.Test.YtppkpelpdmkgjaaCoalRef
import Derived.Test.YtppkpelpdmkgjaaArgs
import Derived.Test.YtppkpelpdmkgjaaArg
import Derived.Test.YtppkpelpdmkgjaaRows
import Derived.ProofKit
import Derived.OpenShut
import Derived.ShutString
import Derived.ChangeOld
import Derived.Below
import Derived.SizedLaws
namespace Go.Proofs.Ytppkpelpdmkgjaa
open Go.ChangeShapes Go.WideShapes Go.ChangeAt Go.RowKit
open Go.ChangeMaps (open_string shut_string)
set_option linter.unusedVariables false
set_option linter.unusedSimpArgs false
namespace coalPlays
/-- The script: of each step whether it is a raise, and how much later. -/
def Script (w : World) (A : Option Addr) (n : Nat) (R : Nat → Bool) (Wt : Nat → Int) : Prop :=
  ∀ i, i < n → ∃ b off, A = some ⟨b, off, none⟩ ∧ b < w.heap.size ∧ w.cell? ⟨b, off + i * 2, none⟩ = some (.bool (R i)) ∧ w.cell? ⟨b, off + i * 2 + 1, none⟩ = some (.int .u64 (Wt i)) ∧ 0 ≤ Wt i ∧ Wt i ≤ 18446744073709551615
theorem script_of {w : World} {A : Option Addr} {n : Nat} {D : Nat → List Value} (h : Elems w [none, some .u64] A n D) : ∃ R Wt, Script w A n R Wt := by
  have key : ∀ i, i < n → ∃ r x, D i = [.bool r, .int .u64 x] ∧ (Lit.int .u64 x).wf = true := by
    intro i hi
    obtain ⟨hok, _⟩ := h i hi
    match hD : D i, hok with
    | [_, _], ⟨⟨r, rfl⟩, ⟨x, rfl, hw⟩, _⟩ => exact ⟨r, x, rfl, hw⟩
  refine ⟨fun i => if hi : i < n then (key i hi).choose else false, fun i => if hi : i < n then (key i hi).choose_spec.choose else 0, fun i hi => ?_⟩
  simp only [hi, dif_pos]
  have hD := (key i hi).choose_spec.choose_spec
  obtain ⟨b, off, e, hb, hc⟩ := rows_of h (by simp) i hi
  refine ⟨b, off, e, hb, ?_, ?_, (bounds_u64 hD.2).1, (bounds_u64 hD.2).2⟩
  · have := hc i 0 hi (by simp)
    rw [hD.1] at this
    simpa using this
  · have := hc i 1 hi (by simp)
    rw [hD.1] at this
    simpa [Nat.add_assoc] using this
theorem rmay_any (c h : Int) (w : World) : Calls Try.prog 10 #[.int .i64 c, .int .u64 h] w fun e w' => e = .returned (.bool (decide (1 ≤ c ∧ c ≤ 1000 ∧ h ≤ 1099511627776))) ∧ w = w' := by
  by_cases z1 : 1 ≤ c
  · by_cases z2 : c ≤ 1000
    · by_cases z3 : h ≤ 1099511627776
      · go_enter Try.func10, Try.ntmps10
        go_wp2
        go_ret
        exact ⟨retb (by simp [z1, z2, z3]), rfl⟩
      · go_enter Try.func10, Try.ntmps10
        go_wp2
        go_ret
        exact ⟨retb (by simp; omega), rfl⟩
    · go_enter Try.func10, Try.ntmps10
      go_wp2
      go_ret
      exact ⟨retb (by simp; omega), rfl⟩
  · go_enter Try.func10, Try.ntmps10
    go_wp2
    go_ret
    exact ⟨retb (by simp; omega), rfl⟩
theorem quiet_add {P : Program} {f : FuncId} {args : Array Value} {w : World} {a n : Nat} {v : Value}
    (h : Calls P f args (w.drewN (a + n)) fun e w' => e = .returned v ∧ w.drewN (a + n) = w') :
    Calls P f args (w.drewN (a + n)) fun e w'' => e = .returned v ∧ ∃ m, w'' = w.drewN (a + m) := h.mono fun _ _ ⟨he, hm⟩ => ⟨he, n, hm.symm⟩
theorem keepR {w w' : World} {rb b : Nat} {g g2 : Gs} (h : IsR w rb g) (k : IsG w b g2) (o : Only (· = b) w w') : IsR w' rb g := by
  have hne : rb ≠ b := by
    obtain ⟨v, L, kb, -⟩ := h
    exact (Blk.ne k kb (by decide)).symm
  exact h.only o hne (fun x hx => by subst hx; exact ⟨_, _, k, by decide⟩)
def Rel (w : World) (b rb n : Nat) (nv iv : Value) (wr : World) : Prop :=
  ∃ (k : Nat) (N : Int) (g : Gs), nv = .int .u64 N ∧ iv = .int .i64 k ∧ k ≤ n ∧ 0 ≤ N ∧ N ≤ 18446744073709551615 ∧ g.ok ∧ IsG wr b g ∧ IsR wr rb g ∧ Below w.heap.size w wr
set_option maxRecDepth 100000 in
set_option maxHeartbeats 8000000 in
theorem walk2 (w : World) (c : Int) (bc : -9223372036854775808 ≤ c) (bc' : c ≤ 9223372036854775807) (h : Int) (bh : 0 ≤ h) (bh' : h ≤ 18446744073709551615) (A : Option Addr) (n cap : Nat) (R : Nat → Bool) (Wt : Nat → Int) (hA : Hid (Script w A n R Wt)) (hn : n ≤ 140737488351232) :
    Calls Try.prog 3 #[.int .i64 c, .int .u64 h, .slice A n cap] w fun e w' => e = .returned (.bool true) ∧ Below w.heap.size w w' := by
  have M := fun W => Lib.hid (rmay_any c h W)
  by_cases hm : 1 ≤ c ∧ c ≤ 1000 ∧ h ≤ 1099511627776
  · rw [decide_eq_true hm] at M
    obtain ⟨m1, m2, m3⟩ := hm
    go_enter Try.func3, Try.ntmps3
    go_wp2_with (first
      | (go_at_call 8; (with_reducible refine Calls.mono (awake_any _) ?_); rintro e w0 ⟨rfl, bel0⟩)
      | (go_at_call 9; (with_reducible refine Calls.mono (new_any c h _ m1 m2 bh m3) ?_); rintro e w1 ⟨b, rfl, hb, k1, bel1⟩)
      | (go_at_call 10; (with_reducible refine Calls.mono (M _).out ?_); rintro e w' ⟨rfl, rfl⟩))
    have hwb : w.heap.size ≤ b := Nat.le_trans bel0.size hb
    have hwr : w.heap.size ≤ w1.heap.size := Nat.le_trans bel0.size bel1.size
    have okg := g0_ok c h m1 m2 bh m3
    have kr : IsR (w1.alloc (.cells #[.int .i64 c, .int .u64 h, .slice none 0 0, .int .u64 0] 33)) w1.heap.size ⟨c, h, 0, 0, 0⟩ :=
      ⟨.slice none 0 0, [], Blk.new w1 _ _, Slc.nil _ _ _, rfl, fun x hx => by simp at hx⟩
    have kg := Blk.alloc k1 (.cells #[.int .i64 c, .int .u64 h, .slice none 0 0, .int .u64 0] 33)
    have bel2 := (Below.next bel0 bel1).alloc hwr (.cells #[.int .i64 c, .int .u64 h, .slice none 0 0, .int .u64 0] 33)
    go_loopw [10, 11] (fun nv iv wr => Hid (Rel w b w1.heap.size n nv iv wr)) (fun _ iv _ => n - (intOf iv).toNat)
    case atStart => exact ⟨0, 0, _, rfl, rfl, by omega, by omega, by omega, okg, kg, kr, bel2⟩
    case round =>
      obtain ⟨k, N, g, rfl, rfl, hk, hN0, hN1, ok, hg, hr, hbel⟩ := hrel
      have BEL := Lib.hid hbel
      by_cases hkn : k < n ∧ k < 150
      · obtain ⟨hkn, hk150⟩ := hkn
        obtain ⟨ab, ao, rfl, hab, hc0, hc1, hw0, hw1⟩ := hA.out k hkn
        have hcell0 := (hbel.cell (p := ⟨ab, ao + k * 2, none⟩) hab).trans hc0
        have hcell1 := (hbel.cell (p := ⟨ab, ao + k * 2 + 1, none⟩) hab).trans hc1
        generalize hU' : Wt k = u at *
        generalize hR' : R k = r at *
        have hn0 := wrap_u64_nonneg (N + u)
        have hn1 : IntKind.u64.wrap (N + u) ≤ 18446744073709551615 := by rw [IntKind.wrap_u64]; omega
        have HG := Lib.hid hg
        have HR := Lib.hid hr
        have OK := Lib.hid ok
        clear hU' hR' hc0 hc1 hbel hg hr ok okg kr kg bel2
        cases r with
        | true =>
          have ok2 := raiseF_ok OK.out (IntKind.u64.wrap (N + u)) hn0
          have hne : b ≠ w1.heap.size := by
            obtain ⟨v, L, kb, -⟩ := HR.out
            exact HG.out.ne kb (by decide)
          have C1 := Lib.hid (raise_any HG.out OK.out (IntKind.u64.wrap (N + u)) hn0 hn1)
          generalize hgg : (raiseF (IntKind.u64.wrap (N + u)) g) = res at *
          obtain ⟨⟨r1, r2⟩, g'⟩ := res
          have C2 := fun W (k : IsR W w1.heap.size g) => Lib.hid (show Calls Try.prog 12 #[.pointer (some ⟨w1.heap.size, 0, none⟩), .int .u64 (IntKind.u64.wrap (N + u))] W fun e w' => e = .returned (.tuple #[.int .i64 r1, .int .i64 r2]) ∧ IsR w' w1.heap.size g' ∧ Only (· = w1.heap.size) W w' from by
            have := rraise_any k OK.out (IntKind.u64.wrap (N + u)) hn0 hn1
            rw [hgg] at this
            exact this)
          simp only at ok2 C1
          clear hgg
          have HNE := Lib.hid hne
          clear hne
          go_wp2_with (first
            | (go_at_call 11; (with_reducible refine Calls.mono C1.out ?_); rintro e w2 ⟨rfl, k2, o2⟩
               have r2' := Lib.hid (keepR HR.out HG.out o2)
               have o2' := Lib.hid o2
               clear o2)
            | (go_at_call 12; (with_reducible refine Calls.mono (C2 _ r2'.out).out ?_); rintro e w3 ⟨rfl, r3, o3⟩
               have k3 := Blk.only k2 o3 HNE.out
               have bel3 := Lib.hid (Below.only (Below.only BEL.out o2'.out hwb) o3 hwr)
               have r3' := Lib.hid r3
               obtain ⟨v, L, kb, ks, kn, kf⟩ := r3
               obtain ⟨A3, cap3, e3, -⟩ := ks.shape
               subst e3
               have q2 : w3.cell? ⟨w1.heap.size, 2, none⟩ = some (.slice A3 L.length cap3) := kb.cell 2
               have q3 : w3.cell? ⟨w1.heap.size, 3, none⟩ = some (.int .u64 g'.t) := kb.cell 3
               have C4 := fun m => Lib.hid (rdue_any (r3'.out.drewN m) ok2)
               have C5 := fun m => Lib.hid (show Calls Try.prog 17 #[.pointer (some ⟨b, 0, none⟩)] (w3.drewN m) fun e w' => e = .returned (.int .i64 (L.length : Int)) ∧ w3.drewN m = w' from by
                 have := has_any (Blk.drewN k3 m)
                 rw [← kn] at this
                 exact this)
               have lenL : L.length ≤ 1000 := by have := ok2.n1; have := ok2.c1; omega
               clear o3 kb ks kn kf)
            | (go_at_call 15; (with_reducible refine Calls.mono (due_any k3 ok2) ?_); rintro e w' ⟨rfl, m, rfl⟩)
            | (go_at_call 16; (with_reducible refine Calls.mono (C4 _).out ?_); rintro e w' ⟨rfl, m2, rfl⟩))
          go_quiet ((go_at_call 17; exact quiet_add (C5 _).out))
          go_wp2_with fail
          all_goals
            go_roundw
            case rel => first | exact ⟨k + 1, IntKind.u64.wrap (N + u), g', rfl, by go_num, by omega, hn0, hn1, ok2, Blk.drewN k3 _, r3'.out.drewN _, Below.drewN' bel3.out _⟩ | exact ⟨k + 1, g'.t, g', rfl, by go_num, by omega, ok2.t0, by have := ok2.t1; omega, ok2, Blk.drewN k3 _, r3'.out.drewN _, Below.drewN' bel3.out _⟩
            case measure => simp [intOf]; omega
        | false =>
          have ok2 := goF_ok OK.out (IntKind.u64.wrap (N + u)) hn0
          have hne : b ≠ w1.heap.size := by
            obtain ⟨v, L, kb, -⟩ := HR.out
            exact HG.out.ne kb (by decide)
          have C1 := Lib.hid (go_any HG.out OK.out (IntKind.u64.wrap (N + u)) hn0 hn1)
          generalize hgg : (goF (IntKind.u64.wrap (N + u)) g) = res at *
          obtain ⟨⟨r1, r2⟩, g'⟩ := res
          have C2 := fun W (k : IsR W w1.heap.size g) => Lib.hid (show Calls Try.prog 14 #[.pointer (some ⟨w1.heap.size, 0, none⟩), .int .u64 (IntKind.u64.wrap (N + u))] W fun e w' => e = .returned (.tuple #[.int .i64 r1, .int .i64 r2]) ∧ IsR w' w1.heap.size g' ∧ Only (· = w1.heap.size) W w' from by
            have := rgo_any k OK.out (IntKind.u64.wrap (N + u)) hn0 hn1
            rw [hgg] at this
            exact this)
          simp only at ok2 C1
          clear hgg
          have HNE := Lib.hid hne
          clear hne
          go_wp2_with (first
            | (go_at_call 13; (with_reducible refine Calls.mono C1.out ?_); rintro e w2 ⟨rfl, k2, o2⟩
               have r2' := Lib.hid (keepR HR.out HG.out o2)
               have o2' := Lib.hid o2
               clear o2)
            | (go_at_call 14; (with_reducible refine Calls.mono (C2 _ r2'.out).out ?_); rintro e w3 ⟨rfl, r3, o3⟩
               have k3 := Blk.only k2 o3 HNE.out
               have bel3 := Lib.hid (Below.only (Below.only BEL.out o2'.out hwb) o3 hwr)
               have r3' := Lib.hid r3
               obtain ⟨v, L, kb, ks, kn, kf⟩ := r3
               obtain ⟨A3, cap3, e3, -⟩ := ks.shape
               subst e3
               have q2 : w3.cell? ⟨w1.heap.size, 2, none⟩ = some (.slice A3 L.length cap3) := kb.cell 2
               have q3 : w3.cell? ⟨w1.heap.size, 3, none⟩ = some (.int .u64 g'.t) := kb.cell 3
               have C4 := fun m => Lib.hid (rdue_any (r3'.out.drewN m) ok2)
               have C5 := fun m => Lib.hid (show Calls Try.prog 17 #[.pointer (some ⟨b, 0, none⟩)] (w3.drewN m) fun e w' => e = .returned (.int .i64 (L.length : Int)) ∧ w3.drewN m = w' from by
                 have := has_any (Blk.drewN k3 m)
                 rw [← kn] at this
                 exact this)
               have lenL : L.length ≤ 1000 := by have := ok2.n1; have := ok2.c1; omega
               clear o3 kb ks kn kf)
            | (go_at_call 15; (with_reducible refine Calls.mono (due_any k3 ok2) ?_); rintro e w' ⟨rfl, m, rfl⟩)
            | (go_at_call 16; (with_reducible refine Calls.mono (C4 _).out ?_); rintro e w' ⟨rfl, m2, rfl⟩))
          go_quiet ((go_at_call 17; exact quiet_add (C5 _).out))
          go_wp2_with fail
          all_goals
            go_roundw
            case rel => first | exact ⟨k + 1, IntKind.u64.wrap (N + u), g', rfl, by go_num, by omega, hn0, hn1, ok2, Blk.drewN k3 _, r3'.out.drewN _, Below.drewN' bel3.out _⟩ | exact ⟨k + 1, g'.t, g', rfl, by go_num, by omega, ok2.t0, by have := ok2.t1; omega, ok2, Blk.drewN k3 _, r3'.out.drewN _, Below.drewN' bel3.out _⟩
            case measure => simp [intOf]; omega
      · rcases (show ¬ k < n ∨ (k < n ∧ ¬ k < 150) by omega) with q | ⟨q, q2⟩
        all_goals
          clear hkn hbel hg hr okg kr kg bel2 ok
          go_wp2_with fail
          go_ret
          exact ⟨rfl, BEL.out⟩
  · rw [decide_eq_false hm] at M
    have hno : c < 1 ∨ 1000 < c ∨ 1099511627776 < h := by omega
    have NO := Lib.hid hno
    clear hno hm
    go_enter Try.func3, Try.ntmps3
    go_wp2_with (first
      | (go_at_call 8; (with_reducible refine Calls.mono (awake_any _) ?_); rintro e w0 ⟨rfl, bel0⟩)
      | (go_at_call 9; (with_reducible refine Calls.mono (new_no c h _ NO.out) ?_); rintro e w' ⟨rfl, rfl⟩)
      | (go_at_call 10; (with_reducible refine Calls.mono (M _).out ?_); rintro e w' ⟨rfl, rfl⟩))
    go_ret
    exact ⟨rfl, bel0⟩
theorem walk (w : World) (c : Int) (w0 : (Lit.int .i64 c).wf = true) (h : Int) (w1 : (Lit.int .u64 h).wf = true) (A : Option Addr) (n cap : Nat) (D : Nat → List Value) (w2 : Elems w [none, some .u64] A n D) (hl : n * 16 ≤ 140737488351232) :
    Calls Try.prog 3 #[.int .i64 c, .int .u64 h, .slice A n cap] w fun e w' => e = .returned (.bool true) ∧ Below w.heap.size w w' := by
  obtain ⟨b0, b0'⟩ := bounds_i64 w0
  obtain ⟨b1, b1'⟩ := bounds_u64 w1
  obtain ⟨R, Wt, hS⟩ := script_of w2
  exact walk2 w c b0 b0' h b1 b1' A n cap R Wt hS (by omega)
end coalPlays
namespace coalPlays
theorem own : ownKnob Try.prog.godebug = none := by kernel_rfl
set_option maxRecDepth 100000 in
theorem lifted (os : Os) (started : os.Started) (H : Type) (enc : TypeId × Value → H) :
    ReturnsInHanded {} Try.checked os 3 .any (Rows.coalPlaysSpec.pre6 enc Try.prog Try.f3 Rows.coalPlaysRow.domain false) (Rows.coalPlaysSpec.post enc Try.prog Try.f3 false true false false) := by
  refine returnsInHanded_of_change_sized (C := Try.checked) own started (by kernel_rfl) Try.func3
    (ChangeSpec.witness6 (enc := enc) (C := Try.checked) false ⟨#[], #[.int .i64 0, .int .u64 0, .slice none 0 0], []⟩ 8 (by kernel_rfl) (by kernel_rfl) (by kernel_rfl) (by kernel_rfl)) ?_
  intro W base args ds gs before hval0 hW hcnd hsz0 _
  have hsz : (DataW.weightsEach Try.prog (Try.f3.params.toList ++ Rows.coalPlaysSpec.plain.varTypes Try.prog) (ds ++ gs)).all (· ≤ reachBytes) = true := hsz0
  have hval : ∀ (j : Nat) t v, Try.f3.params[j]? = some t → args[j]? = some v → Value.okWide Try.prog W .any base t v := hval0
  have hW' := hW
  obtain ⟨p, q, hA0, hV, rfl, hfz, hnd⟩ := hW
  have hA : DataW.TrodAll enc Try.prog W 0 (fun _ => true) true Try.f3.params.toList args.toList ds p := hA0
  rw [Try.params3] at hA hval hsz
  obtain ⟨v0, vs0, d0, ds0, p0, q0, hargs, rfl, rfl, h0, r0⟩ := trodAll_cons hA
  obtain ⟨v1, vs1, d1, ds1, p1, q1, rfl, rfl, rfl, h1, r1⟩ := trodAll_cons r0
  obtain ⟨v2, vs2, d2, ds2, p2, q2, rfl, rfl, rfl, h2, r2⟩ := trodAll_cons r1
  obtain ⟨rfl, rfl, rfl⟩ := trodAll_nil r2
  obtain rfl : args = #[v0, v1, v2] := by cases args; simp_all
  obtain ⟨rfl, rfl⟩ := trodVars_none hV
  obtain ⟨a0, rfl, w0⟩ := arg_one Try.underlying3 (hval 0 3 v0 rfl rfl) h0
  obtain ⟨a1, rfl, w1⟩ := arg_one Try.underlying22 (hval 1 22 v1 rfl rfl) h1
  obtain ⟨A2, n2, cap2, D2, rfl, w2, m2, z2⟩ := arg_slice [none, some .u64] Try.underlying23 6 (by kernel_rfl) (by kernel_rfl) (hval 2 23 v2 rfl rfl) h2
  have l2 : n2 * Try.prog.bytesOf 35 ≤ reachBytes := by
    rcases z2 with ⟨_, e⟩ | ⟨es, sp, e, el⟩
    · subst e; simp
    · subst e; subst el; exact Nat.le_trans (Nat.mul_le_mul_right _ (Nat.le_add_right _ _)) (sized_slice hsz (j := 2) (t := 23) (e := 35) rfl rfl Try.underlying23)
  have b2 : Try.prog.bytesOf 35 = 16 := by kernel_rfl
  rw [b2] at l2
  simp only [reachBytes] at l2
  clear z2 b2
  clear hA0 hval0 hsz0 hsz
  refine (walk W a0 w0 a1 w1 A2 n2 cap2 D2 w2 l2).mono fun e W' ⟨he, bel⟩ => ?_
  subst he
  exact ⟨_, rfl, _, _, _, [], _, [], hW', trodAll_mk1 (shut_bool Try.underlying4 _), (trodAll_cons_mk (Below.trod laidOut (by kernel_rfl) (of_decide_eq_true (by kernel_rfl)) h0 bel (fun x hx => by simpa using hW'.lt x (by simp [hx]))) (trodAll_cons_mk (Below.trod laidOut (by kernel_rfl) (of_decide_eq_true (by kernel_rfl)) h1 bel (fun x hx => by simpa using hW'.lt x (by simp [hx]))) (trodAll_cons_mk (Below.trod laidOut (by kernel_rfl) (of_decide_eq_true (by kernel_rfl)) h2 bel (fun x hx => by simpa using hW'.lt x (by simp [hx]))) trodAll_mk0))), rfl, bel.frame _, fun h => by cases h⟩
theorem over : Rows.coalPlaysRow.holds Try.pinned (OpenSpec.ofChange Rows.coalPlaysSpec) :=
  OpenClaim.holds_of_wide 3 Try.f3 rfl rfl rfl rfl rfl rfl rfl ⟨rfl, rfl, rfl, rfl, rfl⟩ rfl rfl rfl rfl rfl (by kernel_rfl) Try.func3 (by kernel_rfl)
    (of_decide_eq_true (by kernel_rfl)) (by unfold Func.isWrapper; first | (rw [if_pos (by decide +kernel)]; kernel_rfl) | (rw [if_neg (by decide +kernel)]; exact ⟨rfl, rfl⟩))
    (fun os started H enc _ => lifted os started H enc)
end coalPlays
theorem coalPlays_holds : Rows.CoalPlaysSaid := coalPlays.over
#print axioms coalPlays_holds
end Go.Proofs.Ytppkpelpdmkgjaa
