/- Layer 18 (order): the group of the least time; above, below. -/
import Derived.Test.YtinpaplpgoljpaaOrderF
import Derived.Test.YtinpaplpgoljpaaCells
import Derived.Laws.ResultCell
import Derived.Lib.SliceRun
namespace Go.Proofs.Ytinpaplpgoljpaa
open Go.RowKit
set_option linter.unusedVariables false
set_option linter.unusedSimpArgs false
def dead0 : List Wt → Int
  | [] => 0
  | x :: _ => x.dead
def groupF (l : List Wt) : List Wt := l.takeWhile fun x => x.dead == dead0 l
theorem tw_at {P : Wt → Bool} : ∀ {l : List Wt} {i : Nat}, i ≤ l.length → (∀ (j : Nat) y, j < i → l[j]? = some y → P y = true) → (i = l.length ∨ ∃ x, l[i]? = some x ∧ P x = false) → l.takeWhile P = l.take i
  | [], i, _, _, _ => by simp
  | x :: r, 0, _, _, h => by
    rcases h with h | ⟨y, hy, hp⟩
    · simp at h
    · simp at hy
      subst hy
      rw [List.takeWhile_cons, hp]
      simp
  | x :: r, i + 1, hi, h1, h2 => by
    rw [List.takeWhile_cons, h1 0 x (by omega) rfl]
    simp only [if_true, List.take_succ_cons]
    rw [tw_at (l := r) (i := i) (by simp at hi; omega) (fun j y hj hy => h1 (j + 1) y (by omega) (by simpa using hy)) (by
      rcases h2 with h | ⟨y, hy, hp⟩
      · left; simp at h; omega
      · right; exact ⟨y, by simpa using hy, hp⟩)]
theorem Slc.clip0 {w : World} {A : Option Addr} {n c m : Nat} {l : List Wt} (h : Slc w 30 3 (.slice A n c) n (flatW l)) (hm : m ≤ n) : Slc w 30 3 (.slice A m m) m (flatW (l.take m)) := by
  obtain ⟨A', c', e, hc⟩ := h.shape
  injection e with e1 e2 e3
  subst e1 e3
  by_cases h0 : 0 < n
  · have := (h.front3 hm h0).clip (Nat.le_refl m) (by omega)
    rwa [flatW_take] at this
  · obtain rfl : n = 0 := by omega
    obtain rfl : m = 0 := by omega
    have := h.clip (Nat.le_refl 0) (by omega)
    have hl := h.wlen
    rwa [List.eq_nil_of_length_eq_zero hl] at this ⊢
def RelG (w : World) (l : List Wt) (iv : Value) (wr : World) : Prop := ∃ i : Nat, iv = .int .i64 i ∧ i ≤ l.length ∧ (∀ (j : Nat) y, j < i → l[j]? = some y → (y.dead == dead0 l) = true) ∧ Below w.heap.size w wr
def GroupPost (w : World) (l : List Wt) (e : Ending) (w' : World) : Prop :=
  ∃ A m, e = .returned (.slice A m m) ∧ m = (groupF l).length ∧ Slc w' 30 3 (.slice A m m) m (flatW (groupF l)) ∧ Below w.heap.size w w'
set_option maxHeartbeats 1000000 in
theorem group_any {w : World} {Q : Qp} {l : List Wt} {h : Int} {d : Bool} (k : IsQ w Q l h d) :
    Calls Try.prog 44 #[.pointer (some ⟨Q.q, 0, none⟩)] w (GroupPost w l) := by
  have KH := Lib.hid k
  have C0 : ∀ W, Below w.heap.size w W → W.cell? ⟨Q.q, 0, none⟩ = some Q.v := fun W b => ((k.below b).blk).cell 0
  have hq := k.blk.lt
  obtain ⟨A, c, ev, hnc⟩ := k.row.shape
  have hlen := k.len
  have HS := Lib.hid (ev ▸ k.row)
  have EV := Lib.hid ev
  rw [ev] at C0
  have fin : ∀ (i : Nat) W, i ≤ l.length → (∀ (j : Nat) y, j < i → l[j]? = some y → (y.dead == dead0 l) = true) → (i = l.length ∨ ∃ x, l[i]? = some x ∧ (x.dead == dead0 l) = false) → Below w.heap.size w W → GroupPost w l (.returned (.slice A i i)) W := fun i W hi h1 h2 b => by
    have e : groupF l = l.take i := tw_at hi h1 h2
    refine ⟨A, i, rfl, by rw [e, List.length_take]; omega, ?_, b⟩
    rw [e]
    have := (k.below b).row
    rw [ev] at this
    exact this.clip0 hi
  have FIN := Lib.hid fin
  have hwr : ∀ W, Below w.heap.size w W → ∀ n, Hid (Below w.heap.size w (W.drewN n)) := fun W b n => Below.drewN' b n
  clear k ev fin
  go_enter Try.func44, Try.ntmps44
  go_wp2_with fail
  go_loopw [3] (fun iv wr => Hid (RelG w l iv wr)) (fun iv _ => (l.length - intOf iv).toNat)
  case atStart => exact ⟨0, rfl, by omega, fun j y hj => by omega, Below.refl _ _⟩
  case round =>
    obtain ⟨i, rfl, hi, hno, hb⟩ := hrel
    have NO := Lib.hid hno
    have HB := Lib.hid hb
    have c0 := C0 _ hb
    clear hno hb
    have hic : i ≤ c := by omega
    have hic2 : (i : Int) ≤ c := by omega
    by_cases hin : i < l.length
    · have hin2 : (i : Int) < l.length := by omega
      have d1 : decide ((i : Int) < l.length) = true := decide_eq_true hin2
      have h0 : 0 < l.length := by omega
      have h02 : (0 : Int) < l.length := by omega
      obtain ⟨x, hx⟩ : ∃ x, l[i]? = some x := ⟨_, List.getElem?_eq_getElem hin⟩
      obtain ⟨y, hy⟩ : ∃ y, l[0]? = some y := ⟨_, List.getElem?_eq_getElem h0⟩
      have hyd : y.dead = dead0 l := by
        cases l with
        | nil => simp at h0
        | cons a r => simp at hy; subst hy; rfl
      obtain ⟨g, off, c', ev, -, hlt, -, x1, -⟩ := HS.out.wat hx
      obtain ⟨g', off', c'', ev', -, hlt', -, y1, -⟩ := HS.out.wat hy
      simp only [Value.slice.injEq] at ev ev'
      obtain ⟨rfl, -, -⟩ := ev
      obtain ⟨e1, -, -⟩ := ev'
      simp only [Option.some.injEq, Addr.mk.injEq] at e1
      obtain ⟨rfl, rfl, -⟩ := e1
      have x1 := (HB.out.cell (p := ⟨g, off + i * 3 + 1, none⟩) hlt).trans x1
      have y1 := (HB.out.cell (p := ⟨g, off + 0 * 3 + 1, none⟩) hlt).trans y1
      rw [Nat.zero_mul, Nat.add_zero] at y1
      have HX := Lib.hid hx
      rw [hyd] at y1
      generalize hD : dead0 l = D at *
      have HD := Lib.hid hD
      obtain ⟨xi, xd, xt⟩ := x
      simp only at x1
      have g1 : IntKind.i64.wrap ((i : Int) + 1) = i + 1 := IntWalk.i64_in _ (by omega)
      clear hx hy hyd hD
      by_cases hd : xd = D
      · have d2 : (xd == D) = true := beq_iff_eq.2 hd
        have NO2 := Lib.hid (fun (j : Nat) (y : Wt) (hj : j < i + 1) (hy : l[j]? = some y) => show (y.dead == D) = true from by
          by_cases e : j = i
          · subst e
            have := HX.out
            rw [hy] at this
            injection this with this
            rw [this]; exact d2
          · exact NO.out j y (by omega) hy)
        clear hd
        go_wp2_with fail
        go_quiet (fail)
        go_wp2_with fail
        go_roundw
        case rel => exact ⟨i + 1, by go_num, by omega, fun j y hj hy => by rw [HD.out]; exact NO2.out j y hj hy, Below.drewN' HB.out _⟩
        case measure => simp [intOf]; omega
      · have d2 : (xd == D) = false := beq_eq_false_iff_ne.2 hd
        clear hd
        go_wp2_with fail
        go_quiet (fail)
        go_wp2_with fail
        go_ret
        exact FIN.out i _ hi NO.out (.inr ⟨_, HX.out, d2⟩) (Below.drewN' HB.out _)
    · obtain rfl : i = l.length := by omega
      have d1 : decide ((l.length : Int) < l.length) = false := decide_eq_false (by omega)
      clear hin
      go_wp2_with fail
      go_quiet (fail)
      go_wp2_with fail
      go_ret
      exact FIN.out l.length _ hi NO.out (.inl rfl) (Below.drewN' HB.out _)
/-- A struct result that lies in a block that is known, and a number beside it. -/
theorem ret_cell {P : Program} {fn : Func} {p u : Tmp} {ty t : TypeId} (h : fn.results = #[.cell p ty, .tmp u]) {tmps : Array Value} {w : World} {g : Nat} {cs : List Value} (d : TypeDesc)
    (hp : tmps.getD p undef = .pointer (some ⟨g, 0, none⟩)) (hg : Blk w g t cs) (hu : P.underlying ty = some d) (hd : (match d with | .struct _ | .array _ _ => true | _ => false) = true) (hi : (P.info? ty).map (·.size) = some cs.length) :
    (results fn tmps).run P w = .ok (.tuple #[.agg ⟨cs⟩, tmps.getD u undef]) w := by
  rw [results_cell_tmp h]
  have hp' : tmps[p]?.getD undef = .pointer (some ⟨g, 0, none⟩) := by simpa using hp
  have hl := run_loadVar_row w g t ty ⟨cs⟩ (0, 0) d hg hu hd hi
  simp [asAddr, hp', hl, Result.andThen]
theorem above1_any (x : Wt) (w : World) (u q : Nat) (h : Int) (hu : Blk w u 24 [.pointer (some ⟨q, 0, none⟩)]) (hq : w.cell? ⟨q, 1, none⟩ = some (.int .i64 h)) (hql : q < w.heap.size) :
    Calls Try.prog 50 #[wv x, .pointer (some ⟨u, 0, none⟩)] w fun e w' => e = .returned (.bool (decide (h ≤ x.track))) ∧ Below w.heap.size w w' := by
  have u0 : w.cell? ⟨u, 0, none⟩ = some (.pointer (some ⟨q, 0, none⟩)) := hu.cell 0
  have ul := hu.lt
  have bw : ∀ n, Hid (Below w.heap.size w ((w.alloc (.cells ⟨wc x⟩ 30)).drewN n)) := fun n => Below.drewN' ((Below.refl _ _).alloc (Nat.le_refl _) _) n
  clear hu
  obtain ⟨x1, x2, x3⟩ := x
  unfold wv
  unfold wc at bw
  go_enter Try.func50, Try.ntmps50
  go_wp2_with fail
  go_quiet (fail)
  go_wp2_with fail
  go_ret
  exact ⟨rfl, (bw _).out⟩
def aboveF (h : Int) (l : List Wt) : Wt × Bool := match l.find? (fun x => decide (h ≤ x.track)) with
  | some x => (x, true)
  | none => (⟨0, 0, 0⟩, false)
theorem aboveF_at {h : Int} {l : List Wt} {i : Nat} {x : Wt} (hx : l[i]? = some x) (hp : h ≤ x.track) (hno : ∀ (j : Nat) y, j < i → l[j]? = some y → decide (h ≤ y.track) = false) : aboveF h l = (x, true) := by
  unfold aboveF
  rw [(List.find?_eq_some_iff_getElem (p := fun x : Wt => decide (h ≤ x.track))).2 ⟨decide_eq_true hp, i, (List.getElem?_eq_some_iff.1 hx).1, (List.getElem?_eq_some_iff.1 hx).2, fun j hj => by simpa using hno j _ hj (List.getElem?_eq_getElem (by have := (List.getElem?_eq_some_iff.1 hx).1; omega))⟩]
theorem aboveF_no {h : Int} {l : List Wt} (hno : ∀ x ∈ l, decide (h ≤ x.track) = false) : aboveF h l = (⟨0, 0, 0⟩, false) := by
  unfold aboveF
  rw [List.find?_eq_none.2 (fun x hx => by simpa using hno x hx)]
set_option maxHeartbeats 1000000 in
theorem above_any {w : World} {Q : Qp} {l l' : List Wt} {h : Int} {d : Bool} (k : IsQ w Q l h d) (A : Option Addr) (m : Nat) (hs : Slc w 30 3 (.slice A m m) m (flatW l')) (hm : m ≤ 64) :
    Calls Try.prog 45 #[.pointer (some ⟨Q.q, 0, none⟩), .slice A m m] w fun e w' => e = .returned (.tuple #[wv (aboveF h l').1, .bool (aboveF h l').2]) ∧ Below w.heap.size w w' := by
  have hmf : ∀ (fn : Fn) (first cap : Array Value) (w : World), (Instr.makeFunc fn first cap).run Try.prog w = .ok (.func fn first cap) w := fun _ _ _ _ => rfl
  have C1 : ∀ W, Below w.heap.size w W → W.cell? ⟨Q.q, 1, none⟩ = some (.int .i64 h) := fun W b => ((k.below b).blk).cell 1
  have hq := k.blk.lt
  have HS := Lib.hid hs
  have b1 : Below w.heap.size w (w.alloc (.cells #[.pointer (some ⟨Q.q, 0, none⟩)] 24)) := (Below.refl _ _).alloc (Nat.le_refl _) _
  have b2 := b1.alloc (by simp) (.cells #[.int .i64 0, .int .u64 0, .int .i64 0] 30)
  have box := (Blk.new w 24 [.pointer (some ⟨Q.q, 0, none⟩)]).alloc (.cells #[.int .i64 0, .int .u64 0, .int .i64 0] 30)
  have res := Blk.new (w.alloc (.cells #[.pointer (some ⟨Q.q, 0, none⟩)] 24)) 30 [.int .i64 0, .int .u64 0, .int .i64 0]
  have hsz : (w.alloc (.cells #[.pointer (some ⟨Q.q, 0, none⟩)] 24)).heap.size = w.heap.size + 1 := by simp
  rw [hsz] at res
  have D := Lib.hid (index_above _ A m m l' (hs.below b2 (fun g hg => hs.lt hg)) hm (fun x => decide (h ≤ x.track)) #[.pointer (some ⟨w.heap.size, 0, none⟩)] (fun W x _ hb => above1_any x W w.heap.size Q.q h (box.below hb box.lt) (C1 W (Below.next b2 hb)) (by have := hb.size; simp at this; omega)))
  have B2 := Lib.hid b2
  have RES := Lib.hid res
  clear k b1 b2 box res hs C1
  rcases idxB_cases (fun x => decide (h ≤ x.track)) l' with ⟨e, hno⟩ | ⟨i, e, hi⟩
  · have AE := Lib.hid (aboveF_no hno)
    rw [e] at D
    clear e hno
    go_enter Try.func45, Try.ntmps45
    go_wp2_with (go_at_call 37; (with_reducible refine Calls.mono D.out ?_); rintro e w' ⟨rfl, b1⟩; have B1 := Lib.hid (Below.next B2.out b1); have R1 := Lib.hid (RES.out.below b1 RES.out.lt); have r0 := R1.out.cell 0; have r1 := R1.out.cell 1; have r2 := R1.out.cell 2; have f0 := R1.out.free 0; have f1 := R1.out.free 1; have f2 := R1.out.free 2; have rl := R1.out.lt; clear b1)
    (try simp only [Exit.inBlock, Exit.then])
    refine bodyPost_ret (ret_cell rfl _ rfl (((R1.out.put 0 _).put 1 _).put 2 _) Try.underlying30 rfl (by kernel_rfl)) rfl ?_
    rw [AE.out]
    refine ⟨rfl, ?_⟩
    exact ((Below.setCell B1.out (p := ⟨w.heap.size + 1, 0, none⟩) (Nat.le_succ _) _).setCell (p := ⟨w.heap.size + 1, 1, none⟩) (Nat.le_succ _) _).setCell (p := ⟨w.heap.size + 1, 2, none⟩) (Nat.le_succ _) _
  · obtain ⟨x, hx, hp, hno⟩ := idxB_some e
    have AE := Lib.hid (aboveF_at hx (of_decide_eq_true hp) hno)
    rw [e] at D
    obtain ⟨g, off, c', ev, -, hlt, c0, c1, c2⟩ := HS.out.wat hx
    simp only [Value.slice.injEq] at ev
    obtain ⟨rfl, -, rfl⟩ := ev
    have hmi := HS.out.wlen
    have d1 : (i : Int) < m := by omega
    have d2 : i < m := by omega
    have K0 := fun W b => Lib.hid ((Below.cell (w := w) (w' := W) (p := ⟨g, off + i * 3, none⟩) b hlt).trans c0)
    have K1 := fun W b => Lib.hid ((Below.cell (w := w) (w' := W) (p := ⟨g, off + i * 3 + 1, none⟩) b hlt).trans c1)
    have K2 := fun W b => Lib.hid ((Below.cell (w := w) (w' := W) (p := ⟨g, off + i * 3 + 2, none⟩) b hlt).trans c2)
    clear e hno hx hp c0 c1 c2
    go_enter Try.func45, Try.ntmps45
    go_wp2_with (go_at_call 37; (with_reducible refine Calls.mono D.out ?_); rintro e w' ⟨rfl, b1⟩; have B1 := Lib.hid (Below.next B2.out b1); have R1 := Lib.hid (RES.out.below b1 RES.out.lt); have r0 := R1.out.cell 0; have r1 := R1.out.cell 1; have r2 := R1.out.cell 2; have f0 := R1.out.free 0; have f1 := R1.out.free 1; have f2 := R1.out.free 2; have rl := R1.out.lt; have c0 := (K0 _ B1.out).out; have c1 := (K1 _ B1.out).out; have c2 := (K2 _ B1.out).out; clear b1)
    (try simp only [Exit.inBlock, Exit.then])
    refine bodyPost_ret (ret_cell rfl _ rfl (((R1.out.put 0 _).put 1 _).put 2 _) Try.underlying30 rfl (by kernel_rfl)) rfl ?_
    rw [AE.out]
    refine ⟨rfl, ?_⟩
    exact ((Below.setCell B1.out (p := ⟨w.heap.size + 1, 0, none⟩) (Nat.le_succ _) _).setCell (p := ⟨w.heap.size + 1, 1, none⟩) (Nat.le_succ _) _).setCell (p := ⟨w.heap.size + 1, 2, none⟩) (Nat.le_succ _) _
def stepB (h : Int) (b x : Wt) : Wt := if x.track ≤ h ∧ b.track < x.track then x else b
def belowF (h : Int) (l : List Wt) : Wt := l.foldl (stepB h) ⟨0, 0, -1⟩
theorem belowF_next {h : Int} {l : List Wt} {i : Nat} {x : Wt} (hx : l[i]? = some x) : belowF h (l.take (i + 1)) = stepB h (belowF h (l.take i)) x := by
  unfold belowF
  obtain ⟨hi, e⟩ := List.getElem?_eq_some_iff.1 hx
  rw [List.take_add_one, hx]
  simp
def RelL (w : World) (h : Int) (l : List Wt) (iv : Value) (wr : World) : Prop := ∃ i : Nat, iv = .int .i64 i ∧ i ≤ l.length ∧ Blk wr w.heap.size 30 [.int .i64 0, .int .u64 0, .int .i64 0] ∧ Blk wr (w.heap.size + 1) 30 (wc (belowF h (l.take i))) ∧ Below w.heap.size w wr
set_option maxHeartbeats 2000000 in
theorem below_any {w : World} {Q : Qp} {l l' : List Wt} {h : Int} {d : Bool} (k : IsQ w Q l h d) (A : Option Addr) (m : Nat) (hs : Slc w 30 3 (.slice A m m) m (flatW l')) (hm : m ≤ 64) :
    Calls Try.prog 46 #[.pointer (some ⟨Q.q, 0, none⟩), .slice A m m] w fun e w' => e = .returned (.tuple #[wv (belowF h l'), .bool (decide (0 ≤ (belowF h l').track))]) ∧ Below w.heap.size w w' := by
  have C1 : ∀ W, Below w.heap.size w W → W.cell? ⟨Q.q, 1, none⟩ = some (.int .i64 h) := fun W b => ((k.below b).blk).cell 1
  have hq := k.blk.lt
  have HS := Lib.hid hs
  have b1 : Below w.heap.size w (w.alloc (.cells #[.int .i64 0, .int .u64 0, .int .i64 0] 30)) := (Below.refl _ _).alloc (Nat.le_refl _) _
  have b2 := b1.alloc (by simp) (.cells #[.int .i64 0, .int .u64 0, .int .i64 (-1)] 30)
  have res := (Blk.new w 30 [.int .i64 0, .int .u64 0, .int .i64 0]).alloc (.cells #[.int .i64 0, .int .u64 0, .int .i64 (-1)] 30)
  have bst := Blk.new (w.alloc (.cells #[.int .i64 0, .int .u64 0, .int .i64 0] 30)) 30 [.int .i64 0, .int .u64 0, .int .i64 (-1)]
  have hsz : (w.alloc (.cells #[.int .i64 0, .int .u64 0, .int .i64 0] 30)).heap.size = w.heap.size + 1 := by simp
  rw [hsz] at bst
  have hml := hs.wlen
  have B2 := Lib.hid b2
  have RES := Lib.hid res
  have BST := Lib.hid bst
  clear k b1 b2 hs res bst
  go_enter Try.func46, Try.ntmps46
  go_wp2_with fail
  go_loopw [12] (fun iv wr => Hid (RelL w h l' iv wr)) (fun iv _ => (m - intOf iv).toNat)
  case atStart => exact ⟨0, rfl, by omega, RES.out, BST.out, B2.out⟩
  case round =>
    obtain ⟨i, rfl, hi, hr, hbb, hb⟩ := hrel
    have hwl : w.heap.size + 1 < wr.heap.size := hbb.lt
    have c1q := C1 _ hb
    have hql : Q.q < wr.heap.size := Nat.lt_of_lt_of_le hq hb.size
    have RB := Lib.hid hr
    have HB := Lib.hid hb
    obtain ⟨⟨bi, bd, bt⟩, hbe⟩ : ∃ b, belowF h (l'.take i) = b := ⟨_, rfl⟩
    rw [hbe] at hbb
    unfold wc at hbb
    simp only at hbb
    have b0 : wr.cell? ⟨w.heap.size + 1, 0, none⟩ = some (.int .i64 bi) := hbb.cell 0
    have b1 : wr.cell? ⟨w.heap.size + 1, 1, none⟩ = some (.int .u64 bd) := hbb.cell 1
    have b2 : wr.cell? ⟨w.heap.size + 1, 2, none⟩ = some (.int .i64 bt) := hbb.cell 2
    have r0 : wr.cell? ⟨w.heap.size, 0, none⟩ = some (.int .i64 0) := hr.cell 0
    have r1 : wr.cell? ⟨w.heap.size, 1, none⟩ = some (.int .u64 0) := hr.cell 1
    have r2 : wr.cell? ⟨w.heap.size, 2, none⟩ = some (.int .i64 0) := hr.cell 2
    have z0 := hr.free 0
    have z1 := hr.free 1
    have z2 := hr.free 2
    have y0 := hbb.free 0
    have y1 := hbb.free 1
    have y2 := hbb.free 2
    have BB := Lib.hid hbb
    have HBE := Lib.hid hbe
    clear hr hb hbb hbe
    by_cases hin : i < m
    · have hin2 : (i : Int) < m := by omega
      obtain ⟨x, hx⟩ : ∃ x, l'[i]? = some x := ⟨_, List.getElem?_eq_getElem (by omega)⟩
      obtain ⟨g, off, c', ev, -, hlt, c0, c1, c2⟩ := HS.out.wat hx
      simp only [Value.slice.injEq] at ev
      obtain ⟨rfl, -, -⟩ := ev
      have c0 := (HB.out.cell (p := ⟨g, off + i * 3, none⟩) hlt).trans c0
      have c1 := (HB.out.cell (p := ⟨g, off + i * 3 + 1, none⟩) hlt).trans c1
      have c2 := (HB.out.cell (p := ⟨g, off + i * 3 + 2, none⟩) hlt).trans c2
      have hgl : g < wr.heap.size := Nat.lt_of_lt_of_le hlt HB.out.size
      have nx := belowF_next (h := h) hx
      rw [HBE.out] at nx
      obtain ⟨x1, x2, x3⟩ := x
      simp only at c0 c1 c2
      have g1 : IntKind.i64.wrap ((i : Int) + 1) = i + 1 := IntWalk.i64_in _ (by omega)
      by_cases h1 : x3 ≤ h
      · have d1 : decide (x3 ≤ h) = true := decide_eq_true h1
        by_cases h2 : bt < x3
        · have d2 : decide (bt < x3) = true := decide_eq_true h2
          have NX : Hid (belowF h (l'.take (i + 1)) = ⟨x1, x2, x3⟩) := by show _ = _; rw [nx]; unfold stepB; rw [if_pos ⟨h1, h2⟩]
          clear nx hx h1 h2
          go_wp2_with fail
          go_quiet (fail)
          go_wp2_with fail
          go_roundw
          case rel => exact ⟨i + 1, by go_num, by omega, ((RB.out.alloc _).drewN _).far (by simp) _ |>.far (by simp) _ |>.far (by simp) _, by rw [NX.out]; exact ((BB.out.alloc _).drewN _).put 0 _ |>.put 1 _ |>.put 2 _, (((Below.drewN' (HB.out.alloc (by omega) _) _).setCell (p := ⟨w.heap.size + 1, 0, none⟩) (Nat.le_succ _) _).setCell (p := ⟨w.heap.size + 1, 1, none⟩) (Nat.le_succ _) _).setCell (p := ⟨w.heap.size + 1, 2, none⟩) (Nat.le_succ _) _⟩
          case measure => simp [intOf]; omega
        · have d2 : decide (bt < x3) = false := decide_eq_false h2
          have NX : Hid (belowF h (l'.take (i + 1)) = ⟨bi, bd, bt⟩) := by show _ = _; rw [nx]; unfold stepB; rw [if_neg (fun e => h2 e.2)]
          clear nx hx h1 h2
          go_wp2_with fail
          go_quiet (fail)
          go_wp2_with fail
          go_roundw
          case rel => exact ⟨i + 1, by go_num, by omega, ((RB.out.alloc _).drewN _), by rw [NX.out]; exact ((BB.out.alloc _).drewN _), Below.drewN' (HB.out.alloc (by omega) _) _⟩
          case measure => simp [intOf]; omega
      · have d1 : decide (x3 ≤ h) = false := decide_eq_false h1
        have NX : Hid (belowF h (l'.take (i + 1)) = ⟨bi, bd, bt⟩) := by show _ = _; rw [nx]; unfold stepB; rw [if_neg (fun e => h1 e.1)]
        clear nx hx h1
        go_wp2_with fail
        go_quiet (fail)
        go_wp2_with fail
        go_roundw
        case rel => exact ⟨i + 1, by go_num, by omega, ((RB.out.alloc _).drewN _), by rw [NX.out]; exact ((BB.out.alloc _).drewN _), Below.drewN' (HB.out.alloc (by omega) _) _⟩
        case measure => simp [intOf]; omega
    · obtain rfl : i = m := by omega
      have d1 : decide ((i : Int) < i) = false := decide_eq_false (by omega)
      have R : Hid (belowF h l' = ⟨bi, bd, bt⟩) := by show _ = _; rw [← HBE.out, List.take_of_length_le (by omega)]
      clear hin
      go_wp2_with fail
      go_region
      go_wp2_with fail
      (try simp only [Exit.inBlock, Exit.then])
      refine bodyPost_ret (ret_cell rfl _ rfl (((RB.out.put 0 _).put 1 _).put 2 _).drew Try.underlying30 rfl (by kernel_rfl)) rfl ?_
      rw [R.out]
      exact ⟨rfl, (((HB.out.setCell (p := ⟨w.heap.size, 0, none⟩) (Nat.le_refl _) _).setCell (p := ⟨w.heap.size, 1, none⟩) (Nat.le_refl _) _).setCell (p := ⟨w.heap.size, 2, none⟩) (Nat.le_refl _) _).drew⟩
end Go.Proofs.Ytinpaplpgoljpaa
