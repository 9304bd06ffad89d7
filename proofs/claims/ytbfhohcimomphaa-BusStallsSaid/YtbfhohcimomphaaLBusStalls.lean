/- BusStalls: in each slot all that want it but the one that has it are stalled once, and nobody else. No condition. -/
import Derived.Test.YtbfhohcimomphaaBusShare
import Derived.Test.YtbfhohcimomphaaStill
import Derived.Test.YtbfhohcimomphaaArg
import Derived.Test.YtbfhohcimomphaaRows
import Derived.ProofKit
import Derived.OpenShut
import Derived.ShutString
import Derived.ChangeOld
import Derived.Below
import Derived.SizedLaws
namespace Go.Proofs.Ytbfhohcimomphaa
open Go.ChangeShapes Go.WideShapes Go.ChangeAt Go.RowKit
open Go.ChangeMaps (open_string shut_string)
set_option linter.unusedVariables false
set_option linter.unusedSimpArgs false
namespace busStalls
def bit (u : Int) (k : Nat) : Bool := bits BinOp.and .u16 (u / 2 ^ k) 1 == 1
theorem ids_yes {f : Nat → Bool} {i : Nat} (h : f i = true) : ids 2 f (i + 1) = ids 2 f i ++ [(i : Int)] ++ [(i : Int)] := by simp [ids, h, List.replicate]
theorem ids_no {f : Nat → Bool} {i : Nat} (h : f i = false) : ids 2 f (i + 1) = ids 2 f i := by simp [ids, h]
theorem ids_two (f : Nat → Bool) (n : Nat) : (ids 2 f n).length = 2 * (ids 1 f n).length ∧ ∀ j x, (ids 1 f n)[j]? = some x → (ids 2 f n)[2 * j]? = some x := by
  induction n with
  | zero => exact ⟨rfl, fun j x h => by simp [ids] at h⟩
  | succ n ih =>
    obtain ⟨h1, h2⟩ := ih
    cases hf : f n with
    | false => simp only [ids, hf, Bool.false_eq_true, if_false, List.append_nil]; exact ⟨h1, h2⟩
    | true =>
      simp only [ids, hf, if_true, List.replicate]
      refine ⟨by simp [h1]; omega, fun j x hx => ?_⟩
      rcases Nat.lt_trichotomy j (ids 1 f n).length with h | h | h
      · rw [List.getElem?_append_left h] at hx
        rw [List.getElem?_append_left (by omega)]
        exact h2 j x hx
      · subst h
        rw [List.getElem?_append_right (Nat.le_refl _)] at hx
        rw [List.getElem?_append_right (by omega), h1]
        simpa using hx
      · rw [List.getElem?_append_right (by omega)] at hx
        have := (List.getElem?_eq_some_iff.1 hx).1
        simp at this
        omega
theorem ids_nodup (f : Nat → Bool) (n : Nat) : (ids 1 f n).Nodup := by
  induction n with
  | zero => exact List.nodup_nil
  | succ n ih =>
    simp only [ids]
    rw [List.nodup_append]
    refine ⟨ih, by split <;> simp [List.replicate], fun a ha b hb e => ?_⟩
    subst e
    obtain ⟨k, rfl, h1, -⟩ := (ids_mem (by decide)).1 ha
    split at hb
    · simp [List.replicate] at hb; omega
    · cases hb
/-- How often each one is stalled, the first j that wanted it gone through. -/
def part (P : List Int) (id : Int) (c : Nat → Int) (j : Nat) : Nat → Int := fun k => if (k : Int) ∈ P.take j ∧ (k : Int) ≠ id then c k + 1 else c k
theorem part_zero (P : List Int) (id : Int) (c : Nat → Int) : part P id c 0 = c := by funext k; simp [part]
theorem part_yes {P : List Int} {id : Int} {c : Nat → Int} {j x : Nat} (nd : P.Nodup) (h : P[j]? = some (x : Int)) (hx : (x : Int) ≠ id) : part P id c (j + 1) = upd (part P id c j) x (part P id c j x + 1) ∧ part P id c j x = c x := by
  obtain ⟨hj, e⟩ := List.getElem?_eq_some_iff.1 h
  have nin : (x : Int) ∉ P.take j := fun hm => by
    obtain ⟨i, hi, e2⟩ := List.mem_take_iff_getElem.1 hm
    have hij : i < j := by omega
    have := (List.nodup_iff_pairwise_ne.1 nd)
    have h3 := List.pairwise_iff_getElem.1 this i j (by omega) hj hij
    exact h3 (e2.trans e.symm)
  have ht : P.take (j + 1) = P.take j ++ [(x : Int)] := by rw [List.take_add_one, h]; rfl
  have ex : part P id c j x = c x := by unfold part; rw [if_neg (fun h => nin h.1)]
  refine ⟨?_, ex⟩
  funext k
  unfold upd
  by_cases hk : k = x
  · subst hk
    rw [if_pos rfl, ex]
    unfold part
    rw [ht, if_pos ⟨by simp, hx⟩]
  · rw [if_neg hk]
    unfold part
    rw [ht]
    have : ((k : Int) ∈ P.take j ++ [(x : Int)]) ↔ (k : Int) ∈ P.take j := by
      rw [List.mem_append]
      constructor
      · rintro (h | h)
        · exact h
        · exact absurd (by rw [List.mem_singleton] at h; omega) hk
      · exact .inl
    simp only [this]
theorem part_no {P : List Int} {id : Int} {c : Nat → Int} {j x : Nat} (h : P[j]? = some (x : Int)) (hx : (x : Int) = id) : part P id c (j + 1) = part P id c j := by
  have ht : P.take (j + 1) = P.take j ++ [(x : Int)] := by rw [List.take_add_one, h]; rfl
  funext k
  unfold part
  rw [ht]
  by_cases hk : (k : Int) = id
  · simp [hk]
  · have : ((k : Int) ∈ P.take j ++ [(x : Int)]) ↔ (k : Int) ∈ P.take j := by
      rw [List.mem_append]
      constructor
      · rintro (h | h)
        · exact h
        · exact absurd (by rw [List.mem_singleton] at h; rw [h]; exact hx) hk
      · exact .inl
    simp only [this]
theorem isb_far {w : World} {A : Bl} {B : Bu} (k : IsB w A B) {g i : Nat} (h : ¬ A.all g) (x : Value) : IsB (w.setCell ⟨g, i, none⟩ x) A B :=
  k.only (F := fun j => j = g) (Only.setCell (F := fun j => j = g) (Only.refl _ _) (fun _ => rfl) _) (fun i hi h' => h (hi ▸ h'))
/-- Behind t slots. -/
structure St (L : List Mp) (t : Nat) (c : Nat → Int) (B : Bu) : Prop where
  g : GoodB L 0 t t B
  c : ∀ k, k < L.length → B.S[k]? = some (c k)
theorem St.first {L : List Mp} (ok : ∀ m ∈ L, m.ok) (h16 : L.length ≤ 16) : St L 0 (fun _ => 0) (newB L 0 L.length) := by
  have ht : L.take L.length = L := List.take_length
  refine ⟨⟨newB_at ok h16 (by decide) (by decide), by simp [newB], rfl, fun i m hm => ?_⟩, fun k hk => ?_⟩
  · have okm := ok m (List.mem_of_getElem? hm)
    exact ⟨⟨m.b, m.p, 0, 0, 0, 0⟩, by simp only [newB, ht, List.getElem?_map, hm]; rfl, NowM.new okm.may (by decide) (by decide)⟩
  · show (List.replicate 16 (0 : Int))[k]? = some 0
    rw [List.getElem?_replicate, if_pos (by omega)]
theorem St.step {L : List Mp} {t : Nat} {c : Nat → Int} {B : Bu} (h : St L t c B) (ht : t < 100) (f : Nat → Bool) :
    ∃ (x y id : Int) (B' : Bu), winB t (fun k => decide (k < L.length) && f k) (freshB t B) = ((x, y), B') ∧ ((x = 0 ∧ y = 5 ∧ id = -1) ∨ (y = 0 ∧ id = x)) ∧ St L (t + 1) (part (ids 1 f L.length) id c (ids 1 f L.length).length) B' := by
  obtain ⟨wn, g'⟩ := h.g.won (by omega) (by omega) (fun k => decide (k < L.length) && f k)
  have eN : (t : Int) + 1 = ((t + 1 : Nat) : Int) := by omega
  rw [eN] at g'
  have key : ∀ (id : Int) (S' : List Int), S' = stallB (fun k => decide (k < L.length) && f k) id B.S L.length → ∀ k, k < L.length → S'[k]? = some (part (ids 1 f L.length) id c (ids 1 f L.length).length k) := fun id S' e k hk => by
    rw [e, stallB_spec _ _ _ _ (h.c k hk)]
    congr 1
    unfold part
    rw [List.take_length]
    by_cases q : f k = true ∧ (k : Int) ≠ id
    · rw [if_pos ⟨hk, by simp [hk, q.1], q.2⟩, if_pos ⟨(ids_mem (by decide)).2 ⟨k, rfl, hk, q.1⟩, q.2⟩]
    · rw [if_neg (fun z => q ⟨by simpa [hk] using z.2.1, z.2.2⟩), if_neg (fun z => q ⟨by
        obtain ⟨k', e1, -, e2⟩ := (ids_mem (by decide)).1 z.1
        obtain rfl : k = k' := by omega
        exact e2, z.2⟩)]
  generalize hW : winB t (fun k => decide (k < L.length) && f k) (freshB t B) = W at *
  cases wn with
  | @none B' hh hw hr hS hM => exact ⟨0, 5, -1, B', rfl, .inl ⟨rfl, rfl, rfl⟩, g', key (-1) _ hS⟩
  | @one id B' hl hw hr hS hM => exact ⟨id, 0, id, B', rfl, .inr ⟨rfl, rfl⟩, g', key id _ hS⟩
def RelT (w : World) (L : List Mp) (g : Nat) (A : Bl) (tv : Value) (wr : World) : Prop :=
  ∃ (t : Nat) (c : Nat → Int) (B : Bu), tv = .int .u64 t ∧ t ≤ 100 ∧ IsB wr A B ∧ St L t c B ∧ Blk wr g 3 (Fn .i64 c L.length) ∧ Below w.heap.size w wr
def RelI (wr : World) (f : Nat → Bool) (n : Nat) (lv iv : Value) (wi : World) : Prop :=
  ∃ i : Nat, iv = .int .i64 i ∧ i ≤ n ∧ Slc wi 3 1 lv (ids 2 f i).length (intCells (ids 2 f i)) ∧ (∀ g, lv.ownBlock = some g → wr.heap.size ≤ g) ∧ Below wr.heap.size wr wi
def RelK (w2 : World) (P : List Int) (id : Int) (c : Nat → Int) (n g : Nat) (kv : Value) (wk : World) : Prop :=
  ∃ j : Nat, kv = .int .i64 (2 * (j : Int)) ∧ j ≤ P.length ∧ Blk wk g 3 (Fn .i64 (part P id c j) n) ∧ Only (fun i => i = g) w2 wk
def RelS (wk : World) (n : Nat) (iv : Value) (wi : World) : Prop := ∃ i : Nat, iv = .int .i64 i ∧ i ≤ n ∧ Below wk.heap.size wk wi
set_option maxRecDepth 100000 in
set_option maxHeartbeats 40000000 in
theorem walk2 (w : World) (A0 : Option Addr) (cap : Nat) (L : List Mp) (hA : Hid (Mps w A0 L)) (hL : Hid (∀ m ∈ L, m.rng)) (hn : L.length ≤ 140737488351232)
    (A1 : Option Addr) (nw capw : Nat) (U : Nat → Int) (hU : Hid (IntsAt w .u16 A1 nw U)) (hU2 : Hid (∀ i, i < nw → 0 ≤ U i ∧ U i ≤ 65535)) (hnw : nw ≤ 140737488351232) :
    Calls Try.prog 6 #[.slice A0 L.length cap, .slice A1 nw capw] w fun e w' => e = .returned (.bool true) ∧ Below w.heap.size w w' := by
  have AW := fun W => Lib.hid (awake_any W)
  have MP := fun W (b : Below w.heap.size w W) => Lib.hid (hA.out.below b)
  have RA := fun W h => Lib.hid (rallB_any W A0 cap L h hL hn)
  by_cases hall : allB L
  · have N1 := fun W h => Lib.hid (newb_any W A0 cap L 0 h (Lib.hid hall.2.2) hall.1 hall.2.1 (by decide) (by decide))
    have HALL := Lib.hid hall
    have n16 := hall.2.1
    have n1 := hall.1
    clear hall
    by_cases hz : nw = 0
    · have d1 : ((nw : Int) == 0) = true := beq_iff_eq.2 (by omega)
      go_enter Try.func6, Try.ntmps6
      go_wp2_with (first
        | (go_at_call 9; (with_reducible refine Calls.mono (AW _).out ?_); rintro e w0 ⟨rfl, bel0⟩; have HB := Lib.hid bel0; clear bel0)
        | (go_at_call 11; (with_reducible refine Calls.mono (RA _ (MP _ HB.out)).out ?_); rintro e w2 ⟨r, rfl, r1, bel1⟩; obtain rfl := r1.2 HALL.out; have HB := Lib.hid (Below.next HB.out bel1); clear bel1 r1))
      go_ret
      exact ⟨rfl, HB.out⟩
    · have d1 : ((nw : Int) == 0) = false := beq_eq_false_iff_ne.2 (by omega)
      have hmk : ∀ W, (Instr.makeSlice 33 (.int .i64 L.length) (.int .i64 L.length)).run Try.prog W = .ok (.slice (some ⟨W.heap.size, 0, none⟩) L.length L.length) (W.alloc (.cells ⟨Fn .i64 (fun _ => 0) L.length⟩ 3)) := fun W => by
        rw [← made_Fn]
        exact run_make_row' 33 3 (.int .i64 0) 8 Try.underlying33 infoInt rfl .i64 .i64 L.length (by omega) (by omega) W
      obtain ⟨i0, hi0, hz0, hz1, hz2⟩ := info_parts infoInt
      go_enter Try.func6, Try.ntmps6
      go_wp2_with (first
        | (go_at_call 9; (with_reducible refine Calls.mono (AW _).out ?_); rintro e w0 ⟨rfl, bel0⟩; have HB := Lib.hid bel0; clear bel0)
        | (go_at_call 10; (with_reducible refine Calls.mono (N1 _ (MP _ HB.out)).out ?_); rintro e w1 ⟨A, rfl, k1, lo1, bel1⟩; have K1 := Lib.hid k1; have LO := Lib.hid (show ∀ a, A.own a → w.heap.size ≤ a from fun a ha => Nat.le_trans HB.out.size (lo1 a (.inl ha))); have HB := Lib.hid (Below.next HB.out bel1); clear bel1 k1 lo1)
        | (go_at_call 11; (with_reducible refine Calls.mono (RA _ (MP _ HB.out)).out ?_); rintro e w2 ⟨r, rfl, r1, bel1⟩; obtain rfl := r1.2 HALL.out; have HB := Lib.hid (Below.next HB.out bel1); clear bel1 r1))
      have GB := Lib.hid (Blk.new w1 3 (Fn .i64 (fun _ => 0) L.length))
      have NG : Hid (¬ A.all w1.heap.size) := fun h => by have := K1.out.lt h; omega
      have HG := Lib.hid (show w.heap.size ≤ w1.heap.size from HB.out.size)
      generalize w1.heap.size = g at *
      clear hmk N1 RA AW
      go_loopw [8] (fun tv wr => Hid (RelT w L g A tv wr)) (fun tv _ => 100 - (intOf tv).toNat)
      case atStart => exact ⟨0, fun _ => 0, _, rfl, by omega, K1.out.alloc _, St.first HALL.out.2.2 n16, GB.out, HB.out.alloc HB.out.size _⟩
      case round =>
        clear K1 HB GB
        obtain ⟨t, c, B, rfl, ht, ks, sh, kg, hbel⟩ := hrel
        have KS := Lib.hid ks
        have SH := Lib.hid sh
        have KG := Lib.hid kg
        have BEL := Lib.hid hbel
        clear ks sh kg hbel
        by_cases hi : t < 100
        · have hi2 : (t : Int) < 100 := by omega
          have hlt : t % nw < nw := Nat.mod_lt _ (by omega)
          obtain ⟨gb, off, rfl, hgb, hc⟩ := hU.out.at_ hlt
          obtain ⟨hu0, hu1⟩ := hU2.out _ hlt
          have hc2 := Lib.hid ((BEL.out.cell (p := ⟨gb, off + t % nw, none⟩) hgb).trans hc)
          have hgb2 : gb < wr.heap.size := by have := BEL.out.size; omega
          clear hc
          generalize U (t % nw) = u at *
          have KLT := Lib.hid (fun a (h : A.all a) => KS.out.lt h)
          have GLT := Lib.hid KG.out.lt
          go_wp2_with fail
          go_loopw [9, 10] (fun lv iv wi => Hid (RelI wr (fun k => bit u k) L.length lv iv wi)) (fun _ iv _ => L.length - (intOf iv).toNat)
          case atStart => exact ⟨0, rfl, by omega, Slc.nil _ _ _, fun g h => by simp [Value.ownBlock] at h, Below.refl _ _⟩
          case round =>
            obtain ⟨i, rfl, hil, hsl, hown, hb⟩ := hrel
            have SL := Lib.hid hsl
            have OW := Lib.hid hown
            have BI := Lib.hid hb
            clear hsl hown hb
            by_cases hin : i < L.length
            · have hin2 : (i : Int) < L.length := by omega
              have hc3 := (BI.out.cell (p := ⟨gb, off + t % nw, none⟩) hgb2).trans hc2.out
              have hlen : (ids 2 (fun k => bit u k) i).length ≤ 32 := by have := ids_len 2 (fun k => bit u k) i; omega
              cases hbit : bit u i with
              | true =>
                have hb1 : (bits BinOp.and .u16 (u / 2 ^ i) 1 == 1) = true := hbit
                have HI := Lib.hid (ids_yes (f := fun k => bit u k) hbit)
                clear hbit
                obtain ⟨A3, c3, e3, hc9⟩ := SL.out.shape
                subst e3
                generalize ids 2 (fun k => bit u k) i = l at *
                go_wp2_with (at_builtin; refine wpList_append_slc _ rfl (.tmp 62) (.tmp 64) _ rfl 3 i0 _ 1 8 Try.underlying33 hi0 hz0 hz1 hz2 rfl (by omega) _ l.length (intCells l) rfl (Slc.alloc SL.out _) (some ⟨wr.heap.size, 0, none⟩) 1 1 [.int .i64 i] rfl (Src.one wr 3 _) (by simp [Value.oneCell']) (by omega) (by simp only [maxLen]; omega) ?_)
                intro v' w' hs' ho' hat'
                obtain ⟨A4, c4, e4, -⟩ := hs'.shape
                subst e4
                have HS := Lib.hid hs'
                have HAT := Lib.hid hat'
                have BN := Lib.hid (Below.onlyF (BI.out.alloc BI.out.size _) ho' OW.out)
                have sz := BI.out.size
                have OW4 := Lib.hid (show ∀ g, (Value.slice A4 (l.length + 1) c4).ownBlock = some g → _ ≤ g from fun g hg => by
                  rcases HAT.out with e | e
                  · exact OW.out g (e ▸ hg)
                  · rw [e] at hg; simp at hg; omega)
                clear hs' ho' hat'
                have hlen1 : (intCells l ++ [Value.int .i64 (i : Int)]).length = l.length + 1 := by simp [intCells]
                go_wp2_with (at_builtin; refine wpList_append_slc _ rfl (.tmp 66) (.tmp 68) _ rfl 3 i0 _ 1 8 Try.underlying33 hi0 hz0 hz1 hz2 rfl (by omega) _ (l.length + 1) (intCells l ++ [.int .i64 i]) rfl (Slc.alloc HS.out _) (some ⟨w'.heap.size, 0, none⟩) 1 1 [.int .i64 i] rfl (Src.one w' 3 _) (by simp [Value.oneCell']) (by omega) (by simp only [maxLen]; omega) ?_)
                intro v5 w5 hs5 ho5 hat5
                obtain ⟨A5, c5, e5, -⟩ := hs5.shape
                subst e5
                have HS5 := Lib.hid hs5
                have HAT5 := Lib.hid hat5
                have BN5 := Lib.hid (Below.onlyF (BN.out.alloc BN.out.size _) ho5 OW4.out)
                have sz5 := BN.out.size
                clear hs5 ho5 hat5
                go_wp2_with fail
                go_roundw
                case rel => exact ⟨i + 1, by go_num, by omega, by rw [HI.out]; simpa [intCells] using HS5.out, fun g hg => by
                  rcases HAT5.out with e | e
                  · exact OW4.out g (e ▸ hg)
                  · rw [e] at hg; simp at hg; omega, BN5.out⟩
                case measure => simp [intOf]; omega
              | false =>
                have hb1 : (bits BinOp.and .u16 (u / 2 ^ i) 1 == 1) = false := hbit
                have HI := Lib.hid (ids_no (f := fun k => bit u k) hbit)
                clear hbit
                go_wp2_with fail
                go_roundw
                case rel => exact ⟨i + 1, by go_num, by omega, by rw [HI.out]; exact SL.out, OW.out, BI.out⟩
                case measure => simp [intOf]; omega
            · have hin2 : ¬ (i : Int) < L.length := by omega
              obtain rfl : i = L.length := by omega
              have hw := ids_wants (show 0 < 2 by decide) (fun k => bit u k) L.length
              have hok := ids_ok (show 0 < 2 by decide) (fun k => bit u k) L.length
              have hlen := ids_len 2 (fun k => bit u k) L.length
              obtain ⟨tw1, tw2⟩ := ids_two (fun k => bit u k) L.length
              have hlen1 := ids_len 1 (fun k => bit u k) L.length
              obtain ⟨Al, cl, e3, hsrc⟩ := SL.out.src
              subst e3
              have KI := Lib.hid (KS.out.below BI.out)
              have GI := Lib.hid (KG.out.below BI.out KG.out.lt)
              have BE := Lib.hid (Below.next BEL.out BI.out)
              obtain ⟨x, y, id, B', e1, e2, sh'⟩ := SH.out.step hi (bit u)
              have c0 := slot_run KI.out SH.out.g.at_ (by omega) (by omega) (by omega) (ids 2 (fun k => bit u k) L.length) Al cl hsrc (by omega) (by rw [SH.out.g.hL]; exact hok)
              rw [hw, e1] at c0
              have SH2 := Lib.hid sh'
              have E2 := Lib.hid e2
              have C1 := Lib.hid c0
              have TW := Lib.hid tw2
              have PM := Lib.hid (fun x => ids_mem (m := 1) (by decide) (f := fun k => bit u k) (n := L.length) (x := x))
              have ND := Lib.hid (ids_nodup (fun k => bit u k) L.length)
              clear hok hw hsrc c0 e1 e2 sh' tw2
              generalize (ids 2 (fun k => bit u k) L.length) = l2 at *
              rw [tw1] at *
              generalize (ids 1 (fun k => bit u k) L.length) = P at *
              go_wp2_with (go_at_call 12; (with_reducible refine Calls.mono C1.out ?_); rintro e w2 ⟨rfl, k2, b2, o2⟩; have K2 := Lib.hid k2; have G2 := Lib.hid (GI.out.only o2 (fun h => NG.out (.inl h))); have B2 := Lib.hid (Below.onlyF BE.out o2 LO.out); have O2 := Lib.hid o2; clear k2 b2 o2)
              have SL2 := Lib.hid (SL.out.only O2.out (fun a ha h => by have := OW.out a ha; have := KLT.out a (.inl h); omega))
              have LG := Lib.hid (show ∀ a, (Value.slice Al (2 * P.length) cl).ownBlock = some a → a ≠ g from fun a ha h => by have := OW.out a ha; have := GLT.out; omega)
              clear SL OW O2 KI GI C1 KS KG
              go_loopw [13] (fun kv wk => Hid (RelK w2 P id c L.length g kv wk)) (fun kv _ => 2 * P.length - (intOf kv).toNat)
              case atStart => exact ⟨0, rfl, by omega, by rw [part_zero]; exact G2.out, Only.refl _ _⟩
              case round =>
                obtain ⟨j, rfl, hj, hg, ho⟩ := hrel
                have GK := Lib.hid hg
                have OK := Lib.hid ho
                have SK := Lib.hid (SL2.out.only ho (fun a ha h => LG.out a ha h))
                have KK := Lib.hid (K2.out.only ho (fun a ha h => NG.out (ha ▸ h)))
                have BK := Lib.hid (Below.onlyF B2.out ho (fun a ha => ha ▸ HG.out))
                clear hg ho
                by_cases hjp : j < P.length
                · have hjp2 : (j : Int) < P.length := by omega
                  have hP : P[j]? = some P[j] := List.getElem?_eq_getElem hjp
                  obtain ⟨xk, exk, hxk, -⟩ := (PM.out P[j]).1 (List.mem_of_getElem? hP)
                  rw [exk] at hP
                  have hl2 := TW.out j _ hP
                  obtain ⟨gl, ol, cl', e3, -, -, hgl, hcl, -⟩ := SK.out.at_ (by omega)
                  cases e3
                  have q0 := hcl (2 * j) _ (show (intCells l2)[2 * j]? = some (.int .i64 xk) by simp [intCells, hl2])
                  have q1 := (GK.out.cell xk).trans (Fn_at .i64 _ hxk)
                  have q2 := GK.out.free xk
                  have q3 := GK.out.lt
                  have hx9 : (xk : Int) < L.length := by omega
                  have cb := SH.out.g.at_.st _ (List.mem_of_getElem? (SH.out.c xk hxk))
                  have pb : 0 ≤ part P id c j xk ∧ part P id c j xk ≤ 101 := by unfold part; split <;> omega
                  clear hl2 hcl exk cb
                  rcases E2.out with ⟨rfl, rfl, rfl⟩ | ⟨rfl, rfl⟩
                  · have HPY := Lib.hid (part_yes (c := c) (id := -1) ND.out hP (by omega)).1
                    clear hP
                    go_wp2_with fail
                    go_roundw
                    case rel => exact ⟨j + 1, by go_num, by omega, by rw [HPY.out, ← Fn_set]; exact GK.out.put xk _, Only.setCell OK.out (fun _ => rfl) _⟩
                    case measure => simp [intOf]; omega
                  · by_cases hx : (xk : Int) = id
                    · have d2 : ((xk : Int) == id) = true := beq_iff_eq.2 hx
                      have d3 : ((xk : Int) != id) = false := by rw [bne, d2]; rfl
                      have HPN := Lib.hid (part_no (c := c) hP hx)
                      clear hP hx
                      go_wp2_with fail
                      go_roundw
                      case rel => exact ⟨j + 1, by go_num, by omega, by rw [HPN.out]; exact GK.out, OK.out⟩
                      case measure => simp [intOf]; omega
                    · have d2 : ((xk : Int) == id) = false := beq_eq_false_iff_ne.2 hx
                      have d3 : ((xk : Int) != id) = true := by rw [bne, d2]; rfl
                      have HPY := Lib.hid (part_yes (c := c) ND.out hP hx).1
                      clear hP hx
                      go_wp2_with fail
                      go_roundw
                      case rel => exact ⟨j + 1, by go_num, by omega, by rw [HPY.out, ← Fn_set]; exact GK.out.put xk _, Only.setCell OK.out (fun _ => rfl) _⟩
                      case measure => simp [intOf]; omega
                · have hjp2 : ¬ (j : Int) < P.length := by omega
                  obtain rfl : j = P.length := by omega
                  go_wp2_with fail
                  go_loopw [14] (fun iv wi => Hid (RelS wr L.length iv wi)) (fun iv _ => L.length - (intOf iv).toNat)
                  case atStart => exact ⟨0, rfl, by omega, Below.refl _ _⟩
                  case round =>
                    obtain ⟨i, rfl, hil, hb⟩ := hrel
                    have BI2 := Lib.hid hb
                    by_cases hin : i < L.length
                    · have hin2 : (i : Int) < L.length := by omega
                      have KI := KK.out.below hb
                      have lenL : B'.L.length = L.length := by rw [SH2.out.g.hL]
                      have C1 := fun W (k : IsB W A B') => Lib.hid (stalls_any k SH2.out.g.at_.l16 (by rw [lenL]; exact hin) (SH2.out.c i hin))
                      have q1 := ((GK.out.below hb GK.out.lt).cell i).trans (Fn_at .i64 _ hin)
                      have q3 := (GK.out.below hb GK.out.lt).lt
                      generalize part P id c P.length i = pv at *
                      have KI2 := Lib.hid KI
                      clear hb KI
                      go_wp2_with fail
                      go_quiet ((go_at_call 16; exact Calls.quiet_of_same ((C1 _ (by first | exact KI2.out | exact KI2.out.drewN _)).out.mono fun _ _ h => ⟨h.1, h.2.symm⟩)))
                      go_wp2_with fail
                      go_roundw
                      case rel => exact ⟨i + 1, by go_num, by omega, by first | exact BI2.out | exact Below.drewN' BI2.out _⟩
                      case measure => simp [intOf]; omega
                    · have hin2 : ¬ (i : Int) < L.length := by omega
                      obtain rfl : i = L.length := by omega
                      have KI := Lib.hid (KK.out.below hb)
                      have GI := Lib.hid (GK.out.below hb GK.out.lt)
                      have BF := Lib.hid (Below.next BK.out hb)
                      clear hb
                      go_wp2_with fail
                      go_roundw
                      case rel => exact ⟨t + 1, _, B', by go_num, by omega, KI.out, SH2.out, GI.out, BF.out⟩
                      case measure => simp [intOf]; omega
        · obtain rfl : t = 100 := by omega
          have lenL : B.L.length = L.length := by rw [SH.out.g.hL]
          have C1 := fun W (k : IsB W A B) => Lib.hid (stalls_no k (-1) (.inl (by decide)) SH.out.g.at_.l16)
          have C2 := fun W (k : IsB W A B) => Lib.hid (stalls_no k (L.length : Int) (.inr (by omega)) SH.out.g.at_.l16)
          go_wp2_with (first
            | (go_at_call 16; (with_reducible refine Calls.mono (C1 _ KS.out).out ?_); rintro e w3 ⟨rfl, rfl⟩)
            | (go_at_call 16; (with_reducible refine Calls.mono (C2 _ KS.out).out ?_); rintro e w3 ⟨rfl, rfl⟩))
          go_ret
          exact ⟨rfl, BEL.out⟩
  · have HNO := Lib.hid hall
    clear hall
    go_enter Try.func6, Try.ntmps6
    go_wp2_with (first
      | (go_at_call 9; (with_reducible refine Calls.mono (AW _).out ?_); rintro e w0 ⟨rfl, bel0⟩; have HB := Lib.hid bel0; clear bel0)
      | (go_at_call 11; (with_reducible refine Calls.mono (RA _ (MP _ HB.out)).out ?_); rintro e w2 ⟨r, rfl, r1, bel1⟩; obtain rfl : r = false := by { cases r with | false => rfl | true => exact absurd (r1.1 rfl) HNO.out }; have HB := Lib.hid (Below.next HB.out bel1); clear bel1 r1))
    all_goals
      go_ret
      exact ⟨rfl, HB.out⟩
theorem walk (w : World) (A0 : Option Addr) (n0 cap0 : Nat) (D0 : Nat → List Value) (w0 : Elems w [some .i64, some .i64, some .u64, some .u64] A0 n0 D0) (l0 : n0 * 32 ≤ 140737488351232)
    (A1 : Option Addr) (n1 cap1 : Nat) (D1 : Nat → List Value) (w1 : Elems w [some .u16] A1 n1 D1) (l1 : n1 * 2 ≤ 140737488351232) :
    Calls Try.prog 6 #[.slice A0 n0 cap0, .slice A1 n1 cap1] w fun e w' => e = .returned (.bool true) ∧ Below w.heap.size w w' := by
  obtain ⟨L, rfl, hM, hr⟩ := mps_of w0
  obtain ⟨U, hU, hw⟩ := ints_of w1
  exact walk2 w A0 cap0 L (Lib.hid hM) (Lib.hid hr) (by omega) A1 n1 cap1 U (Lib.hid hU) (Lib.hid fun i hi => bounds_u16 (hw i hi)) (by omega)
end busStalls
namespace busStalls
theorem own : ownKnob Try.prog.godebug = none := by kernel_rfl
set_option maxRecDepth 100000 in
theorem lifted (os : Os) (started : os.Started) (H : Type) (enc : TypeId × Value → H) :
    ReturnsInHanded {} Try.checked os 6 .any (Rows.busStallsSpec.pre6 enc Try.prog Try.f6 Rows.busStallsRow.domain false) (Rows.busStallsSpec.post enc Try.prog Try.f6 false true false false) := by
  refine returnsInHanded_of_change_sized (C := Try.checked) own started (by kernel_rfl) Try.func6
    (ChangeSpec.witness6 (enc := enc) (C := Try.checked) false ⟨#[], #[.slice none 0 0, .slice none 0 0], []⟩ 8 (by kernel_rfl) (by kernel_rfl) (by kernel_rfl) (by kernel_rfl)) ?_
  intro W base args ds gs before hval0 hW hcnd hsz0 _
  have hsz : (DataW.weightsEach Try.prog (Try.f6.params.toList ++ Rows.busStallsSpec.plain.varTypes Try.prog) (ds ++ gs)).all (· ≤ reachBytes) = true := hsz0
  have hval : ∀ (j : Nat) t v, Try.f6.params[j]? = some t → args[j]? = some v → Value.okWide Try.prog W .any base t v := hval0
  have hW' := hW
  obtain ⟨p, q, hA0, hV, rfl, hfz, hnd⟩ := hW
  have hA : DataW.TrodAll enc Try.prog W 0 (fun _ => true) true Try.f6.params.toList args.toList ds p := hA0
  rw [Try.params6] at hA hval hsz
  obtain ⟨v0, vs0, d0, ds0, p0, q0, hargs, rfl, rfl, h0, r0⟩ := trodAll_cons hA
  obtain ⟨v1, vs1, d1, ds1, p1, q1, rfl, rfl, rfl, h1, r1⟩ := trodAll_cons r0
  obtain ⟨rfl, rfl, rfl⟩ := trodAll_nil r1
  obtain rfl : args = #[v0, v1] := by cases args; simp_all
  obtain ⟨rfl, rfl⟩ := trodVars_none hV
  obtain ⟨A0, n0, cap0, D0, rfl, w0, m0, z0⟩ := arg_slice [some .i64, some .i64, some .u64, some .u64] Try.underlying22 6 (by kernel_rfl) (by kernel_rfl) (hval 0 22 v0 rfl rfl) h0
  have l0 : n0 * Try.prog.bytesOf 41 ≤ reachBytes := by
    rcases z0 with ⟨_, e⟩ | ⟨es, sp, e, el⟩
    · subst e; simp
    · subst e; subst el; exact Nat.le_trans (Nat.mul_le_mul_right _ (Nat.le_add_right _ _)) (sized_slice hsz (j := 0) (t := 22) (e := 41) rfl rfl Try.underlying22)
  have b0 : Try.prog.bytesOf 41 = 32 := by kernel_rfl
  rw [b0] at l0
  simp only [reachBytes] at l0
  clear z0 b0
  obtain ⟨A1, n1, cap1, D1, rfl, w1, m1, z1⟩ := arg_slice [some .u16] Try.underlying23 6 (by kernel_rfl) (by kernel_rfl) (hval 1 23 v1 rfl rfl) h1
  have l1 : n1 * Try.prog.bytesOf 34 ≤ reachBytes := by
    rcases z1 with ⟨_, e⟩ | ⟨es, sp, e, el⟩
    · subst e; simp
    · subst e; subst el; exact Nat.le_trans (Nat.mul_le_mul_right _ (Nat.le_add_right _ _)) (sized_slice hsz (j := 1) (t := 23) (e := 34) rfl rfl Try.underlying23)
  have b1 : Try.prog.bytesOf 34 = 2 := by kernel_rfl
  rw [b1] at l1
  simp only [reachBytes] at l1
  clear z1 b1
  clear hA0 hval0 hsz0 hsz
  refine (walk W A0 n0 cap0 D0 w0 l0 A1 n1 cap1 D1 w1 l1).mono fun e W' ⟨he, bel⟩ => ?_
  subst he
  exact ⟨_, rfl, _, _, _, [], _, [], hW', trodAll_mk1 (shut_bool Try.underlying4 _), (trodAll_cons_mk (Below.trod laidOut (by kernel_rfl) (of_decide_eq_true (by kernel_rfl)) h0 bel (fun x hx => by simpa using hW'.lt x (by simp [hx]))) (trodAll_cons_mk (Below.trod laidOut (by kernel_rfl) (of_decide_eq_true (by kernel_rfl)) h1 bel (fun x hx => by simpa using hW'.lt x (by simp [hx]))) trodAll_mk0)), rfl, bel.frame _, fun h => by cases h⟩
theorem over : Rows.busStallsRow.holds Try.pinned (OpenSpec.ofChange Rows.busStallsSpec) :=
  OpenClaim.holds_of_wide 6 Try.f6 rfl rfl rfl rfl rfl rfl rfl ⟨rfl, rfl, rfl, rfl, rfl⟩ rfl rfl rfl rfl rfl (by kernel_rfl) Try.func6 (by kernel_rfl)
    (of_decide_eq_true (by kernel_rfl)) (by unfold Func.isWrapper; first | (rw [if_pos (by decide +kernel)]; kernel_rfl) | (rw [if_neg (by decide +kernel)]; exact ⟨rfl, rfl⟩))
    (fun os started H enc _ => lifted os started H enc)
end busStalls
theorem busStalls_holds : Rows.BusStallsSaid := busStalls.over
#print axioms busStalls_holds
end Go.Proofs.Ytbfhohcimomphaa
