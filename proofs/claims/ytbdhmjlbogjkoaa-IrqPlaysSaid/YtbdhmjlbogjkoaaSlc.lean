/- A slice of memory of the run's own, at whatever offset of its block: what it holds; append onto it from whatever can be read. -/
import Derived.Test.YtbdhmjlbogjkoaaMem
import Derived.OwnWalk
import Derived.Maps.AppendAt
import Derived.Deep.AppendLies
import Derived.RegionTactic
namespace Go.Proofs.Ytbdhmjlbogjkoaa
open Go.RowKit
set_option linter.unusedVariables false
set_option linter.unusedSimpArgs false

/-- Slice value v has n elements of type e (size cells each), the cells xs; nil, or in a block of that type, none of it frozen. -/
def Slc (w : World) (e : TypeId) (size : Nat) (v : Value) (n : Nat) (xs : List Value) : Prop :=
  xs.length = n * size ∧ ((v = .slice none 0 0 ∧ n = 0) ∨
    ∃ (g off c : Nat) (cs : Array Value), v = .slice (some ⟨g, off, none⟩) n c ∧ w.heap[g]? = some (.cells cs e (0, 0)) ∧ n ≤ c ∧ c ≤ maxLen ∧ off + c * size ≤ cs.size ∧ ∀ j u, xs[j]? = some u → cs[off + j]? = some u)
/-- What is appended: m elements, the cells news, read at A. -/
def Src (w : World) (size : Nat) (A : Option Addr) (m : Nat) (news : List Value) : Prop :=
  news.length = m * size ∧ (m = 0 ∨ ∃ ad, A = some ad ∧ ∀ j u, news[j]? = some u → w.cell? (ad.add j) = some u)

section
variable {w w' : World} {e : TypeId} {size n : Nat} {v : Value} {xs : List Value} {F : Nat → Prop}
theorem Slc.nil (w : World) (e : TypeId) (size : Nat) : Slc w e size (.slice none 0 0) 0 [] := ⟨by simp, .inl ⟨rfl, rfl⟩⟩
theorem Slc.lt (h : Slc w e size v n xs) {g : Nat} (hg : v.ownBlock = some g) : g < w.heap.size := by
  rcases h.2 with ⟨rfl, _⟩ | ⟨g', off, c, cs, rfl, hh, _⟩
  · simp [Value.ownBlock] at hg
  · simp [Value.ownBlock] at hg; subst hg; exact (Array.getElem?_eq_some_iff.1 hh).1
theorem Slc.keep (h : Slc w e size v n xs) (k : ∀ g, v.ownBlock = some g → w'.heap[g]? = w.heap[g]?) : Slc w' e size v n xs := by
  refine ⟨h.1, ?_⟩
  rcases h.2 with h0 | ⟨g, off, c, cs, rfl, hh, r⟩
  · exact .inl h0
  · exact .inr ⟨g, off, c, cs, rfl, (k g rfl).trans hh, r⟩
theorem Slc.only (h : Slc w e size v n xs) (k : Only F w w') (hF : ∀ g, v.ownBlock = some g → ¬ F g) : Slc w' e size v n xs := h.keep fun g hg => k.block g (h.lt hg) (hF g hg)
theorem Slc.below (h : Slc w e size v n xs) {B : Nat} (k : Below B w w') (hB : ∀ g, v.ownBlock = some g → g < B) : Slc w' e size v n xs := h.keep fun g hg => k.block g (hB g hg)
theorem Slc.drewN (h : Slc w e size v n xs) (m : Nat) : Slc (w.drewN m) e size v n xs := h
theorem Slc.drew (h : Slc w e size v n xs) : Slc w.drew e size v n xs := h
theorem Slc.alloc (h : Slc w e size v n xs) (o : Obj) : Slc (w.alloc o) e size v n xs := h.keep fun g hg => Below.heap_alloc w o g (h.lt hg)
theorem Slc.far (h : Slc w e size v n xs) {p : Addr} (hp : v.ownBlock ≠ some p.block) (u : Value) : Slc (w.setCell p u) e size v n xs := h.keep fun g hg => Below.heap_setCell w p u g (by rintro rfl; exact hp hg)
/-- Its block is another one than a block of another element type. -/
theorem Slc.ne {g : Nat} {t : TypeId} {cs : List Value} (h : Slc w e size v n xs) (k : Blk w g t cs) (hne : e ≠ t) : v.ownBlock ≠ some g := by
  rcases h.2 with ⟨rfl, _⟩ | ⟨g', off, c, cs', rfl, hh, _⟩
  · simp [Value.ownBlock]
  · intro he
    have : g' = g := by simpa [Value.ownBlock] using he
    subst this
    unfold Blk at k
    rw [hh] at k
    injection k with k
    injection k with _ ht
    exact hne ht
theorem Slc.shape (h : Slc w e size v n xs) : ∃ A c, v = .slice A n c ∧ n ≤ c := by
  rcases h.2 with ⟨rfl, rfl⟩ | ⟨g', off, c, cs', rfl, hh, hc, _⟩
  · exact ⟨_, _, rfl, Nat.le_refl _⟩
  · exact ⟨_, c, rfl, hc⟩
/-- Where there is an element: the address, and the cells. -/
theorem Slc.at_ (h : Slc w e size v n xs) (hn : 0 < n) : ∃ g off c, v = .slice (some ⟨g, off, none⟩) n c ∧ n ≤ c ∧ c ≤ maxLen ∧ g < w.heap.size ∧ (∀ j u, xs[j]? = some u → w.cell? ⟨g, off + j, none⟩ = some u) ∧ (∀ j, w.frozen? ⟨g, j, none⟩ = false) := by
  rcases h.2 with ⟨_, h0⟩ | ⟨g, off, c, cs, rfl, hh, hc, hm, _, hx⟩
  · omega
  · exact ⟨g, off, c, rfl, hc, hm, (Array.getElem?_eq_some_iff.1 hh).1, fun j u hu => by rw [cell_of_row w g (off + j) cs e (0, 0) hh]; exact hx j u hu, fun j => by simp [World.frozen?, hh]⟩
theorem Slc.src (h : Slc w e size v n xs) : ∃ A c, v = .slice A n c ∧ Src w size A n xs := by
  rcases Nat.eq_zero_or_pos n with h0 | h0
  · obtain ⟨A, c, rfl, _⟩ := h.shape
    exact ⟨A, c, rfl, h.1, .inl h0⟩
  · obtain ⟨g, off, c, rfl, _, _, _, hx, _⟩ := h.at_ h0
    exact ⟨_, c, rfl, h.1, .inr ⟨_, rfl, fun j u hu => by rw [Addr.add_lit]; exact hx j u hu⟩⟩
theorem Slc.len (h : Slc w e size v n xs) : n ≤ maxLen := by
  rcases h.2 with ⟨rfl, rfl⟩ | ⟨g', off, c, cs', rfl, hh, hc, hm, _⟩
  · simp [maxLen]
  · omega
theorem Src.keep {A : Option Addr} {m : Nat} {news : List Value} (h : Src w size A m news) (k : ∀ p : Addr, p.block < w.heap.size → (∀ a, A = some a → p.block = a.block) → w'.cell? p = w.cell? p) : Src w' size A m news := by
  refine ⟨h.1, h.2.imp id ?_⟩
  rintro ⟨ad, rfl, hc⟩
  refine ⟨ad, rfl, fun j u hu => ?_⟩
  have h1 := hc j u hu
  exact (k _ (World.block_lt_of_cell? w _ h1) (fun a ha => by injection ha with ha; subst ha; unfold Addr.add; split <;> rfl)).trans h1
theorem Src.alloc {A : Option Addr} {m : Nat} {news : List Value} (h : Src w size A m news) (o : Obj) : Src (w.alloc o) size A m news := h.keep fun p hp _ => World.cell?_alloc_lt w o p hp
theorem Src.drew {A : Option Addr} {m : Nat} {news : List Value} (h : Src w size A m news) : Src w.drew size A m news := h
theorem Src.one (w : World) (e : TypeId) (u : Value) : Src (w.alloc (.cells #[u] e)) 1 (some ⟨w.heap.size, 0, none⟩) 1 [u] :=
  ⟨rfl, .inr ⟨_, rfl, fun j x hx => by
    rcases j with _ | j
    · rw [Addr.add_lit]; simp at hx; subst hx; exact (Blk.new w e [u]).cell 0
    · simp at hx⟩⟩
theorem Slc.new (w : World) (e : TypeId) (size : Nat) : Slc (w.alloc (.cells #[] e)) e size (.slice (some ⟨w.heap.size, 0, none⟩) 0 0) 0 [] :=
  ⟨by simp, .inr ⟨w.heap.size, 0, 0, #[], rfl, heap_alloc_new w _, Nat.le_refl _, by simp [maxLen], by simp, fun j u hu => by simp at hu⟩⟩
/-- A cut behind the first k elements. -/
theorem Slc.drop (h : Slc w e size v n xs) {k c : Nat} {A : Option Addr} (hv : v = .slice A n c) (hk : k ≤ n) :
    Slc w e size (.slice (if c = k then A else A.map (·.add (k * size))) (n - k) (c - k)) (n - k) (xs.drop (k * size)) := by
  refine ⟨by rw [List.length_drop, h.1, Nat.sub_mul], ?_⟩
  rcases h.2 with ⟨rfl, rfl⟩ | ⟨g, off, c', cs, rfl, hh, hc, hm, hs, hx⟩
  · injection hv with e1 e2 e3
    subst e1 e3
    exact .inl ⟨by simp, by omega⟩
  · injection hv with e1 e2 e3
    subst e1 e3
    by_cases hck : c' = k
    · rw [if_pos hck]
      refine .inr ⟨g, off, c' - k, cs, rfl, hh, by omega, by omega, ?_, ?_⟩
      · rw [hck, Nat.sub_self, Nat.zero_mul, Nat.add_zero]; omega
      · intro j u hu
        have : xs.drop (k * size) = [] := List.drop_eq_nil_of_le (by rw [h.1]; exact Nat.mul_le_mul_right _ (by omega))
        rw [this] at hu
        simp at hu
    · rw [if_neg hck]
      refine .inr ⟨g, off + k * size, c' - k, cs, by simp [Addr.add_lit], hh, by omega, by omega, ?_, ?_⟩
      · have : (c' - k) * size = c' * size - k * size := Nat.sub_mul ..
        have h2 : k * size ≤ c' * size := Nat.mul_le_mul_right _ (by omega)
        omega
      · intro j u hu
        rw [List.getElem?_drop] at hu
        rw [Nat.add_assoc]
        exact hx _ u hu
/-- Less room is no harm (the third index of a cut). -/
theorem Slc.clip {A : Option Addr} {c c' : Nat} (h : Slc w e size (.slice A n c) n xs) (h1 : n ≤ c') (h2 : c' ≤ c) : Slc w e size (.slice A n c') n xs := by
  refine ⟨h.1, ?_⟩
  rcases h.2 with ⟨hv, h0⟩ | ⟨g, off, c0, cs, hv, hh, hc, hm, hs, hx⟩
  · injection hv with e1 e2 e3
    subst e1
    subst e3
    exact .inl ⟨by rw [h0, show c' = 0 by omega], h0⟩
  · injection hv with e1 e2 e3
    subst e1
    subst e3
    have hmul : c' * size ≤ c * size := Nat.mul_le_mul_right _ h2
    exact .inr ⟨g, off, c', cs, rfl, hh, h1, by omega, by omega, hx⟩
end

section
variable {P : Program} (w : World)
theorem run_append_at (t ty e : TypeId) (i : TypeInfo) (ht : P.underlying t = some (.slice e)) (hi : P.info? e = some i)
    (g off sLen sCap : Nat) (cur : Array Value) (hg : w.heap[g]? = some (.cells cur e (0, 0)))
    (a : Addr) (m c : Nat) (news : List Value) (hl : news.length = m * i.size) (hnews : ∀ j u, news[j]? = some u → w.cell? (a.add j) = some u) (h1 : ∀ u ∈ news, u.oneCell' = true)
    (hroom : sLen + m ≤ sCap) (hfit : off + sLen * i.size + news.length ≤ cur.size) :
    (Builtin.append_ #[t, t] ty #[.slice (some ⟨g, off, none⟩) sLen sCap, .slice (some a) m c]).run P w =
      .ok (.slice (some ⟨g, off, none⟩) (sLen + m) sCap) (w.setRow g (cur.toList.take (off + sLen * i.size) ++ news ++ cur.toList.drop (off + sLen * i.size + news.length)).toArray) := by
  have hf := run_firstCells_some (P := P) w i.size m a m c news hl hnews
  have hst := run_storeCells_at P g (off + sLen * i.size) e news 0 cur w hg (by simpa using hfit) h1
  simp only [Nat.add_zero] at hst
  simp [Builtin.append_, run_underlying ht, sizeOf, typeInfo, hi, Builtin.lenOf, hroom, hf, Addr.add_lit, hst]

/-- append onto a slice of the run's own: what is owned behind it, and where. -/
theorem run_append_slc (t ty e : TypeId) (i : TypeInfo) (z : Value) (size bytes : Nat) (ht : P.underlying t = some (.slice e)) (hi : P.info? e = some i) (hz : i.zero = some z)
    (hsize : i.size = size) (hby : i.bytes = bytes) (hzs : z.cells.size = size) (hsz : 0 < size)
    (v : Value) (n : Nat) (xs : List Value) (hown : Slc w e size v n xs)
    (A : Option Addr) (m c : Nat) (news : List Value) (hsrc : Src w size A m news) (h1 : ∀ u ∈ news, u.oneCell' = true)
    (hbytes : (n + m) * bytes ≤ 140737488355328) (h63 : n + m ≤ maxLen) :
    ∃ v' w', (Builtin.append_ #[t, t] ty #[v, .slice A m c]).run P w = .ok v' w' ∧ Slc w' e size v' (n + m) (xs ++ news) ∧ Only (fun g => v.ownBlock = some g) w w' ∧ (v'.ownBlock = v.ownBlock ∨ v'.ownBlock = some w.heap.size) := by
  subst hsize
  subst hby
  obtain ⟨hl, hsrc⟩ := hsrc
  have hsmall : n + m ≤ 9223372036854775807 := by simp only [maxLen] at h63; omega
  rcases A with _ | ad
  · have hm : m = 0 := by
      rcases hsrc with h | ⟨ad, h, _⟩
      · exact h
      · cases h
    subst hm
    have hn : news = [] := List.eq_nil_of_length_eq_zero (by simpa using hl)
    subst hn
    refine ⟨v, w, ?_, by simpa using hown, Only.refl _ _, .inl rfl⟩
    rcases hown.2 with ⟨rfl, rfl⟩ | ⟨g, off, cap, cs, rfl, _, hnc, _⟩
    · simp [Builtin.append_, run_underlying ht, sizeOf, typeInfo, hi, Builtin.lenOf, Builtin.firstCells]
    · simp [Builtin.append_, run_underlying ht, sizeOf, typeInfo, hi, Builtin.lenOf, Builtin.firstCells, hnc, storeCells]
  · have hnews : ∀ j u, news[j]? = some u → w.cell? (ad.add j) = some u := by
      intro j u hu
      rcases hsrc with h | ⟨ad', h, hc⟩
      · subst h
        have hn : news = [] := List.eq_nil_of_length_eq_zero (by simpa using hl)
        subst hn
        simp at hu
      · injection h with h
        subst h
        exact hc j u hu
    have hlen : (xs ++ news).length = (n + m) * i.size := by rw [List.length_append, hown.1, hl, Nat.add_mul]
    -- where it grows: the new block
    have grown : ∀ old : Nat, old < n + m →
        Slc (w.drew.alloc (.cells (xs.toArray ++ news.toArray ++ Builtin.zeroCells z.cells (grownCap w (n + m) old e - (n + m))) e)) e i.size
          (.slice (some ⟨w.heap.size, 0, none⟩) (n + m) (grownCap w (n + m) old e)) (n + m) (xs ++ news) := by
      intro old ho
      have hge := grownCap_ge w (n + m) old e
      have hcm : grownCap w (n + m) old e ≤ maxLen := grownCap_le_maxLen w (n + m) old e h63
      refine ⟨hlen, .inr ⟨w.heap.size, 0, _, _, rfl, heap_alloc_new w.drew _, hge, hcm, ?_, ?_⟩⟩
      · simp only [Array.size_append, List.size_toArray, size_zeroCells, hzs, hown.1, hl, ← Nat.add_mul]
        rw [Nat.zero_add, show n + m + (grownCap w (n + m) old e - (n + m)) = grownCap w (n + m) old e by omega]
        exact Nat.le_refl _
      · intro j u hu
        rw [Nat.zero_add]
        have hj : j < (xs ++ news).length := by
          rcases Nat.lt_or_ge j (xs ++ news).length with h | h
          · exact h
          · rw [List.getElem?_eq_none h] at hu; cases hu
        rw [← Array.getElem?_toList]
        simp only [Array.toList_append]
        rw [List.getElem?_append_left (by simpa using hj)]
        exact hu
    rcases hown.2 with ⟨rfl, rfl⟩ | ⟨g, off, cap, cur, rfl, hg, hnc, hcm, hcs, hx⟩
    · have hx : xs = [] := List.eq_nil_of_length_eq_zero (by simpa using hown.1)
      subst hx
      by_cases hm : m = 0
      · subst hm
        have hn : news = [] := List.eq_nil_of_length_eq_zero (by simpa using hl)
        subst hn
        refine ⟨.slice none 0 0, w, ?_, Slc.nil _ _ _, Only.refl _ _, .inl rfl⟩
        simp [Builtin.append_, run_underlying ht, sizeOf, typeInfo, hi, Builtin.lenOf, Builtin.firstCells, loadCells, loadCellsFrom]
      · have hr := run_append_nil (P := P) w t ty e i z ht hi hz ad m c news hl hnews (by omega) (by omega) (by have hb := hbytes; simp only [Nat.zero_add] at hb; omega)
        have hgr := grown 0 (by omega)
        simp only [Nat.zero_add, List.nil_append, Array.empty_append] at hgr ⊢
        exact ⟨_, _, hr, hgr, ((Only.refl _ w).drew).alloc _, .inr rfl⟩
    · by_cases hroom : n + m ≤ cap
      · have hfit : off + n * i.size + news.length ≤ cur.size := by
          have h2 : (n + m) * i.size ≤ cap * i.size := Nat.mul_le_mul_right _ hroom
          rw [Nat.add_mul] at h2
          omega
        have hr := run_append_at (P := P) w t ty e i ht hi g off n cap cur hg ad m c news hl hnews h1 hroom hfit
        refine ⟨_, _, hr, ⟨hlen, .inr ⟨g, off, cap, _, rfl, setRow_heap w g cur _ e _ hg, hroom, hcm, ?_, ?_⟩⟩, ⟨rfl, rfl, rfl, by simp, fun k _ hk => setRow_other w g k _ (fun e => hk (by simp [Value.ownBlock, e]))⟩, .inl rfl⟩
        · simp only [List.size_toArray, List.length_append, List.length_take, List.length_drop, Array.length_toList]
          omega
        · intro j u hu
          simp only [List.getElem?_toArray]
          by_cases hj : j < xs.length
          · rw [List.getElem?_append_left hj] at hu
            have := hx j u hu
            have hlt : off + j < off + n * i.size := by rw [← hown.1]; omega
            rw [List.append_assoc, List.getElem?_append_left (by rw [List.length_take, Array.length_toList]; omega), List.getElem?_take, if_pos hlt, Array.getElem?_toList]
            exact this
          · rw [List.getElem?_append_right (by omega)] at hu
            have hjn : j - xs.length < news.length := by
              rcases Nat.lt_or_ge (j - xs.length) news.length with h | h
              · exact h
              · rw [List.getElem?_eq_none h] at hu; cases hu
            have htl : (cur.toList.take (off + n * i.size)).length = off + n * i.size := by rw [List.length_take, Array.length_toList]; omega
            rw [List.append_assoc, List.getElem?_append_right (by rw [htl, ← hown.1]; omega), htl, List.getElem?_append_left (by rw [← hown.1]; omega)]
            rw [show off + j - (off + n * i.size) = j - xs.length by rw [← hown.1]; omega]
            exact hu
      · have holds : ∀ j u, xs[j]? = some u → w.cell? ((⟨g, off, none⟩ : Addr).add j) = some u := by
          intro j u hu
          rw [Addr.add_lit, cell_of_row w g (off + j) cur e (0, 0) hg]
          exact hx j u hu
        have hr := run_append_grow (P := P) w t ty e i z ht hi hz ⟨g, off, none⟩ n cap xs hown.1 holds ad m c news hl hnews (by omega) (by omega) (growslice_fits (by omega) hbytes)
        have hgr := grown cap (by omega)
        exact ⟨_, _, hr, hgr, ((Only.refl _ w).drew).alloc _, .inr rfl⟩

theorem wp_append_slc {o : Oper} {a : Act} {K : Act → World → Prop} {Q : Exit → Act → World → Prop} (s x : Operand) (t : TypeId)
    (ho : o.op = .call { callee := .builtin .append, args := #[s, x], argTypes := #[t, t] })
    (e : TypeId) (i : TypeInfo) (z : Value) (size bytes : Nat) (ht : P.underlying t = some (.slice e)) (hi : P.info? e = some i) (hz : i.zero = some z)
    (hsize : i.size = size) (hby : i.bytes = bytes) (hzs : z.cells.size = size) (hsz : 0 < size)
    (v : Value) (n : Nat) (xs : List Value) (hs : a.eval s = v) (hown : Slc w e size v n xs)
    (A : Option Addr) (m c : Nat) (news : List Value) (hx : a.eval x = .slice A m c) (hsrc : Src w size A m news) (h1 : ∀ u ∈ news, u.oneCell' = true)
    (hbytes : (n + m) * bytes ≤ 140737488355328) (h63 : n + m ≤ maxLen)
    (h : ∀ v' w', Slc w' e size v' (n + m) (xs ++ news) → Only (fun g => v.ownBlock = some g) w w' → (v'.ownBlock = v.ownBlock ∨ v'.ownBlock = some w.heap.size) → K (a.put o.dst v') w') : o.wp P a w K Q := by
  obtain ⟨v', w', hr, h2, h3, h4⟩ := run_append_slc (P := P) w t o.type e i z size bytes ht hi hz hsize hby hzs hsz v n xs hown A m c news hsrc h1 hbytes h63
  unfold Oper.wp execOp
  simp only [ho, resolve, invoke, builtin, Sem.run_bind, Sem.run_pure, Result.andThen_ok, List.map_toArray, List.map_cons, List.map_nil, hs, hx, hr]
  exact h v' w' h2 h3 h4
theorem wpList_append_slc {ops : Array Oper} {rest : List Oper} {o : Oper} {a : Act} {Q : Exit → Act → World → Prop} (hgd : o.guard = none) (s x : Operand) (t : TypeId)
    (ho : o.op = .call { callee := .builtin .append, args := #[s, x], argTypes := #[t, t] })
    (e : TypeId) (i : TypeInfo) (z : Value) (size bytes : Nat) (ht : P.underlying t = some (.slice e)) (hi : P.info? e = some i) (hz : i.zero = some z)
    (hsize : i.size = size) (hby : i.bytes = bytes) (hzs : z.cells.size = size) (hsz : 0 < size)
    (v : Value) (n : Nat) (xs : List Value) (hs : a.eval s = v) (hown : Slc w e size v n xs)
    (A : Option Addr) (m c : Nat) (news : List Value) (hx : a.eval x = .slice A m c) (hsrc : Src w size A m news) (h1 : ∀ u ∈ news, u.oneCell' = true)
    (hbytes : (n + m) * bytes ≤ 140737488355328) (h63 : n + m ≤ maxLen)
    (h : ∀ v' w', Slc w' e size v' (n + m) (xs ++ news) → Only (fun g => v.ownBlock = some g) w w' → (v'.ownBlock = v.ownBlock ∨ v'.ownBlock = some w.heap.size) → wpList P ops Q rest (a.put o.dst v') w') : wpList P ops Q (o :: rest) a w :=
  wpList_plain hgd fun _ hK => wp_append_slc w s x t ho e i z size bytes ht hi hz hsize hby hzs hsz v n xs hs hown A m c news hx hsrc h1 hbytes h63 fun v' w' h2 h3 h4 => hK _ _ (h v' w' h2 h3 h4)

/-- append where there is no room: a new block, nothing old is touched. -/
theorem run_append_fresh (t ty e : TypeId) (i : TypeInfo) (z : Value) (size bytes : Nat) (ht : P.underlying t = some (.slice e)) (hi : P.info? e = some i) (hz : i.zero = some z)
    (hsize : i.size = size) (hby : i.bytes = bytes) (hzs : z.cells.size = size) (hsz : 0 < size)
    (v : Value) (n : Nat) (xs : List Value) (hown : Slc w e size v n xs) (hfull : ∀ A' c', v = .slice A' n c' → c' = n)
    (A : Option Addr) (m c : Nat) (news : List Value) (hm0 : 0 < m) (hsrc : Src w size A m news) (h1 : ∀ u ∈ news, u.oneCell' = true)
    (hbytes : (n + m) * bytes ≤ 140737488355328) (h63 : n + m ≤ maxLen) :
    ∃ v' w', (Builtin.append_ #[t, t] ty #[v, .slice A m c]).run P w = .ok v' w' ∧ Slc w' e size v' (n + m) (xs ++ news) ∧ Only (fun _ => False) w w' ∧ v'.ownBlock = some w.heap.size := by
  subst hsize
  subst hby
  obtain ⟨hl, hsrc⟩ := hsrc
  have hsmall : n + m ≤ 9223372036854775807 := by simp only [maxLen] at h63; omega
  obtain ⟨ad, rfl, hnews⟩ : ∃ ad, A = some ad ∧ ∀ j u, news[j]? = some u → w.cell? (ad.add j) = some u := by
    rcases hsrc with h | h
    · omega
    · exact h
  have hlen : (xs ++ news).length = (n + m) * i.size := by rw [List.length_append, hown.1, hl, Nat.add_mul]
  have grown : ∀ old : Nat, old < n + m →
      Slc (w.drew.alloc (.cells (xs.toArray ++ news.toArray ++ Builtin.zeroCells z.cells (grownCap w (n + m) old e - (n + m))) e)) e i.size
        (.slice (some ⟨w.heap.size, 0, none⟩) (n + m) (grownCap w (n + m) old e)) (n + m) (xs ++ news) := by
    intro old ho
    have hge := grownCap_ge w (n + m) old e
    have hcm : grownCap w (n + m) old e ≤ maxLen := grownCap_le_maxLen w (n + m) old e h63
    refine ⟨hlen, .inr ⟨w.heap.size, 0, _, _, rfl, heap_alloc_new w.drew _, hge, hcm, ?_, ?_⟩⟩
    · simp only [Array.size_append, List.size_toArray, size_zeroCells, hzs, hown.1, hl, ← Nat.add_mul]
      rw [Nat.zero_add, show n + m + (grownCap w (n + m) old e - (n + m)) = grownCap w (n + m) old e by omega]
      exact Nat.le_refl _
    · intro j u hu
      rw [Nat.zero_add]
      have hj : j < (xs ++ news).length := by
        rcases Nat.lt_or_ge j (xs ++ news).length with h | h
        · exact h
        · rw [List.getElem?_eq_none h] at hu; cases hu
      rw [← Array.getElem?_toList]
      simp only [Array.toList_append]
      rw [List.getElem?_append_left (by simpa using hj)]
      exact hu
  rcases hown.2 with ⟨rfl, rfl⟩ | ⟨g, off, cap, cur, rfl, hg, hnc, hcm, hcs, hx⟩
  · have hx : xs = [] := List.eq_nil_of_length_eq_zero (by simpa using hown.1)
    subst hx
    have hr := run_append_nil (P := P) w t ty e i z ht hi hz ad m c news hl hnews (by omega) (by omega) (by have hb := hbytes; simp only [Nat.zero_add] at hb; omega)
    have hgr := grown 0 (by omega)
    simp only [Nat.zero_add, List.nil_append, Array.empty_append] at hgr ⊢
    exact ⟨_, _, hr, hgr, ((Only.refl _ w).drew).alloc _, rfl⟩
  · have hcn := hfull _ _ rfl
    subst hcn
    have holds : ∀ j u, xs[j]? = some u → w.cell? ((⟨g, off, none⟩ : Addr).add j) = some u := by
      intro j u hu
      rw [Addr.add_lit, cell_of_row w g (off + j) cur e (0, 0) hg]
      exact hx j u hu
    have hr := run_append_grow (P := P) w t ty e i z ht hi hz ⟨g, off, none⟩ cap cap xs hown.1 holds ad m c news hl hnews (by omega) (by omega) (growslice_fits (by omega) hbytes)
    have hgr := grown cap (by omega)
    exact ⟨_, _, hr, hgr, ((Only.refl _ w).drew).alloc _, rfl⟩
theorem wp_append_fresh {o : Oper} {a : Act} {K : Act → World → Prop} {Q : Exit → Act → World → Prop} (s x : Operand) (t : TypeId)
    (ho : o.op = .call { callee := .builtin .append, args := #[s, x], argTypes := #[t, t] })
    (e : TypeId) (i : TypeInfo) (z : Value) (size bytes : Nat) (ht : P.underlying t = some (.slice e)) (hi : P.info? e = some i) (hz : i.zero = some z)
    (hsize : i.size = size) (hby : i.bytes = bytes) (hzs : z.cells.size = size) (hsz : 0 < size)
    (v : Value) (n : Nat) (xs : List Value) (hs : a.eval s = v) (hown : Slc w e size v n xs) (hfull : ∀ A' c', v = .slice A' n c' → c' = n)
    (A : Option Addr) (m c : Nat) (news : List Value) (hm0 : 0 < m) (hx : a.eval x = .slice A m c) (hsrc : Src w size A m news) (h1 : ∀ u ∈ news, u.oneCell' = true)
    (hbytes : (n + m) * bytes ≤ 140737488355328) (h63 : n + m ≤ maxLen)
    (h : ∀ v' w', Slc w' e size v' (n + m) (xs ++ news) → Only (fun _ => False) w w' → v'.ownBlock = some w.heap.size → K (a.put o.dst v') w') : o.wp P a w K Q := by
  obtain ⟨v', w', hr, h2, h3, h4⟩ := run_append_fresh (P := P) w t o.type e i z size bytes ht hi hz hsize hby hzs hsz v n xs hown hfull A m c news hm0 hsrc h1 hbytes h63
  unfold Oper.wp execOp
  simp only [ho, resolve, invoke, builtin, Sem.run_bind, Sem.run_pure, Result.andThen_ok, List.map_toArray, List.map_cons, List.map_nil, hs, hx, hr]
  exact h v' w' h2 h3 h4
/-- The same as a step of a region that draws its order. -/
theorem step_append_fresh {ops : Array Oper} {o : Oper} {a : Act} {K : Act → World → Prop} {Q : Exit → Act → World → Prop} {E : Prop} (hgd : o.guard = none) (s x : Operand) (t : TypeId)
    (ho : o.op = .call { callee := .builtin .append, args := #[s, x], argTypes := #[t, t] })
    (e : TypeId) (i : TypeInfo) (z : Value) (size bytes : Nat) (ht : P.underlying t = some (.slice e)) (hi : P.info? e = some i) (hz : i.zero = some z)
    (hsize : i.size = size) (hby : i.bytes = bytes) (hzs : z.cells.size = size) (hsz : 0 < size)
    (v : Value) (n : Nat) (xs : List Value) (hs : a.eval s = v) (hown : Slc w e size v n xs) (hfull : ∀ A' c', v = .slice A' n c' → c' = n)
    (A : Option Addr) (m c : Nat) (news : List Value) (hm0 : 0 < m) (hx : a.eval x = .slice A m c) (hsrc : Src w size A m news) (h1 : ∀ u ∈ news, u.oneCell' = true)
    (hbytes : (n + m) * bytes ≤ 140737488355328) (h63 : n + m ≤ maxLen)
    (h : ∀ v' w', Slc w' e size v' (n + m) (xs ++ news) → Only (fun _ => False) w w' → v'.ownBlock = some w.heap.size → K (a.put o.dst v') w') :
    if Region.wanted o (yielded ops a.tmps) = true then Oper.wp P o a w K Q else E := by
  have hw : Region.wanted o (yielded ops a.tmps) = true := by simp [Region.wanted, hgd]
  rw [if_pos hw]
  exact wp_append_fresh w s x t ho e i z size bytes ht hi hz hsize hby hzs hsz v n xs hs hown hfull A m c news hm0 hx hsrc h1 hbytes h63 h
/-- append with room or without, as a step of a region that draws its order. -/
theorem step_append_slc {ops : Array Oper} {o : Oper} {a : Act} {K : Act → World → Prop} {Q : Exit → Act → World → Prop} {E : Prop} (hgd : o.guard = none) (s x : Operand) (t : TypeId)
    (ho : o.op = .call { callee := .builtin .append, args := #[s, x], argTypes := #[t, t] })
    (e : TypeId) (i : TypeInfo) (z : Value) (size bytes : Nat) (ht : P.underlying t = some (.slice e)) (hi : P.info? e = some i) (hz : i.zero = some z)
    (hsize : i.size = size) (hby : i.bytes = bytes) (hzs : z.cells.size = size) (hsz : 0 < size)
    (v : Value) (n : Nat) (xs : List Value) (hs : a.eval s = v) (hown : Slc w e size v n xs)
    (A : Option Addr) (m c : Nat) (news : List Value) (hx : a.eval x = .slice A m c) (hsrc : Src w size A m news) (h1 : ∀ u ∈ news, u.oneCell' = true)
    (hbytes : (n + m) * bytes ≤ 140737488355328) (h63 : n + m ≤ maxLen)
    (h : ∀ v' w', Slc w' e size v' (n + m) (xs ++ news) → Only (fun g => v.ownBlock = some g) w w' → (v'.ownBlock = v.ownBlock ∨ v'.ownBlock = some w.heap.size) → K (a.put o.dst v') w') :
    if Region.wanted o (yielded ops a.tmps) = true then Oper.wp P o a w K Q else E := by
  have hw : Region.wanted o (yielded ops a.tmps) = true := by simp [Region.wanted, hgd]
  rw [if_pos hw]
  exact wp_append_slc w s x t ho e i z size bytes ht hi hz hsize hby hzs hsz v n xs hs hown A m c news hx hsrc h1 hbytes h63 h
end
end Go.Proofs.Ytbdhmjlbogjkoaa
