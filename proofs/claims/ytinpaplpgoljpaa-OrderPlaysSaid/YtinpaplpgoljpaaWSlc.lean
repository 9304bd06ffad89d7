/- More of slices: cut longer, copied onto, grown by zeros. -/
import Derived.Test.YtinpaplpgoljpaaSlc
import Derived.Laws.CopyRow
import Derived.Laws.CopyOwn
import Derived.Lib.AppendZerosOnto
import Derived.Lib.Overlaps
namespace Go.Proofs.Ytinpaplpgoljpaa
open Go.RowKit
set_option linter.unusedVariables false
set_option linter.unusedSimpArgs false
section
variable {P : Program} {w w' : World} {e : TypeId} {size n : Nat} {xs : List Value}
/-- Cut longer, as far as there is room. -/
theorem Slc.extend {g off c : Nat} (h : Slc w e size (.slice (some ⟨g, off, none⟩) n c) n xs) {m : Nat} (hm : n + m ≤ c) : ∃ junk, junk.length = m * size ∧ Slc w e size (.slice (some ⟨g, off, none⟩) (n + m) c) (n + m) (xs ++ junk) := by
  obtain ⟨hl, h⟩ := h
  rcases h with ⟨h1, -⟩ | ⟨g', off', c', cs, hv, hh, hc, hx, hs, hj⟩
  · cases h1
  · injection hv with e1 e2 e3
    injection e1 with e1
    injection e1 with e4 e5
    subst e4 e5 e3
    have hb : (n + m) * size ≤ c * size := Nat.mul_le_mul_right _ hm
    rw [Nat.add_mul] at hb
    refine ⟨(cs.toList.drop (off + n * size)).take (m * size), ?_, ?_, .inr ⟨g, off, c, cs, rfl, hh, hm, hx, hs, fun j u hu => ?_⟩⟩
    · rw [List.length_take, List.length_drop, Array.length_toList]; omega
    · rw [List.length_append, hl, List.length_take, List.length_drop, Array.length_toList, Nat.add_mul]; omega
    · by_cases h2 : j < xs.length
      · rw [List.getElem?_append_left h2] at hu
        exact hj j u hu
      · rw [List.getElem?_append_right (by omega), List.getElem?_take] at hu
        split at hu
        · rw [List.getElem?_drop, Array.getElem?_toList] at hu
          rw [← hu]
          congr 1
          omega
        · cases hu
theorem run_copy_wide (w : World) (dT sT ty elem : TypeId) (size g o dLen dCap : Nat) (a : Addr) (sLen sCap : Nat) (cur : Array Value) (t : TypeId) (cs : List Value) (k : Nat)
    (hu : P.underlying dT = some (.slice elem)) (hs : (P.info? elem).map (·.size) = some size)
    (hg : w.heap[g]? = some (.cells cur t (0, 0))) (hk : Nat.min sLen dLen = k) (hn : cs.length = k * size)
    (hsrc : ∀ j v, cs[j]? = some v → w.cell? (a.add j) = some v) (hfit : o + cs.length ≤ cur.size) (h1 : ∀ v ∈ cs, v.oneCell' = true) :
    (Builtin.copy_ #[dT, sT] ty #[.slice (some ⟨g, o, none⟩) dLen dCap, .slice (some a) sLen sCap]).run P w =
      .ok (goInt k) (w.setRow g (cur.toList.take o ++ cs ++ cur.toList.drop (o + cs.length)).toArray) := by
  have hf := run_firstCells_some (P := P) w size k a sLen sCap cs hn hsrc
  have hst := run_storeCells_at P g o t cs 0 cur w hg (by simpa using hfit) h1
  simp only [Nat.add_zero] at hst
  cases hq : P.info? elem with
  | none => simp [hq] at hs
  | some i =>
    have hi : i.size = size := by simpa [hq] using hs
    simp [Builtin.copy_, run_underlying hu, Builtin.lenOf, sizeOf, typeInfo, hq, hi, hk, hf, hst]
/-- copy(s[p:..], src): a slice of one's own behind it. -/
theorem run_copy_slc {g off N c : Nat} (hown : Slc w e size (.slice (some ⟨g, off, none⟩) N c) N xs) (dT sT ty : TypeId) (hu : P.underlying dT = some (.slice e)) (hs : (P.info? e).map (·.size) = some size) (hsz : 0 < size)
    (p dl dc : Nat) (a : Addr) (sl sc : Nat) (cs : List Value) (k : Nat) (hk : Nat.min sl dl = k) (hn : cs.length = k * size) (hsrc : ∀ j v, cs[j]? = some v → w.cell? (a.add j) = some v) (hfit : p + k ≤ N) (h1 : ∀ v ∈ cs, v.oneCell' = true) :
    ∃ w', (Builtin.copy_ #[dT, sT] ty #[.slice (some ⟨g, off + p * size, none⟩) dl dc, .slice (some a) sl sc]).run P w = .ok (goInt k) w' ∧
      Slc w' e size (.slice (some ⟨g, off, none⟩) N c) N (xs.take (p * size) ++ cs ++ xs.drop (p * size + cs.length)) ∧ Only (fun b => (Value.slice (some ⟨g, off, none⟩) N c).ownBlock = some b) w w' := by
  obtain ⟨hl, h⟩ := hown
  rcases h with ⟨h1', -⟩ | ⟨g', off', c', cur, hv, hh, hc, hx, hfs, hj⟩
  · cases h1'
  · injection hv with e1 e2 e3
    injection e1 with e1
    injection e1 with e4 e5
    subst e4 e5 e3
    have hb : N * size ≤ c * size := Nat.mul_le_mul_right _ hc
    have hb2 : (p + k) * size ≤ N * size := Nat.mul_le_mul_right _ hfit
    rw [Nat.add_mul] at hb2
    have hr := run_copy_wide (P := P) w dT sT ty e size g (off + p * size) dl dc a sl sc cur e cs k hu hs hh hk hn hsrc (by omega) h1
    refine ⟨_, hr, ⟨?_, .inr ⟨g, off, c, _, rfl, setRow_heap w g cur _ e _ hh, hc, hx, ?_, fun j u hu => ?_⟩⟩, ⟨rfl, rfl, rfl, by simp, fun b _ hb => setRow_other w g b _ (fun e => hb (by simp [Value.ownBlock, e]))⟩⟩
    · simp only [List.length_append, List.length_take, List.length_drop, hl]; omega
    · simp only [List.size_toArray, List.length_append, List.length_take, List.length_drop, Array.length_toList]; omega
    · simp only [List.getElem?_toArray]
      have htl : (cur.toList.take (off + p * size)).length = off + p * size := by rw [List.length_take, Array.length_toList]; omega
      have hxl : (xs.take (p * size)).length = p * size := by rw [List.length_take, hl]; omega
      by_cases j1 : j < p * size
      · rw [List.append_assoc, List.getElem?_append_left (by rw [hxl]; exact j1), List.getElem?_take, if_pos j1] at hu
        rw [List.append_assoc, List.getElem?_append_left (by rw [htl]; omega), List.getElem?_take, if_pos (by omega), Array.getElem?_toList]
        exact hj j u hu
      · rw [List.append_assoc, List.getElem?_append_right (by rw [hxl]; omega), hxl] at hu
        rw [List.append_assoc, List.getElem?_append_right (by rw [htl]; omega), htl, show off + j - (off + p * size) = j - p * size by omega]
        by_cases j2 : j - p * size < cs.length
        · rw [List.getElem?_append_left j2] at hu ⊢
          exact hu
        · rw [List.getElem?_append_right (by omega), List.getElem?_drop] at hu ⊢
          rw [Array.getElem?_toList, show off + p * size + cs.length + (j - p * size - cs.length) = off + j by omega]
          refine hj j u ?_
          rwa [show p * size + cs.length + (j - p * size - cs.length) = j by omega] at hu
/-- Cells laid over a slice of one's own. -/
theorem Slc.over {g off N c : Nat} (hown : Slc w e size (.slice (some ⟨g, off, none⟩) N c) N xs) (p k : Nat) (cs : List Value) (hn : cs.length = k * size) (hfit : p + k ≤ N) :
    ∃ cur : Array Value, w.heap[g]? = some (.cells cur e (0, 0)) ∧ off + p * size + cs.length ≤ cur.size ∧
      Slc (w.setRow g (cur.toList.take (off + p * size) ++ cs ++ cur.toList.drop (off + p * size + cs.length)).toArray) e size (.slice (some ⟨g, off, none⟩) N c) N (xs.take (p * size) ++ cs ++ xs.drop (p * size + cs.length)) ∧
      Only (fun b => (Value.slice (some ⟨g, off, none⟩) N c).ownBlock = some b) w (w.setRow g (cur.toList.take (off + p * size) ++ cs ++ cur.toList.drop (off + p * size + cs.length)).toArray) := by
  obtain ⟨hl, h⟩ := hown
  rcases h with ⟨h1', -⟩ | ⟨g', off', c', cur, hv, hh, hc, hx, hfs, hj⟩
  · cases h1'
  · injection hv with e1 e2 e3
    injection e1 with e1
    injection e1 with e4 e5
    subst e4 e5 e3
    have hb : N * size ≤ c * size := Nat.mul_le_mul_right _ hc
    have hb2 : (p + k) * size ≤ N * size := Nat.mul_le_mul_right _ hfit
    rw [Nat.add_mul] at hb2
    refine ⟨cur, hh, by omega, ⟨?_, .inr ⟨g, off, c, _, rfl, setRow_heap w g cur _ e _ hh, hc, hx, ?_, fun j u hu => ?_⟩⟩, ⟨rfl, rfl, rfl, by simp, fun b _ hb => setRow_other w g b _ (fun e => hb (by simp [Value.ownBlock, e]))⟩⟩
    · simp only [List.length_append, List.length_take, List.length_drop, hl]; omega
    · simp only [List.size_toArray, List.length_append, List.length_take, List.length_drop, Array.length_toList]; omega
    · simp only [List.getElem?_toArray]
      have htl : (cur.toList.take (off + p * size)).length = off + p * size := by rw [List.length_take, Array.length_toList]; omega
      have hxl : (xs.take (p * size)).length = p * size := by rw [List.length_take, hl]; omega
      by_cases j1 : j < p * size
      · rw [List.append_assoc, List.getElem?_append_left (by rw [hxl]; exact j1), List.getElem?_take, if_pos j1] at hu
        rw [List.append_assoc, List.getElem?_append_left (by rw [htl]; omega), List.getElem?_take, if_pos (by omega), Array.getElem?_toList]
        exact hj j u hu
      · rw [List.append_assoc, List.getElem?_append_right (by rw [hxl]; omega), hxl] at hu
        rw [List.append_assoc, List.getElem?_append_right (by rw [htl]; omega), htl, show off + j - (off + p * size) = j - p * size by omega]
        by_cases j2 : j - p * size < cs.length
        · rw [List.getElem?_append_left j2] at hu ⊢
          exact hu
        · rw [List.getElem?_append_right (by omega), List.getElem?_drop] at hu ⊢
          rw [Array.getElem?_toList, show off + p * size + cs.length + (j - p * size - cs.length) = off + j by omega]
          refine hj j u ?_
          rwa [show p * size + cs.length + (j - p * size - cs.length) = j by omega] at hu
/-- append(s[:i], src...), over s itself. -/
theorem run_append_cut {g off N c : Nat} (hown : Slc w e size (.slice (some ⟨g, off, none⟩) N c) N xs) (t ty : TypeId) (info : TypeInfo) (ht : P.underlying t = some (.slice e)) (hi : P.info? e = some info) (hs : info.size = size)
    (i : Nat) (a : Addr) (m mc : Nat) (news : List Value) (hn : news.length = m * size) (hsrc : ∀ j v, news[j]? = some v → w.cell? (a.add j) = some v) (h1 : ∀ u ∈ news, u.oneCell' = true) (hfit : i + m ≤ N) :
    ∃ w', (Builtin.append_ #[t, t] ty #[.slice (some ⟨g, off, none⟩) i c, .slice (some a) m mc]).run P w = .ok (.slice (some ⟨g, off, none⟩) (i + m) c) w' ∧
      Slc w' e size (.slice (some ⟨g, off, none⟩) N c) N (xs.take (i * size) ++ news ++ xs.drop (i * size + news.length)) ∧ Only (fun b => (Value.slice (some ⟨g, off, none⟩) N c).ownBlock = some b) w w' := by
  obtain ⟨cur, hh, hf, hs2, ho⟩ := hown.over i m news hn hfit
  have hnc : N ≤ c := by obtain ⟨A, c2, e2, h⟩ := hown.shape; injection e2 with _ _ e3; omega
  subst hs
  exact ⟨_, run_append_at (P := P) w t ty e info ht hi g off i c cur hh a m mc news hn hsrc h1 (by omega) hf, hs2, ho⟩
/-- clear(s[p:p+k]). -/
theorem run_clear_slc {g off N c : Nat} (hown : Slc w e size (.slice (some ⟨g, off, none⟩) N c) N xs) (t : TypeId) (z : Value) (ht : P.underlying t = some (.slice e)) (hz : ∀ w, (zeroValue e).run P w = .ok z w) (hzs : z.cells.size = size) (hz1 : ∀ u ∈ z.cells.toList, u.oneCell' = true)
    (p k kc : Nat) (h0 : 0 < k) (hfit : p + k ≤ N) :
    ∃ w' zs, (∀ ty, (Builtin.clear_ #[t] ty #[.slice (some ⟨g, off + p * size, none⟩) k kc]).run P w = .ok (.tuple #[]) w') ∧ zs.length = k * size ∧
      Slc w' e size (.slice (some ⟨g, off, none⟩) N c) N (xs.take (p * size) ++ zs ++ xs.drop (p * size + zs.length)) ∧ Only (fun b => (Value.slice (some ⟨g, off, none⟩) N c).ownBlock = some b) w w' := by
  have hl : (Builtin.zeroCells z.cells k).toList.length = k * size := by rw [Array.length_toList, size_zeroCells, hzs]
  obtain ⟨cur, hh, hf, hs2, ho⟩ := hown.over p k (Builtin.zeroCells z.cells k).toList hl hfit
  refine ⟨_, (Builtin.zeroCells z.cells k).toList, fun ty => ?_, hl, hs2, ho⟩
  have hst := run_storeCells_at P g (off + p * size) e (Builtin.zeroCells z.cells k).toList 0 cur w hh (by simpa using hf) (fun u hu => hz1 u ?_)
  · simp only [Nat.add_zero] at hst
    obtain ⟨k, rfl⟩ : ∃ k', k = k' + 1 := ⟨k - 1, by omega⟩
    simp [Builtin.clear_, run_underlying ht, hz, hst]
  · simp only [Builtin.zeroCells, Array.toList_map, List.mem_map] at hu
    obtain ⟨j, hj, rfl⟩ := hu
    have h2 : j < k * z.cells.size := by simpa using hj
    have h3 : 0 < z.cells.size := by
      rcases Nat.eq_zero_or_pos z.cells.size with e | e
      · rw [e] at h2; omega
      · exact e
    have h4 : j % z.cells.size < z.cells.size := Nat.mod_lt _ h3
    rw [getElem!_pos z.cells _ h4]
    exact Array.mem_toList_iff.2 (Array.getElem_mem h4)
/-- append(s[:i], make(S, k)...), where it grows. -/
theorem run_zeros_slc {A : Option Addr} {i c : Nat} (hown : Slc w e size (.slice A i c) i xs) (t tn ty : TypeId) (info : TypeInfo) (z : Value) (kq kn : IntKind) (bytes : Nat) (ht : P.underlying t = some (.slice e)) (htn : P.underlying tn = some (.int kn)) (hi : P.info? e = some info) (hz : info.zero = some z)
    (hsize : info.size = size) (hby : info.bytes = bytes) (hzs : z.cells.size = size) (hsz : 0 < size)
    (k : Nat) (h0 : 0 < k) (hg : c < i + k) (hm : i + k ≤ 1000) (hbb : bytes ≤ 1000) :
    ∃ A' c' w' zs, (Builtin.append_ #[t, tn] ty #[.slice A i c, .int kq k]).run P w = .ok (.slice (some ⟨w.heap.size, 0, none⟩) (i + k) c') w' ∧ zs.length = k * size ∧ A' = (⟨w.heap.size, 0, none⟩ : Addr) ∧
      Slc w' e size (.slice (some ⟨w.heap.size, 0, none⟩) (i + k) c') (i + k) (xs ++ zs) ∧ Below w.heap.size w w' := by
  subst hsize hby
  have hold : (Builtin.firstCells info.size i (.slice A i c)).run P w.drew = .ok xs.toArray w.drew := by
    rcases hown.2 with ⟨hv, rfl⟩ | ⟨g, off, c', cs, hv, hh, hc, hx, hfs, hj⟩
    · injection hv with e1 e2 e3
      subst e1 e3
      have : xs = [] := List.eq_nil_of_length_eq_zero (by simpa using hown.1)
      subst this
      exact run_firstCells_none w.drew _ 0 0 _
    · injection hv with e1 e2 e3
      subst e1 e3
      refine run_firstCells_some w.drew info.size i ⟨g, off, none⟩ i c xs hown.1 fun j u hu => ?_
      rw [Addr.add_lit]
      exact (cell_of_row w.drew g (off + j) cs e (0, 0) hh).trans (hj j u hu)
  have hnc : Builtin.nextslicecap (i + k) c * info.bytes ≤ 281474976710656 := by
    refine growslice_fits hg ?_
    exact Nat.le_trans (Nat.mul_le_mul hm hbb) (by omega)
  have hr := Lib.run_append_grow_zeros (P := P) w t tn ty e info z kq kn ht htn hi hz A i c xs hold k h0 hsz hg (by omega) (Nat.le_trans (Nat.mul_le_mul (show k ≤ 1000 by omega) hbb) (by omega)) hnc
  have hge := grownCap_ge w (i + k) c e
  have hcm : grownCap w (i + k) c e ≤ maxLen := grownCap_le_maxLen w (i + k) c e (by simp only [maxLen]; omega)
  refine ⟨_, _, _, (Builtin.zeroCells z.cells k).toList, hr, by rw [Array.length_toList, size_zeroCells, hzs], rfl, ⟨?_, .inr ⟨w.heap.size, 0, _, _, rfl, heap_alloc_new w.drew _, hge, hcm, ?_, fun j u hu => ?_⟩⟩, (Below.refl w.heap.size w).drew.alloc (Nat.le_refl _) _⟩
  · rw [List.length_append, hown.1, Array.length_toList, size_zeroCells, hzs, Nat.add_mul]
  · simp only [Array.size_append, List.size_toArray, size_zeroCells, hzs, hown.1, ← Nat.add_mul]
    rw [Nat.zero_add, show i + k + (grownCap w (i + k) c e - (i + k)) = grownCap w (i + k) c e by omega]
    exact Nat.le_refl _
  · rw [Nat.zero_add, ← Array.getElem?_toList]
    simp only [Array.toList_append]
    rw [List.getElem?_append_left]
    · exact hu
    · exact (List.getElem?_eq_some_iff.1 hu).1
end
section
variable {P : Program}
theorem wp_copy_run (w : World) {o : Oper} {a : Act} {K : Act → World → Prop} {Q : Exit → Act → World → Prop} (d s : Operand) (t t' : TypeId)
    (ho : o.op = .call { callee := .builtin .copy, args := #[d, s], argTypes := #[t, t'] }) (v u : Value) (hd : a.eval d = v) (hs : a.eval s = u) {v' : Value} {w' : World}
    (hr : (Builtin.copy_ #[t, t'] o.type #[v, u]).run P w = .ok v' w') (h : K (a.put o.dst v') w') : o.wp P a w K Q := by
  unfold Oper.wp execOp
  simp only [ho, resolve, invoke, builtin, Sem.run_bind, Sem.run_pure, Result.andThen_ok, List.map_toArray, List.map_cons, List.map_nil, hd, hs, hr]
  exact h
theorem wpList_copy_run (w : World) {ops : Array Oper} {rest : List Oper} {o : Oper} {a : Act} {Q : Exit → Act → World → Prop} (hgd : o.guard = none) (d s : Operand) (t t' : TypeId)
    (ho : o.op = .call { callee := .builtin .copy, args := #[d, s], argTypes := #[t, t'] }) (v u : Value) (hd : a.eval d = v) (hs : a.eval s = u) {v' : Value} {w' : World}
    (hr : (Builtin.copy_ #[t, t'] o.type #[v, u]).run P w = .ok v' w') (h : wpList P ops Q rest (a.put o.dst v') w') : wpList P ops Q (o :: rest) a w :=
  wpList_plain hgd fun _ hK => wp_copy_run w d s t t' ho v u hd hs hr (hK _ _ h)
theorem step_copy_run {ops : Array Oper} {o : Oper} {a : Act} {w : World} {K : Act → World → Prop} {Q : Exit → Act → World → Prop} {E : Prop}
    (hg : o.guard = none) (d x : Operand) (dT sT : TypeId) (hop : o.op = Op.call { callee := Callee.builtin Builtin.copy, args := #[d, x], argTypes := #[dT, sT] })
    (v u : Value) (hd : a.eval d = v) (hx : a.eval x = u) {v' : Value} {w' : World} (hr : (Builtin.copy_ #[dT, sT] o.type #[v, u]).run P w = .ok v' w') (hK : K (a.put o.dst v') w') :
    if Region.wanted o (yielded ops a.tmps) = true then Oper.wp P o a w K Q else E := by
  have hw : Region.wanted o (yielded ops a.tmps) = true := by simp [Region.wanted, hg]
  rw [if_pos hw]
  exact wp_copy_run w d x dT sT hop v u hd hx hr hK
theorem step_append_run2 {ops : Array Oper} {o : Oper} {a : Act} {w : World} {K : Act → World → Prop} {Q : Exit → Act → World → Prop} {E : Prop}
    (hg : o.guard = none) (s x : Operand) (t tn : TypeId) (hop : o.op = Op.call { callee := Callee.builtin Builtin.append, args := #[s, x], argTypes := #[t, tn] })
    (v u : Value) (hs : a.eval s = v) (hx : a.eval x = u) {v' : Value} {w' : World} (hr : (Builtin.append_ #[t, tn] o.type #[v, u]).run P w = .ok v' w') (hK : K (a.put o.dst v') w') :
    if Region.wanted o (yielded ops a.tmps) = true then Oper.wp P o a w K Q else E := by
  have hw : Region.wanted o (yielded ops a.tmps) = true := by simp [Region.wanted, hg]
  rw [if_pos hw]
  exact Lib.wp_append_run w s x t tn hop v u hs hx v' w' hr hK
end
end Go.Proofs.Ytinpaplpgoljpaa
