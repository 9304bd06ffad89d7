/- Layer 18 (order): All. -/
import Derived.Test.YtinpaplpgoljpaaOrderArg
import Derived.Lib.LazyBuf
namespace Go.Proofs.Ytinpaplpgoljpaa
open Go.RowKit
set_option linter.unusedVariables false
set_option linter.unusedSimpArgs false
def AllPost (w : World) (l : List Wt) (e : Ending) (w' : World) : Prop :=
  ∃ A c, e = .returned (.slice A l.length c) ∧ Slc w' 30 3 (.slice A l.length c) l.length (flatW l) ∧ Below w.heap.size w w'
set_option maxHeartbeats 1000000 in
theorem cloneW_any (w : World) (v : Value) (l : List Wt) (hs : Slc w 30 3 v l.length (flatW l)) (hn : l.length ≤ 64) :
    Calls Try.prog 35 #[v] w (AllPost w l) := by
  obtain ⟨A, c, rfl, hsrc⟩ := hs.src
  have hq : ∀ W, (binOp .eql 22 (.slice A l.length c) (.slice none 0 0)).run Try.prog W = .ok (.bool A.isNone) W := fun W => Go.run_eql_slice_nil W _ _ A l.length c (h := Try.underlying22)
  have HS := Lib.hid hs
  have SRC := Lib.hid hsrc
  clear hs hsrc
  cases A with
  | none =>
    go_enter Try.func35, Try.ntmps35
    go_wp2_with fail
    go_ret
    obtain ⟨hl1, h⟩ := HS.out
    rcases h with ⟨e, h0⟩ | ⟨g, off, c', cs, e, -⟩
    · injection e with q1 q2 q3
      have hs2 := HS.out
      rw [q3] at hs2
      refine ⟨none, 0, ?_, hs2, Below.refl _ _⟩
      show Ending.returned (.slice none 0 0) = .returned (.slice none l.length 0)
      rw [q2]
    · injection e with e; cases e
  | some A =>
    obtain ⟨i0, hi0, hz0, hz1, hz2⟩ := info_parts infoW
    have H1 := Lib.hid (flatW_cell l)
    go_enter Try.func35, Try.ntmps35
    go_wp2_with (at_builtin; refine wpList_append_slc _ rfl (.tmp 5) (.tmp 6) _ rfl 30 i0 _ 3 24 Try.underlying22 hi0 hz0 hz1 hz2 rfl (by omega) (.slice (some ⟨w.heap.size, 0, none⟩) 0 0) 0 [] rfl (Slc.new w 30 3) (some A) l.length c (flatW l) rfl (SRC.out.alloc _) H1.out (by omega) (by simp only [maxLen]; omega) ?_)
    intro v2 w2 hs2 ho2 hat2
    replace hs2 := (by simpa using hs2 : Slc w2 _ 3 v2 l.length (flatW l))
    obtain ⟨A4, c4, e4, -⟩ := hs2.shape
    subst e4
    have H2 := Lib.hid hs2
    have O2 := Lib.hid ho2
    clear hs2 ho2 hat2
    go_wp2_with fail
    go_ret
    have o2 := O2.out.size
    simp only [World.size_alloc] at o2
    exact ⟨_, _, rfl, H2.out, Below.trans ((Below.refl _ _).alloc (Nat.le_refl _) _) (O2.out.below (by simp) (fun i hi e => by simp [Value.ownBlock] at e; omega))⟩
theorem all_k {w : World} {p base : Nat} {Far : Nat → Prop} {l : List Wt} {h : Int} {d : Bool} (k : KeptQ w p base Far l h d) :
    Calls Try.prog 23 #[.pointer (some ⟨p, 0, none⟩)] w (AllPost w l) := by
  obtain ⟨Q, q, rfl, r, f⟩ := k
  have c0 : w.cell? ⟨Q.q, 0, none⟩ = some Q.v := q.blk.cell 0
  obtain ⟨A, c, ev, -⟩ := q.row.shape
  have C := Lib.hid (cloneW_any w _ l q.row q.len)
  rw [ev] at c0 C
  clear q r f ev
  go_enter Try.func23, Try.ntmps23
  go_wp2_with (go_at_call 35; (with_reducible refine Calls.mono C.out ?_); rintro e w1 ⟨A1, c1, rfl, hs, b⟩; have HS := Lib.hid hs; have B := Lib.hid b; clear hs b)
  go_ret
  exact ⟨_, _, rfl, HS.out, B.out⟩
end Go.Proofs.Ytinpaplpgoljpaa
