/- Layer 8 (pieces): awake. -/
import Derived.Test.YtajcjepolfmhmaaPcAwake
namespace Go.Proofs.Ytajcjepolfmhmaa
open Go.RowKit
set_option linter.unusedVariables false
set_option linter.unusedSimpArgs false
abbrev oH : Obj := .cells #[.int .i64 0, .int .u64 1] 40
abbrev oP : Obj := .cells #[.int .i64 0, .int .u64 1, .int .i64 0, .int .i64 3, .int .i64 0, .int .u64 1, .int .i64 5, .int .i64 3] 42
abbrev cB : Array Value := #[.int .u8 97, .int .u8 98, .int .u8 99, .int .u8 100, .int .u8 101]
theorem conv_row (w1 : World) : (convert 23 23 (.slice (some ⟨w1.heap.size + 1 + 1, 0, none⟩) 5 5)).run Try.prog (((w1.alloc oH).alloc oP).alloc (.cells cB 5)) = .ok (.slice (some ⟨w1.heap.size + 1 + 1, 0, none⟩) 5 5) (((w1.alloc oH).alloc oP).alloc (.cells cB 5 (5, 6))) := by
  have := Lib.run_convert_bytes_const (P := Try.prog) ((w1.alloc oH).alloc oP) 23 5 cB 5 5 Try.underlying23 Try.underlying5
  rw [World.size_alloc, World.size_alloc] at this
  exact this
theorem rowB (W : World) : Src (W.alloc (.cells cB 5 (5, 6))) 1 (some ⟨W.heap.size, 0, none⟩) 5 (byteCells LA) := by
  refine ⟨rfl, .inr ⟨_, rfl, fun j u hu => ?_⟩⟩
  have e : (⟨W.heap.size, 0, none⟩ : Addr).add j = ⟨W.heap.size, j, none⟩ := by cases j <;> simp [Addr.add]
  have hh : (W.alloc (.cells cB 5 (5, 6))).heap[W.heap.size]? = some (.cells cB 5 (5, 6)) := by
    show (W.heap.push _)[W.heap.size]? = _
    simp
  rw [e]
  unfold World.cell?
  rw [hh]
  have h2 : cB[j]? = (byteCells LA)[j]? := by rw [show cB = (byteCells LA).toArray from rfl, List.getElem?_toArray]
  exact h2.trans hu
def AwPost (w : World) (e : Ending) (w' : World) : Prop := e = .returned (.bool true) ∧ Below w.heap.size w w'
set_option maxRecDepth 100000 in
set_option maxHeartbeats 4000000 in
theorem awake_any (w : World) : Calls Try.prog 7 #[] w (AwPost w) := by
  go_enter Try.func7, Try.ntmps7
  go_wp2_with fail
  go_at_call 8
  (with_reducible refine Calls.mono (both_any _) ?_)
  rintro e w1 ⟨P, r, rfl, kP, hall, b1⟩
  have hb2 : Below w.heap.size w (((w1.alloc oH).alloc oP).alloc (.cells cB 5 (5, 6))) := ((b1.alloc b1.size _).alloc (by have := b1.size; simp; omega) _).alloc (by have := b1.size; simp; omega) _
  have k2 := ((kP.alloc oH).alloc oP).alloc (.cells cB 5 (5, 6))
  have bp : Blk (((w1.alloc oH).alloc oP).alloc (.cells cB 5 (5, 6))) (w1.heap.size + 1) 42 (flatP psA) := by
    have := (Blk.new (w1.alloc oH) 42 (flatP psA)).alloc (.cells cB 5 (5, 6))
    rw [World.size_alloc] at this
    exact this
  have hsr : Src (((w1.alloc oH).alloc oP).alloc (.cells cB 5 (5, 6))) 1 (some ⟨w1.heap.size + 1 + 1, 0, none⟩) 5 (byteCells LA) := by
    have := rowB ((w1.alloc oH).alloc oP)
    rw [World.size_alloc, World.size_alloc] at this
    exact this
  have hlt : ∀ i, P.all i → i < w1.heap.size := fun i h => kP.lt h
  have kc := conv_row w1
  have SC : Hid (Calls Try.prog 10 #[.pointer (some ⟨P.p, 0, none⟩), .slice (some ⟨w1.heap.size + 1, 0, none⟩) 2 2, .int .i64 1, .slice (some ⟨w1.heap.size + 1 + 1, 0, none⟩) 5 5] (((w1.alloc oH).alloc oP).alloc (.cells cB 5 (5, 6))) fun e w' => ∃ r, scatQ bs6 psA 1 LA r ∧ e = .returned (.tuple #[.int .i64 r.1, .int .i64 r.2.1]) ∧ IsP w' P r.2.2 ∧ Only P.own (((w1.alloc oH).alloc oP).alloc (.cells cB 5 (5, 6))) w') :=
    scatter_any k2 bs6_bytes (some ⟨w1.heap.size + 1, 0, none⟩) 2 2 psA rfl (by omega) (by omega) (PsAt.blk bp) (fun a e => by injection e with e; subst e; exact ⟨bp.lt, fun h => by have h2 : w1.heap.size + 1 < w1.heap.size := hlt _ h; omega⟩) (fun h => by omega) 1 (some ⟨w1.heap.size + 1 + 1, 0, none⟩) 5 LA (by decide) (by decide) hsr (fun a e => by injection e with e; subst e; exact ⟨rfl, by simp, fun h => by have h2 : w1.heap.size + 1 + 1 < w1.heap.size := hlt _ h; omega⟩)
  have ALL := Lib.hid hall
  have BP := Lib.hid bp
  have B2 := Lib.hid hb2
  have LT := Lib.hid hlt
  clear kP hall b1 k2 bp hsr hlt hb2
  go_wp2_with fail
  go_at_call 10
  (with_reducible refine Calls.mono SC.out ?_)
  rintro e w3 ⟨rr, hr, rfl, k3, o3⟩
  obtain rfl := scatA hr
  have BP3 := Lib.hid (BP.out.only o3 (fun h => by have h2 : w1.heap.size + 1 < w1.heap.size := LT.out _ (.inr (.inr h)); omega))
  have B3 := Lib.hid (Below.onlyF B2.out o3 (fun i h => ALL.out i (.inr (.inr h))))
  have K3 := Lib.hid k3
  have GA := Lib.hid (gather_any k3 bs7_bytes (some ⟨w1.heap.size + 1, 0, none⟩) 2 2 psA rfl (by omega) (by omega) (PsAt.blk BP3.out) (by
    intro x hx
    have hx : x = ⟨0, 1, 0, 3⟩ ∨ x = ⟨0, 1, 5, 3⟩ := by simpa [psA] using hx
    rcases hx with rfl | rfl <;> exact ⟨⟨by decide, by decide⟩, ⟨by decide, by decide⟩, ⟨by decide, by decide⟩, by decide, by decide⟩) (fun h => by omega))
  clear k3 o3 hr SC B2 BP
  go_wp2_with fail
  go_at_call 11
  (with_reducible refine Calls.mono GA.out ?_)
  rintro e w4 ⟨A4, m4, c4, code, rfl, b4, hq⟩
  have hq : code = 0 ∧ m4 = 6 ∧ Slc w4 5 1 (.slice A4 6 c4) 6 (byteCells [97, 98, 99, 100, 101, 0]) := by
    rcases hq with ⟨h, -⟩ | ⟨-, h1, h2, h3, -⟩
    · exact (h may7A).elim
    · have e2 : gatherF bs7 psA psA.length = [97, 98, 99, 100, 101, 0] := gath7A
      rw [e2] at h2 h3
      obtain rfl : m4 = 6 := h2
      exact ⟨h1, rfl, h3⟩
  obtain ⟨rfl, rfl, hs4⟩ := hq
  have BP4 := Lib.hid (BP3.out.below b4 BP3.out.lt)
  have K4 := Lib.hid (K3.out.below b4)
  have B4 := Lib.hid (Below.next B3.out b4)
  have S4 := Lib.hid hs4
  have FI := Lib.hid (find_any w4 (some ⟨w1.heap.size + 1, 0, none⟩) 2 2 psA rfl (by omega) (PsAt.blk BP4.out) (fun a e => by injection e with e; subst e; exact BP4.out.lt) 4 (by decide) (by decide))
  clear b4 hs4 GA K3 BP3 B3
  go_wp2_with fail
  go_at_call 14
  (with_reducible refine Calls.mono FI.out ?_)
  rintro e w5 ⟨hf, b5⟩
  obtain rfl := findA hf
  have BP5 := Lib.hid (BP4.out.below b5 BP4.out.lt)
  have K5 := Lib.hid (K4.out.below b5)
  have B5 := Lib.hid (Below.next B4.out b5)
  have hs5 := S4.out.below b5 (fun g hg => S4.out.lt hg)
  obtain ⟨g5, o5, c5, e5, hc5, hcm, hg5, hcell, hfr⟩ := hs5.at_ (by omega)
  injection e5 with e5 _ e6
  subst e5 e6
  have hz : w5.cell? ⟨g5, o5 + 5, none⟩ = some (.int .u8 0) := hcell 5 _ rfl
  have kv : (convert 23 9 (.slice (some ⟨g5, o5, none⟩) 5 c4)).run Try.prog w5 = .ok (.string ⟨#[97, 98, 99, 100, 101]⟩) w5 := run_convert_bytes_arg (P := Try.prog) w5 23 5 Try.underlying23 Try.underlying5 g5 o5 5 c4 LA rfl (fun i hi => by
    rcases (show i = 0 ∨ i = 1 ∨ i = 2 ∨ i = 3 ∨ i = 4 by omega) with rfl | rfl | rfl | rfl | rfl
    · exact hcell 0 _ rfl
    · exact hcell 1 _ rfl
    · exact hcell 2 _ rfl
    · exact hcell 3 _ rfl
    · exact hcell 4 _ rfl) 9 Try.underlying9
  have LN := Lib.hid (len_any w5 (some ⟨w1.heap.size + 1, 0, none⟩) 2 2 psA rfl (by omega) (PsAt.blk BP5.out) (fun a e => by injection e with e; subst e; exact BP5.out.lt))
  have hcs : (5 : Int) ≤ (c4 : Int) := by omega
  clear b5 hs5 hcell hfr hf FI S4 K4 BP4 B4
  go_wp2_with fail
  go_at_call 12
  (with_reducible refine Calls.mono LN.out ?_)
  rintro e w6 ⟨rfl, b6⟩
  have B6 := Lib.hid (Below.next B5.out b6)
  have BP6 := Lib.hid (BP5.out.below b6 BP5.out.lt)
  have GV := Lib.hid (give_any (K5.out.below b6) bs7_bytes (some ⟨w1.heap.size + 1, 0, none⟩) 2 2 psA rfl (by omega) (by omega) (PsAt.blk BP6.out) (fun h => by omega) 2 1)
  have hat : atP psA 2 = 6 := by decide
  rw [hat]
  clear b6 LN BP5 B5 K5
  go_wp2_with fail
  go_at_call 16
  (with_reducible refine Calls.mono GV.out ?_)
  rintro e w7 ⟨rr, hr, rfl, -, o7⟩
  obtain rfl := giveA hr
  have B7 := Lib.hid (Below.onlyF B6.out o7 (fun i h => ALL.out i (.inr (.inr h))))
  clear o7 hr GV
  go_wp2_with fail
  go_ret
  exact ⟨rfl, B7.out⟩
end Go.Proofs.Ytajcjepolfmhmaa
