/- Layer 7 (pool): what the first line of each law asks of closed numbers; a pool in the midst of other memory. -/
import Derived.Test.YtbhpdljfkcdnbaaPoolWrite
import Derived.Test.YtbhpdljfkcdnbaaPoolGet
import Derived.Test.YtbhpdljfkcdnbaaPoolNew
namespace Go.Proofs.Ytbhpdljfkcdnbaa
open Go.RowKit
set_option linter.unusedVariables false
set_option linter.unusedSimpArgs false
/-- A pool that was made behind base; what is told of it. -/
structure Pool (w : World) (base p : Nat) (P : Pl) (bs : List Bf) : Prop where
  is : IsP w P bs
  p : P.p = p
  low : ∀ i, P.all i → base ≤ i
theorem Pool.of_made {w w' : World} {base p : Nat} {bs : List Bf} (h : Made w base p bs w') : ∃ P, Pool w' base p P bs ∧ Below base w w' := by
  obtain ⟨P, h1, h2, h3, h4⟩ := h
  exact ⟨P, ⟨h2, h1, h3⟩, h4⟩
def S2 : Nat → Int := fun i => if i = 0 then 4 else 16
def C2 : Nat → Int := fun _ => 1
def b4 (g o r : Int) : Bf := ⟨g, o, r, List.replicate 4 0⟩
def b16 (g o r : Int) : Bf := ⟨g, o, r, List.replicate 16 0⟩
theorem bufs2 : bufsOf S2 C2 2 = [b4 1 0 0, b16 1 0 0] := by rfl
theorem may2 : mayC 2 S2 C2 := ⟨by omega, by omega, fun i hi => by
  rcases (show i = 0 ∨ i = 1 by omega) with rfl | rfl
  · decide
  · decide⟩
theorem cls2 (w : World) : Cls (w.alloc (.cells #[.int .i64 4, .int .i64 1, .int .i64 16, .int .i64 1] 26)) (some ⟨w.heap.size, 0, none⟩) 2 S2 C2 := by
  intro i hi
  have k := Blk.new w 26 [.int .i64 4, .int .i64 1, .int .i64 16, .int .i64 1]
  refine ⟨w.heap.size, 0, rfl, k.lt, ?_, ?_⟩
  · rcases (show i = 0 ∨ i = 1 by omega) with rfl | rfl
    · exact k.cell 0
    · exact k.cell 2
  · rcases (show i = 0 ∨ i = 1 by omega) with rfl | rfl
    · exact k.cell 1
    · exact k.cell 3
theorem get1 : getP 3 [b4 1 0 0, b16 1 0 0] = ((0, 1, 0), [b4 1 1 1, b16 1 0 0]) := by rfl
theorem get2 : getP 3 [b4 1 1 1, b16 1 0 0] = ((1, 1, 0), [b4 1 1 1, b16 1 1 1]) := by rfl
theorem get3 : getP 3 [b4 1 1 1, b16 1 1 1] = ((0, 0, 5), [b4 1 1 1, b16 1 1 1]) := by rfl
theorem give1 : giveQ 0 1 1 3 [b4 1 1 1, b16 1 1 1] = (0, [b4 1 3 1, b16 1 1 1]) := by rfl
theorem write1 : writeQ 0 1 1 0 [1] [b4 1 3 1, b16 1 1 1] = (8, [b4 1 3 1, b16 1 1 1]) := by rfl
theorem drop1 : dropQ 0 1 [b4 1 3 1, b16 1 1 1] = (8, [b4 1 3 1, b16 1 1 1]) := by rfl
theorem drop2 : dropQ 1 1 [b4 1 3 1, b16 1 1 1] = (0, [b4 1 3 1, b16 2 0 0]) := by rfl
theorem drop3 : dropQ 1 1 [b4 1 3 1, b16 2 0 0] = (3, [b4 1 3 1, b16 2 0 0]) := by rfl
theorem free1 : freeP [b4 1 3 1, b16 2 0 0] = 1 := by rfl
theorem len2 {g o r g' o' r' : Int} : ∀ b ∈ [b4 g o r, b16 g' o' r'], b.bytes.length ≤ 65536 := by
  intro b hb
  simp at hb
  rcases hb with rfl | rfl <;> simp [b4, b16]
set_option maxRecDepth 100000 in
set_option maxHeartbeats 8000000 in
theorem awake_any (w : World) : Calls Try.prog 8 #[] w fun e w' => e = .returned (.bool true) ∧ Below w.heap.size w w' := by
  have C0 := fun W hA => Lib.hid (newc_any W (some ⟨w.heap.size, 0, none⟩) 2 2 S2 C2 hA (fun i hi => by rcases (show i = 0 ∨ i = 1 by omega) with rfl | rfl <;> simp [S2, C2]) (by omega) may2)
  have CL := Lib.hid (cls2 w)
  have C1 := fun W P (k : IsP W P [b4 1 0 0, b16 1 0 0]) => Lib.hid (get1 ▸ getp_any k len2 (by simp) 3)
  have C2 := fun W P (k : IsP W P [b4 1 1 1, b16 1 0 0]) => Lib.hid (get2 ▸ getp_any k len2 (by simp) 3)
  have C3 := fun W P (k : IsP W P [b4 1 1 1, b16 1 1 1]) => Lib.hid (get3 ▸ getp_any k len2 (by simp) 3)
  have ok1 : ∀ b ∈ [b4 1 3 1, b16 1 1 1], b.ok 5 := by
    intro b hb
    simp at hb
    rcases hb with rfl | rfl <;> exact ⟨by simp [b4, b16], by simp [b4, b16], by simp [b4, b16], by simp [b4, b16], by simp [b4, b16], by simp [b4, b16], by simp [b4, b16], by simp [b4, b16], by simp [b4, b16]⟩
  have ok2 : ∀ b ∈ [b4 1 3 1, b16 2 0 0], b.ok 5 := by
    intro b hb
    simp at hb
    rcases hb with rfl | rfl <;> exact ⟨by simp [b4, b16], by simp [b4, b16], by simp [b4, b16], by simp [b4, b16], by simp [b4, b16], by simp [b4, b16], by simp [b4, b16], by simp [b4, b16], by simp [b4, b16]⟩
  have C4 := fun W P (k : IsP W P [b4 1 1 1, b16 1 1 1]) => Lib.hid (give1 ▸ givep_any k 0 1 1 3)
  have C5 := fun W P A (k : IsP W P [b4 1 3 1, b16 1 1 1]) (hs : Src W 1 A 1 [.int .u8 1]) => Lib.hid (write1 ▸ writep_any k 0 1 1 0 [1] A 1 len2 (by simp) (by omega) (by omega) hs)
  have C6 := fun W P (k : IsP W P [b4 1 3 1, b16 1 1 1]) => Lib.hid (drop1 ▸ dropp_any k 0 1 ok1 (by omega))
  have C7 := fun W P (k : IsP W P [b4 1 3 1, b16 1 1 1]) => Lib.hid (drop2 ▸ dropp_any k 1 1 ok1 (by omega))
  have C8 := fun W P (k : IsP W P [b4 1 3 1, b16 2 0 0]) => Lib.hid (drop3 ▸ dropp_any k 1 1 ok2 (by omega))
  have C9 := fun W P (k : IsP W P [b4 1 3 1, b16 2 0 0]) => Lib.hid (free1 ▸ freep_any k)
  have C10 := fun W P (k : IsP W P [b4 1 3 1, b16 2 0 0]) => Lib.hid (count_any k)
  clear ok1 ok2
  go_enter Try.func8, Try.ntmps8
  go_wp2_with (first
    | (go_at_call 10; (with_reducible refine Calls.mono (C0 _ CL).out ?_); rintro e w1 ⟨p, rfl, hm⟩
       obtain ⟨P, hP, bel⟩ := Pool.of_made hm
       obtain rfl := hP.p
       have K1 := Lib.hid hP.is
       have LOW := Lib.hid hP.low
       have HB1 := Lib.hid bel
       clear hm hP bel)
    | (go_at_call 12; (with_reducible refine Calls.mono (C1 _ _ K1.out).out ?_); rintro e w2 ⟨rfl, k2, o2⟩
       have LT := Lib.hid (fun i (h : P.own i) => K1.out.lt (.inr (.inr h)))
       have s2 := o2.size
       have K2 := Lib.hid k2
       have HB2 := Lib.hid (Below.onlyF HB1.out o2 (fun i h => LOW.out i (.inr (.inr h))))
       clear k2 o2)
    | (go_at_call 12; (with_reducible refine Calls.mono (C2 _ _ (K2.out.alloc _)).out ?_); rintro e w3 ⟨rfl, k3, o3⟩
       have s3 := o3.size
       simp only [World.size_alloc] at s3
       have K3 := Lib.hid k3
       have BA3 := Lib.hid ((Blk.new w2 34 [.int .i64 0, .int .u64 1]).only o3 (fun h => by have := LT.out _ h; omega))
       have HB3 := Lib.hid (Below.onlyF (HB2.out.alloc HB2.out.size _) o3 (fun i h => LOW.out i (.inr (.inr h))))
       clear k3 o3)
    | (go_at_call 12; (with_reducible refine Calls.mono (C3 _ _ (K3.out.alloc _)).out ?_); rintro e w4 ⟨rfl, k4, o4⟩
       have s4 := o4.size
       simp only [World.size_alloc] at s4
       have K4 := Lib.hid k4
       have BA4 := Lib.hid ((BA3.out.alloc _).only o4 (fun h => by have := LT.out _ h; omega))
       have BB4 := Lib.hid ((Blk.new w3 34 [.int .i64 1, .int .u64 1]).only o4 (fun h => by have := LT.out _ h; omega))
       have HB4 := Lib.hid (Below.onlyF (HB3.out.alloc HB3.out.size _) o4 (fun i h => LOW.out i (.inr (.inr h))))
       have a0 : w4.cell? ⟨w2.heap.size, 0, none⟩ = some (.int .i64 0) := BA4.out.cell 0
       have a1 : w4.cell? ⟨w2.heap.size, 1, none⟩ = some (.int .u64 1) := BA4.out.cell 1
       have h24 : w2.heap.size < w4.heap.size := by omega
       clear k4 o4)
    | (go_at_call 17; (with_reducible refine Calls.mono (C4 _ _ (K4.out.alloc _)).out ?_); rintro e w5 ⟨rfl, k5, o5⟩
       have s5 := o5.size
       simp only [World.size_alloc] at s5
       have K5 := Lib.hid k5
       have BA5 := Lib.hid ((BA4.out.alloc _).only o5 (fun h => by have := LT.out _ h; omega))
       have BB5 := Lib.hid ((BB4.out.alloc _).only o5 (fun h => by have := LT.out _ h; omega))
       have HB5 := Lib.hid (Below.onlyF (HB4.out.alloc HB4.out.size _) o5 (fun i h => LOW.out i (.inr (.inr h))))
       have a0 : w5.cell? ⟨w2.heap.size, 0, none⟩ = some (.int .i64 0) := BA5.out.cell 0
       have a1 : w5.cell? ⟨w2.heap.size, 1, none⟩ = some (.int .u64 1) := BA5.out.cell 1
       have h25 : w2.heap.size < w5.heap.size := by omega
       clear k5 o5)
    | (go_at_call 14; (with_reducible refine Calls.mono (C5 _ _ _ (K5.out.alloc _) (Src.one w5 5 (.int .u8 1))).out ?_); rintro e w6 ⟨rfl, k6, o6⟩
       have s6 := o6.size
       simp only [World.size_alloc] at s6
       have K6 := Lib.hid k6
       have BA6 := Lib.hid ((BA5.out.alloc _).only o6 (fun h => by have := LT.out _ h; omega))
       have BB6 := Lib.hid ((BB5.out.alloc _).only o6 (fun h => by have := LT.out _ h; omega))
       have HB6 := Lib.hid (Below.onlyF (HB5.out.alloc HB5.out.size _) o6 (fun i h => LOW.out i (.inr (.inr h))))
       have a0 : w6.cell? ⟨w2.heap.size, 0, none⟩ = some (.int .i64 0) := BA6.out.cell 0
       have a1 : w6.cell? ⟨w2.heap.size, 1, none⟩ = some (.int .u64 1) := BA6.out.cell 1
       have b0 : w6.cell? ⟨w3.heap.size, 0, none⟩ = some (.int .i64 1) := BB6.out.cell 0
       have b1 : w6.cell? ⟨w3.heap.size, 1, none⟩ = some (.int .u64 1) := BB6.out.cell 1
       clear k6 o6)
    | (go_at_call 20; (with_reducible refine Calls.mono (C6 _ _ K6.out).out ?_); rintro e w7 ⟨rfl, k7, o7⟩
       have s7 := o7.size
       have K7 := Lib.hid k7
       have BB7 := Lib.hid (BB6.out.only o7 (fun h => by have := LT.out _ h; omega))
       have HB7 := Lib.hid (Below.onlyF HB6.out o7 (fun i h => LOW.out i (.inr (.inr h))))
       have b0 : w7.cell? ⟨w3.heap.size, 0, none⟩ = some (.int .i64 1) := BB7.out.cell 0
       have b1 : w7.cell? ⟨w3.heap.size, 1, none⟩ = some (.int .u64 1) := BB7.out.cell 1
       clear k7 o7)
    | (go_at_call 20; (with_reducible refine Calls.mono (C7 _ _ K7.out).out ?_); rintro e w8 ⟨rfl, k8, o8⟩
       have s8 := o8.size
       have K8 := Lib.hid k8
       have BB8 := Lib.hid (BB7.out.only o8 (fun h => by have := LT.out _ h; omega))
       have HB8 := Lib.hid (Below.onlyF HB7.out o8 (fun i h => LOW.out i (.inr (.inr h))))
       have b0 : w8.cell? ⟨w3.heap.size, 0, none⟩ = some (.int .i64 1) := BB8.out.cell 0
       have b1 : w8.cell? ⟨w3.heap.size, 1, none⟩ = some (.int .u64 1) := BB8.out.cell 1
       clear k8 o8)
    | (go_at_call 20; (with_reducible refine Calls.mono (C8 _ _ K8.out).out ?_); rintro e w9 ⟨rfl, k9, o9⟩
       have K9 := Lib.hid k9
       have HB9 := Lib.hid (Below.onlyF HB8.out o9 (fun i h => LOW.out i (.inr (.inr h))))
       clear k9 o9)
    | (go_at_call 13; (with_reducible refine Calls.mono (C9 _ _ K9.out).out ?_); rintro e w10 ⟨rfl, rfl⟩)
    | (go_at_call 11; (with_reducible refine Calls.mono (C10 _ _ K9.out).out ?_); rintro e w11 ⟨rfl, n11, rfl⟩))
  go_ret
  exact ⟨rfl, Below.drewN' (Below.next ((Below.refl _ _).alloc (Nat.le_refl _) _) HB9.out) _⟩
end Go.Proofs.Ytbhpdljfkcdnbaa
