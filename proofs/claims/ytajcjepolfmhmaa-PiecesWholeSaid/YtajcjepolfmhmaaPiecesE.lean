/- Layer 8 (pieces): whether all are one's; Bufs. -/
import Derived.Test.YtajcjepolfmhmaaPiecesB
namespace Go.Proofs.Ytajcjepolfmhmaa
open Go.RowKit
set_option linter.unusedVariables false
set_option linter.unusedSimpArgs false
/-- Whether a piece's buffer isn't by's. -/
def notBy (bs : List Bf) (by_ : Int) (x : Pc) : Bool := (ownerQ x.s x.g bs).2.2 != 0 || (ownerQ x.s x.g bs).1 != by_
def allB (bs : List Bf) (l : List Pc) (by_ : Int) : Bool := !anyB (notBy bs by_) l
set_option maxHeartbeats 1000000 in
theorem all1_any {w : World} {P : Pl} {bs : List Bf} (k : IsP w P bs) (by_ : Int) {B1 B2 : Nat} (h1 : Blk w B1 25 [.pointer (some ⟨P.p, 0, none⟩)]) (h2 : Blk w B2 3 [.int .i64 by_]) (x : Pc) :
    Calls Try.prog 40 #[pcv x, .pointer (some ⟨B1, 0, none⟩), .pointer (some ⟨B2, 0, none⟩)] w fun e w' => e = .returned (.bool (notBy bs by_ x)) ∧ Below w.heap.size w w' := by
  have hb : ∀ r : Bool, notBy bs by_ x = r → Hid (notBy bs by_ x = r) := fun r h => h
  have bw : Below w.heap.size w (w.alloc (.cells ⟨pcc x⟩ 42)) := (Below.refl _ _).alloc (Nat.le_refl _) _
  have OW := Lib.hid (ownerp_any (k.below bw) x.s x.g)
  have BW := Lib.hid bw
  have H2 := Lib.hid (h2.alloc (.cells ⟨pcc x⟩ 42))
  have c1 := h1.cell 0
  have l1 := h1.lt
  obtain ⟨a1, a2, a3, a4⟩ := x
  unfold notBy at hb ⊢
  unfold pcv
  unfold pcc at *
  simp only at hb OW BW H2 ⊢
  obtain ⟨⟨ow, rf, cd⟩, hs⟩ : ∃ r, ownerQ a1 a2 bs = r := ⟨_, rfl⟩
  rw [hs] at hb OW ⊢
  simp only at hb OW ⊢
  clear k hs bw h1 h2
  by_cases e1 : cd = 0
  · subst e1
    have E := hb (ow != by_) (by simp)
    clear hb
    go_enter Try.func40, Try.ntmps40
    go_wp2_with (go_at_call 17; (with_reducible refine Calls.mono OW.out ?_); rintro e w1 ⟨rfl, k1, b1⟩; have x2 := (H2.out.below b1 H2.out.lt).cell 0; have xl := (H2.out.below b1 H2.out.lt).lt; have B1 := Lib.hid (Below.next BW.out b1); clear k1 b1)
    go_ret
    exact ⟨retb E.out.symm, B1.out⟩
  · have d1 : (cd != 0) = true := bne_iff_ne.2 e1
    have E := hb true (by simp [e1])
    clear hb e1
    go_enter Try.func40, Try.ntmps40
    go_wp2_with (go_at_call 17; (with_reducible refine Calls.mono OW.out ?_); rintro e w1 ⟨rfl, k1, b1⟩; have x2 := (H2.out.below b1 H2.out.lt).cell 0; have xl := (H2.out.below b1 H2.out.lt).lt; have B1 := Lib.hid (Below.next BW.out b1); clear k1 b1)
    go_ret
    exact ⟨retb E.out.symm, B1.out⟩
set_option maxHeartbeats 1000000 in
theorem alll_any {w : World} {P : Pl} {bs : List Bf} (k : IsP w P bs) (A : Option Addr) (n c : Nat) (l : List Pc) (hs : PsAt w A l) (hn : l.length = n) (hn16 : n ≤ 1000) (by_ : Int) :
    Calls Try.prog 27 #[.pointer (some ⟨P.p, 0, none⟩), .slice A n c, .int .i64 by_] w fun e w' => e = .returned (.bool (allB bs l by_)) ∧ Below w.heap.size w w' := by
  have hmf : ∀ (fn : Fn) (first cap : Array Value) (w : World), (Instr.makeFunc fn first cap).run Try.prog w = .ok (.func fn first cap) w := fun _ _ _ _ => rfl
  have bw : Below w.heap.size w ((w.alloc (.cells #[.pointer (some ⟨P.p, 0, none⟩)] 25)).alloc (.cells #[.int .i64 by_] 3)) := ((Below.refl _ _).alloc (Nat.le_refl _) _).alloc (by simp) _
  have h1 : Blk ((w.alloc (.cells #[.pointer (some ⟨P.p, 0, none⟩)] 25)).alloc (.cells #[.int .i64 by_] 3)) w.heap.size 25 [.pointer (some ⟨P.p, 0, none⟩)] := (Blk.new w 25 [.pointer (some ⟨P.p, 0, none⟩)]).alloc _
  have h2 := Blk.new (w.alloc (.cells #[.pointer (some ⟨P.p, 0, none⟩)] 25)) 3 [.int .i64 by_]
  rw [World.size_alloc] at h2
  have C := Lib.hid (contains_all _ A n c l (hs.below bw) hn hn16 (notBy bs by_) #[.pointer (some ⟨w.heap.size, 0, none⟩), .pointer (some ⟨w.heap.size + 1, 0, none⟩)]
    (fun W x _ o => all1_any ((k.below bw).below o) by_ (h1.below o h1.lt) (h2.below o h2.lt) x))
  have BW := Lib.hid bw
  obtain ⟨m, hm⟩ : ∃ m, anyB (notBy bs by_) l = m := ⟨_, rfl⟩
  unfold allB
  rw [hm] at C ⊢
  clear k hs bw h1 h2 hm hn hn16
  go_enter Try.func27, Try.ntmps27
  go_wp2_with (go_at_call 24; (with_reducible refine Calls.mono C.out ?_); rintro e w1 ⟨rfl, b1⟩; have B1 := Lib.hid (Below.next BW.out b1); clear b1)
  go_ret
  exact ⟨rfl, B1.out⟩
end Go.Proofs.Ytajcjepolfmhmaa
