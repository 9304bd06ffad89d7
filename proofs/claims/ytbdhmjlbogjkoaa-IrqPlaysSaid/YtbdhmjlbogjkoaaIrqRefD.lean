/- The reference of layer 13: the time goes on. -/
import Derived.Test.YtbdhmjlbogjkoaaIrqRefC
import Derived.Test.YtbdhmjlbogjkoaaIrqLaw
namespace Go.Proofs.Ytbdhmjlbogjkoaa
open Go.RowKit
set_option linter.unusedVariables false
set_option linter.unusedSimpArgs false
structure AfterR (w : World) (q : Nat) (sv : Value) (av : List Av) (ls : List Ln) (Rs : List (List Int)) (T : Int) (w' : World) : Prop where
  ex : ∃ av', IsRI w' q sv av' ls Rs T T ∧ ∀ i, ownR q sv av' i → ownR q sv av i ∨ w.heap.size ≤ i
  only : Only (ownR q sv av) w w'
def RelRO (w : World) (q : Nat) (sv : Value) (av : List Av) (ls : List Ln) (Rs : List (List Int)) (T : Int) (iv : Value) (wr : World) : Prop :=
  ∃ i : Nat, iv = .int .i64 i ∧ i ≤ ls.length ∧ ∃ av', IsRI wr q sv av' (gone T ls i) Rs T T ∧ (∀ y, ownR q sv av' y → ownR q sv av y) ∧ Only (ownR q sv av) w wr
section
variable {w w' : World} {q : Nat} {sv : Value} {av : List Av} {ls : List Ln} {Rs : List (List Int)} {c now T : Int} {F : Nat → Prop}
theorem IsKR.far {b : Nat} {s : Bk} {p : Addr} (h : IsKR w b s) (hp : b ≠ p.block) (u : Value) : IsKR (w.setCell p u) b s := Blk.far h hp u
theorem IsKR.drew {b : Nat} {s : Bk} (h : IsKR w b s) : IsKR w.drew b s := h
theorem IsRI.mono (h : IsRI w q sv av ls Rs c now) (k : now ≤ T) : IsRI w q sv av ls Rs c T := ⟨h.blk, h.row, h.len, h.lenR, fun i a n R ha hn hR => (h.line i a n R ha hn hR).mono k, h.nx, h.ng, h.nk, h.dr⟩
theorem IsRI.time (h : IsRI w q sv av ls Rs c now) (t : Int) : IsRI (w.setCell ⟨q, 1, none⟩ (.int .u64 t)) q sv av ls Rs t now := by
  have o : Only (fun i => i = q) w (w.setCell ⟨q, 1, none⟩ (.int .u64 t)) := Only.setCell (Only.refl (fun i => i = q) w) (p := ⟨q, 1, none⟩) (fun _ => rfl) _
  refine ⟨h.blk.put 1 _, h.row.only o (fun i e f => ?_), h.len, h.lenR, fun i a n R ha hn hR => ?_, h.nx, h.ng, h.nk, h.dr⟩
  · subst f
    exact h.row.ne h.blk (by decide) e
  · have l := h.line i a n R ha hn hR
    obtain ⟨cg, gb⟩ := l.gblk
    obtain ⟨L, gs⟩ := l.gslc
    refine l.only o (fun y hy f => ?_)
    subst f
    rcases hy with e | e | e | e | e
    · exact h.blk.ne l.x.x (by decide) e
    · exact h.blk.ne gb (by decide) e
    · exact h.blk.ne l.x.k (by decide) e
    · exact l.r.ne h.blk (by decide) e
    · exact gs.ne h.blk (by decide) e
/-- The slice's own cell that tells of a line. -/
theorem IsRI.cells (h : IsRI w q sv av ls Rs c now) {i : Nat} {a : Av} (ha : av[i]? = some a) : ∃ g off cp, sv = .slice (some ⟨g, off, none⟩) av.length cp ∧ g < w.heap.size ∧ w.cell? ⟨g, off + i, none⟩ = some (.pointer (some ⟨a.x, 0, none⟩)) := by
  have hi := (List.getElem?_eq_some_iff.1 ha).1
  obtain ⟨g, off, cp, e, -, -, hg, hc, -⟩ := h.row.at_ (by omega)
  exact ⟨g, off, cp, e, hg, hc i _ (by rw [List.getElem?_map, ha]; rfl)⟩
/-- Behind a line's step. -/
theorem IsRI.step {n : Ln} {R : List Int} {i : Nat} {a : Av} {gv' : Value} (h : IsRI w q sv av ls Rs c T) (ha : av[i]? = some a) (hn : ls[i]? = some n) (hR : Rs[i]? = some R) (o : Only (fun j => j = a.x ∨ j = a.g ∨ j = a.k) w w')
    (hx : IsX w' a (stepL T n)) (hg : IsRv w' a.g gv' (stepL T n).g) (ok : (stepL T n).g.ok) (hv : gv' = a.gv ∨ gv' = .slice none 0 0) :
    IsRI w' q sv (av.set i { a with gv := gv' }) (ls.set i (stepL T n)) (Rs.set i R) c T ∧ ∀ y, ownR q sv (av.set i { a with gv := gv' }) y → ownR q sv av y := by
  have l := h.line i a n R ha hn hR
  have hv2 : ∀ j, gv'.ownBlock = some j → a.gv.ownBlock = some j := fun j e => by
    rcases hv with rfl | rfl
    · exact e
    · cases e
  refine ⟨h.turn ha o (fun j hj => hj.elim .inl fun e => .inr (e.elim .inl fun e => .inr (.inl e))) rfl rfl rfl (fun j e => .inl e) (fun j e => .inl (hv2 j e)) ⟨⟨hx.x, hx.k⟩, ⟨_, GE.refl ok, hg⟩, l.r.only o (fun j e f => ?_), fun j e f => l.nr j e (hv2 j f)⟩, fun y hy => ?_⟩
  · obtain ⟨cg, gb⟩ := l.gblk
    rcases f with rfl | rfl | rfl
    · exact l.r.ne l.x.x (by decide) e
    · exact l.r.ne gb (by decide) e
    · exact l.r.ne l.x.k (by decide) e
  · rcases hy with e | e | ⟨b, hb, e⟩
    · exact .inl e
    · exact .inr (.inl e)
    · rcases List.mem_or_eq_of_mem_set hb with hb | rfl
      · exact .inr (.inr ⟨b, hb, e⟩)
      · refine .inr (.inr ⟨a, List.mem_of_getElem? ha, ?_⟩)
        rcases e with e | e | e | e | e
        · exact .inl e
        · exact .inr (.inl e)
        · exact .inr (.inr (.inl e))
        · exact .inr (.inr (.inr (.inl e)))
        · exact .inr (.inr (.inr (.inr (hv2 y e))))
theorem set_same {α : Type} {l : List α} {i : Nat} {a : α} (h : l[i]? = some a) : l.set i a = l := by
  apply List.ext_getElem?
  intro j
  by_cases e : i = j
  · subst e; rw [List.getElem?_set_self (List.getElem?_eq_some_iff.1 h).1, h]
  · rw [List.getElem?_set_ne e]
set_option maxRecDepth 100000 in
set_option maxHeartbeats 4000000 in
theorem ron_ok {H : Int} (k : IsRI w q sv av ls Rs c c) (ok : ∀ n ∈ ls, n.ok H) (hH : H ≤ 1000000000) (hl16 : ls.length ≤ 16) (T : Int) (h0 : c ≤ T) (hn0 : 0 ≤ T) (h1 : T < 4611686018427387904) (no : Nat) (hno : no < ls.length) :
    Calls Try.prog 39 #[.pointer (some ⟨q, 0, none⟩), .int .u64 T, .int .i64 no] w fun e w' => e = .returned (.int .i64 0) ∧ AfterR w q sv av (ls.map (stepL T)) Rs T w' := by
  have K := Lib.hid k
  have OK := Lib.hid ok
  have hlen := k.len
  have c0 : w.cell? ⟨q, 0, none⟩ = some sv := k.blk.cell 0
  have c1 : w.cell? ⟨q, 1, none⟩ = some (.int .u64 c) := k.blk.cell 1
  have f1 : w.frozen? ⟨q, 1, none⟩ = false := k.blk.free 1
  have hq := k.blk.lt
  obtain ⟨A, cp, hsv, -⟩ := k.row.shape
  subst hsv
  have d1 : decide (4611686018427387904 ≤ T) = false := decide_eq_false (by omega)
  have d2 : decide (T < c) = false := decide_eq_false (by omega)
  have d3 : decide ((av.length : Int) ≤ no) = false := decide_eq_false (by omega)
  have d4 : decide ((no : Int) < 0) = false := decide_eq_false (by omega)
  have d5 : decide (av.length ≤ no) = false := decide_eq_false (by omega)
  have HLEN := Lib.hid hlen
  clear k ok hlen
  go_enter Try.func39, Try.ntmps39
  go_wp2_with fail
  go_loopw [7] (fun iv wr => Hid (RelRO w q (.slice A av.length cp) av ls Rs T iv wr)) (fun iv _ => av.length - (intOf iv).toNat)
  case atStart =>
    exact ⟨0, rfl, by omega, av, by rw [gone_zero]; exact ((K.out.mono h0).time T), fun _ h => h, Only.setCell (Only.refl (ownR q (.slice A av.length cp) av) w) (p := ⟨q, 1, none⟩) (fun _ => .inl rfl) _⟩
  case round =>
    obtain ⟨i, rfl, hi, av1, hk, hsub, ho⟩ := hrel
    have HK := Lib.hid hk
    have HSUB := Lib.hid hsub
    have HO := Lib.hid ho
    have hlen1 : av1.length = ls.length := by rw [hk.len, gone_length]
    have HL1 := Lib.hid hlen1
    have z0 : wr.cell? ⟨q, 0, none⟩ = some (.slice A av.length cp) := hk.blk.cell 0
    have z1 : wr.cell? ⟨q, 1, none⟩ = some (.int .u64 T) := hk.blk.cell 1
    have hqr := hk.blk.lt
    by_cases hin : i < ls.length
    · have hin2 : (i : Int) < av.length := by have := HLEN.out; omega
      have hin3 : i < av.length := by have := HLEN.out; omega
      obtain ⟨n, hn⟩ : ∃ n, ls[i]? = some n := ⟨_, List.getElem?_eq_getElem hin⟩
      have hgn : (gone T ls i)[i]? = some n := by rw [gone_at]; exact hn
      obtain ⟨a, n', R, ha, hn', hR, hl⟩ := hk.at_ (i := i) (by rw [gone_length]; exact hin)
      rw [hgn] at hn'
      injection hn' with hn'
      subst hn'
      obtain ⟨g, off, cp2, esv, hg, hcl⟩ := hk.cells ha
      injection esv with e1 e2 e3
      subst e1 e3
      clear e2
      have okn := OK.out n (List.mem_of_getElem? hn)
      have OKN := Lib.hid okn
      obtain ⟨g', hge, hgv⟩ := hl.g
      obtain ⟨cg, gb⟩ := hl.gblk
      have ng : a.x ≠ a.g := hl.x.x.ne gb (by decide)
      have nk : a.x ≠ a.k := hl.x.ne
      have ngk : a.g ≠ a.k := gb.ne hl.x.k (by decide)
      have nqx : q ≠ a.x := hk.blk.ne hl.x.x (by decide)
      have nqg : q ≠ a.g := hk.blk.ne gb (by decide)
      have nqk : q ≠ a.k := hk.blk.ne hl.x.k (by decide)
      have ngx : g ≠ a.x := fun e => (hk.row.ne hl.x.x (by decide)) (by rw [e]; rfl)
      have ngg : g ≠ a.g := fun e => (hk.row.ne gb (by decide)) (by rw [e]; rfl)
      have ngk2 : g ≠ a.k := fun e => (hk.row.ne hl.x.k (by decide)) (by rw [e]; rfl)
      have NE := Lib.hid (And.intro ng (And.intro nk (And.intro ngk (And.intro nqx (And.intro nqg (And.intro nqk (And.intro ngx (And.intro ngg ngk2))))))))
      have x6 : wr.cell? ⟨a.x, 6, none⟩ = some (.pointer (some ⟨a.g, 0, none⟩)) := hl.x.x.cell 6
      have x8 : wr.cell? ⟨a.x, 8, none⟩ = some (.int .i64 n.held) := hl.x.x.cell 8
      have y8 : wr.frozen? ⟨a.x, 8, none⟩ = false := hl.x.x.free 8
      have hxl := hl.x.x.lt
      have GC := Lib.hid (rgov_any hgv hge.1 T hn0 (by omega))
      obtain ⟨ge1, -⟩ := goF_GE hge (Int.le_refl T) h1
      have GE1 := Lib.hid ge1
      have HGE := Lib.hid hge
      have HX := Lib.hid hl.x
      have HHL := Lib.hid hl
      have HA := Lib.hid ha
      have HR := Lib.hid hR
      have HGN := Lib.hid hgn
      have gb1 := goF_bd okn.g T hn0
      have he0 := okn.e0
      have he1 := okn.e1
      rw [ge1] at GC
      obtain ⟨⟨dn, dc⟩, hd⟩ : ∃ d, (goF T n.g).1 = d := ⟨_, rfl⟩
      rw [hd] at GC gb1
      simp only at GC gb1
      have HD := Lib.hid hd
      have g1 : IntKind.i64.wrap ((i : Int) + 1) = i + 1 := IntWalk.i64_in _ (by omega)
      have g2 : IntKind.i64.wrap (n.held + dn) = n.held + dn := IntWalk.i64_in _ (by omega)
      obtain ⟨bd0, bd1, -⟩ := gb1
      have HLX := Lib.hid hlen1
      clear hk hsub ho hn hgn ha hR hl okn hge hgv gb ge1 hd hlen1 ng nk ngk nqx nqg nqk ngx ngg ngk2
      go_wp2_with fail
      go_at_call 50
      (with_reducible refine Calls.mono GC.out ?_)
      rintro e w1 ⟨rfl, ⟨gv', hgv1, hdis⟩, o1⟩
      obtain ⟨ng, nk, ngk, nqx, nqg, nqk, ngx, ngg, ngk2⟩ := NE.out
      have kx1 := HX.out.only o1 (fun e => ng e) (fun e => ngk e.symm)
      have k1 := HK.out.blk.only o1 nqg
      have x8b : w1.cell? ⟨a.x, 8, none⟩ = some (.int .i64 n.held) := kx1.x.cell 8
      have y8b : w1.frozen? ⟨a.x, 8, none⟩ = false := kx1.x.free 8
      have z0b : w1.cell? ⟨q, 0, none⟩ = some (.slice (some ⟨g, off, none⟩) av.length cp) := k1.cell 0
      have z1b : w1.cell? ⟨q, 1, none⟩ = some (.int .u64 T) := k1.cell 1
      have hqb := k1.lt
      have hxb := kx1.x.lt
      have hclb : w1.cell? ⟨g, off + i, none⟩ = some (.pointer (some ⟨a.x, 0, none⟩)) := by
        unfold World.cell? at hcl ⊢
        rw [o1.block g hg ngg]
        exact hcl
      have hgb := Nat.lt_of_lt_of_le hg o1.size
      have KX1 := Lib.hid kx1
      have K1B := Lib.hid k1
      have GV1 := Lib.hid hgv1
      have O1 := Lib.hid o1
      have HDIS := Lib.hid hdis
      have okn2 : Ln.ok (H + 1000) { n with g := (goF T n.g).2, held := n.held + dn } := ⟨OKN.out.l, (goF_bd OKN.out.g T hn0).2.2, OKN.out.k, by simp only; omega, by simp only; omega, OKN.out.p0, by have := OKN.out.p1; simp only; omega, OKN.out.w0, OKN.out.w1, OKN.out.r0, by have := OKN.out.r1; simp only; omega⟩
      have hst : deliverL T { n with g := (goF T n.g).2, held := n.held + dn } = stepL T n := by unfold stepL; rw [HD.out]
      have DL := fun W (hx : IsX W a { n with g := (goF T n.g).2, held := n.held + dn }) hq => rdeliver_any hx okn2 q T hn0 (by omega) hq
      rw [hst] at DL
      have hx2 : IsX (w1.setCell ⟨a.x, 8, none⟩ (.int .i64 (n.held + dn))).drew a { n with g := (goF T n.g).2, held := n.held + dn } := ⟨(kx1.x.put 8 (.int .i64 (n.held + dn))).drew, IsKR.drew (IsKR.far kx1.k (fun e => nk e.symm) _)⟩
      have hq2 : (w1.setCell ⟨a.x, 8, none⟩ (.int .i64 (n.held + dn))).drew.cell? ⟨q, 1, none⟩ = some (.int .u64 T) := (k1.far (p := ⟨a.x, 8, none⟩) nqx (.int .i64 (n.held + dn))).drew.cell 1
      have DLH := Lib.hid (DL _ hx2 hq2)
      clear hx2 hq2
      have nqx2 : (q == a.x) = false := beq_eq_false_iff_ne.2 nqx
      have ngx2 : (g == a.x) = false := beq_eq_false_iff_ne.2 ngx
      clear kx1 k1 o1 hgv1 hdis ng nk ngk nqg nqk ngg ngk2 GC DL hst okn2
      go_wp2_with fail
      go_region
      go_wp2_with fail
      go_at_call 41
      (with_reducible refine Calls.mono DLH.out ?_)
      rintro e w3 ⟨rfl, hx3, o3⟩
      have HX3 := Lib.hid hx3
      have O3 := Lib.hid o3
      clear hx3 o3
      go_wp2_with fail
      go_roundw
      case rel =>
        obtain ⟨ng, nk, ngk, nqx, nqg, nqk, ngx, ngg, ngk2⟩ := NE.out
        have oa : Only (fun j => j = a.x ∨ j = a.k) w1 w3 := (Only.setCell (Only.refl (fun j => j = a.x ∨ j = a.k) w1) (p := ⟨a.x, 8, none⟩) (fun _ => .inl rfl) (.int .i64 (n.held + dn))).drew.trans O3.out (fun _ _ h => h)
        have ob : Only (fun j => j = a.x ∨ j = a.g ∨ j = a.k) wr w3 := (O1.out.mono (G := fun j => j = a.x ∨ j = a.g ∨ j = a.k) (fun _ _ e => .inr (.inl e))).trans oa (fun _ _ e => e.elim .inl fun e => .inr (.inr e))
        have hgv3 : IsRv w3 a.g gv' (goF T g').2 := GV1.out.only oa (fun e => e.elim (fun e => ng e.symm) ngk) (fun y e f => by
          obtain ⟨L, -, hs, -⟩ := GV1.out
          rcases f with rfl | rfl
          · exact hs.ne KX1.out.x (by decide) e
          · exact hs.ne KX1.out.k (by decide) e)
        have hgs : (stepL T n).g = (goF T n.g).2 := (deliverL_fix T _).2.1
        have hok := (goF_bd OKN.out.g T hn0).2.2
        have hst2 := IsRI.step HK.out HA.out HGN.out HR.out ob HX3.out (by rw [hgs]; exact hgv3.gone HGE.out (Int.le_refl T) h1) (by rw [hgs]; exact hok) HDIS.out
        rw [gone_next T ls (by rw [← gone_at T ls i]; exact HGN.out), set_same HR.out] at hst2
        refine ⟨i + 1, by go_num, by omega, _, hst2.1, fun y hy => HSUB.out y (hst2.2 y hy), HO.out.trans ob (fun y _ f => HSUB.out y (.inr (.inr ⟨a, List.mem_of_getElem? HA.out, ?_⟩)))⟩
        rcases f with e | e | e
        · exact .inl e
        · exact .inr (.inl e)
        · exact .inr (.inr (.inl e))
      case measure => simp [intOf]; omega
    · have hie : i = av.length := by have := HLEN.out; omega
      subst hie
      have hin2 : ¬ ((av.length : Nat) : Int) < av.length := by omega
      clear hk hsub ho
      go_wp2_with fail
      go_ret
      refine ⟨rfl, ⟨⟨av1, ?_, fun y hy => .inl (HSUB.out y hy)⟩, HO.out⟩⟩
      have := HK.out
      rw [HLEN.out, gone_all] at this
      rw [HLEN.out]
      exact this
end
end Go.Proofs.Ytbdhmjlbogjkoaa
