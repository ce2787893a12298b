/- Do: the walk, over what its closure does. -/
import Derived.Test.YtndldoamadmphaaMd12
namespace Go.Proofs.Ytndldoamadmphaa
open Go.RowKit
def boxed (w : World) (m : Nat) (g : Int) : World := ((w.alloc (.cells #[.pointer (some ⟨m, 0, none⟩)] 29)).alloc (.cells #[.int .i64 g] 3)).alloc (.cells #[.int .i64 0, .int .i64 0, .int .i64 0, .int .i64 0, .int .i64 0, .bool false] 34)
theorem boxed_at (w : World) (m : Nat) (g : Int) : Blk (boxed w m g) w.heap.size 29 #[.pointer (some ⟨m, 0, none⟩)] ∧ Blk (boxed w m g) (w.heap.size + 1) 3 #[.int .i64 g] ∧ Blk (boxed w m g) (w.heap.size + 1 + 1) 34 #[.int .i64 0, .int .i64 0, .int .i64 0, .int .i64 0, .int .i64 0, .bool false] :=
  ⟨((Blk.new' w _ _ rfl).alloc _).alloc _, (Blk.new' (w.alloc (.cells #[.pointer (some ⟨m, 0, none⟩)] 29)) _ _ (by simp [go_sem])).alloc _, Blk.new' ((w.alloc (.cells #[.pointer (some ⟨m, 0, none⟩)] 29)).alloc (.cells #[.int .i64 g] 3)) _ _ (by simp [go_sem])⟩
def inV (i : In) : Array Value := #[.int .i64 i.op, .int .i64 i.a, .int .i64 i.b, .int .i64 i.c]
def cmV (g f pc op v : Int) (b : Bool) : Array Value := #[.int .i64 g, .int .i64 f, .int .i64 pc, .int .i64 op, .int .i64 v, .bool b]
theorem Upd.fromDrew {S : Nat → Prop} {w w' : World} (h : Upd S w.drew w') : Upd S w w' := ⟨h.os, h.tape, h.output, h.size, h.block⟩
/-- The boxes of Do's variables. -/
structure Boxes (w : World) (c : Col) (vb to mb ib gb xb m xp g : Nat) (i : In) (cv : Array Value) : Prop where
  hm : Blk w mb 29 #[.pointer (some ⟨m, 0, none⟩)]
  hi : Blk w ib 40 (inV i)
  hg : Blk w gb 3 #[.int .i64 g]
  hx : Blk w xb 74 #[.pointer (some ⟨xp, 0, none⟩)]
  hv : Blk w vb 34 cv
  ht : Blk w to 3 #[.int .i64 1]
  col : (c vb).1 = 7 ∧ (c to).1 = 7 ∧ (c mb).1 = 7 ∧ (c ib).1 = 7 ∧ (c gb).1 = 7 ∧ (c xb).1 = 7
  nv : mb ≠ vb ∧ ib ≠ vb ∧ gb ≠ vb ∧ xb ≠ vb
  nt : to ≠ vb ∧ to ≠ mb ∧ to ≠ ib ∧ to ≠ gb ∧ to ≠ xb
/-- What Do's closure does. -/
def Do1 (g : Nat) (i : In) (M2 : Mo) (val : Int) (flt : Bool) (ret : Int) (M3 : Mo) : Prop := ∀ (w : World) (c : Col) (m : Nat) (Y : Lay) (vb to mb ib gb xb : Nat) (a1 a2 a3 a4 : Int),
  ModelAt w c m Y M2 → Boxes w c vb to mb ib gb xb m (Y.gp g) g i (cmV a1 a2 a3 a4 0 false) →
  Calls Try.prog 40 #[.pointer (some ⟨vb, 0, none⟩), .pointer (some ⟨to, 0, none⟩), .pointer (some ⟨mb, 0, none⟩), .pointer (some ⟨ib, 0, none⟩), .pointer (some ⟨gb, 0, none⟩), .pointer (some ⟨xb, 0, none⟩)] w fun e w' =>
    e = .returned (.tuple #[]) ∧ ∃ c3 Y3, ModelAt w' c3 m Y3 M3 ∧ Blk w' vb 34 (cmV a1 a2 a3 a4 val flt) ∧ Blk w' to 3 #[.int .i64 ret] ∧ Upd (fun k => (c k).1 < 7 ∨ k = vb ∨ k = to) w w' ∧ Keep c c3 w ∧ (∀ k, k < M2.gs.length → Y3.gp k = Y.gp k) ∧ (∀ k, w.heap.size ≤ k → k < w'.heap.size → (c3 k).1 < 7 ∨ (c3 k).1 = 7)
theorem Left.do1 {w w1 w2 : World} {c c1 c2 : Col} {m vb to : Nat} {Y Y1 Y2 : Lay} {M M1 M2 : Mo} (h : Left w c m Y M w1 c1 Y1 M1) (hl : M.gs.length ≤ M1.gs.length) (hvb : w.heap.size ≤ vb) (hto : w.heap.size ≤ to)
    (b1 : ModelAt w2 c2 m Y2 M2) (b2 : Upd (fun k => (c1 k).1 < 7 ∨ k = vb ∨ k = to) w1 w2) (b3 : Keep c1 c2 w1) (b4 : ∀ k, k < M1.gs.length → Y2.gp k = Y1.gp k) (b5 : ∀ k, w1.heap.size ≤ k → k < w2.heap.size → (c2 k).1 < 7 ∨ (c2 k).1 = 7) : Left w c m Y M w2 c2 Y2 M2 := by
  obtain ⟨a1, a2, a3, a4, a5⟩ := h
  refine ⟨b1, a2.trans b2 (fun k hk => ?_), a3.trans a2 b3, fun k hk => (b4 k (by omega)).trans (a4 k hk), fun k hk hk2 => ?_⟩
  · rcases hk with hk | hk
    · by_cases hkw : k < w.heap.size
      · rw [a3 k hkw] at hk; exact .inl hk
      · exact .inr (by omega)
    · exact .inr (by omega)
  · by_cases hkw : k < w1.heap.size
    · rw [b3 k hkw]; exact a5 k hk hkw
    · exact b5 k (by omega) hk2
theorem Left.trans {w w1 w2 : World} {c c1 c2 : Col} {m : Nat} {Y Y1 Y2 : Lay} {M M1 M2 : Mo} (h : Left w c m Y M w1 c1 Y1 M1) (hl : M.gs.length ≤ M1.gs.length) (h2 : Left w1 c1 m Y1 M1 w2 c2 Y2 M2) : Left w c m Y M w2 c2 Y2 M2 := by
  obtain ⟨a1, a2, a3, a4, a5⟩ := h
  obtain ⟨b1, b2, b3, b4, b5⟩ := h2
  refine ⟨b1, a2.trans b2 (fun k hk => ?_), a3.trans a2 b3, fun k hk => (b4 k (by omega)).trans (a4 k hk), fun k hk hk2 => ?_⟩
  · by_cases hkw : k < w.heap.size
    · rw [a3 k hkw] at hk; exact .inl hk
    · exact .inr (by omega)
  · by_cases hkw : k < w1.heap.size
    · rw [b3 k hkw]; exact a5 k hk hkw
    · exact b5 k (by omega) hk2
theorem Left.refl {w : World} {c : Col} {m : Nat} {Y : Lay} {M : Mo} (h : ModelAt w c m Y M) : Left w c m Y M w c Y M := ⟨h, Upd.refl _ _, Keep.refl _ _, fun _ _ => rfl, fun k hk _ => .inr (h.free k hk)⟩
theorem Left.far {w w1 w2 : World} {c c1 : Col} {m : Nat} {Y Y1 : Lay} {M M1 : Mo} {S : Nat → Prop} (h : Left w c m Y M w1 c1 Y1 M1) (hu : Upd S w1 w2) (hS : ∀ k, S k → w.heap.size ≤ k ∧ (c1 k).1 = 7) : Left w c m Y M w2 c1 Y1 M1 := by
  obtain ⟨a1, a2, a3, a4, a5⟩ := h
  refine ⟨a1.frame hu (fun k e => (hS k e).2), a2.trans hu (fun k e => .inr (hS k e).1), a3, a4, fun k hk hk2 => ?_⟩
  by_cases hkw : k < w1.heap.size
  · exact a5 k hk hkw
  · exact .inr (a1.free k (by omega))
theorem Left.setG_ {w w1 w2 : World} {c c1 : Col} {m g : Nat} {Y Y1 : Lay} {M M1 : Mo} (h : Left w c m Y M w1 c1 Y1 M1) (hl : M.gs.length ≤ M1.gs.length) (hg : g < M1.gs.length) (x' : Gor) (hb : Blk w2 (Y1.gp g) 77 (gorV x')) (hu : Upd (fun k => k = Y1.gp g) w1 w2) : Left w c m Y M w2 c1 Y1 (setG M1 g x') := by
  have h1 := h.1
  have hcg : c1 (Y1.gp g) = (2, g + 1) := (h1.gs.g g _ (gorAt_get hg)).2
  refine h.trans hl ⟨h1.setG hg x' (E := fun _ => False) hb (hu.mono (fun _ e => .inl (.inl e))) (fun _ e => e.elim), hu.mono (fun k e => .inl ?_), Keep.refl _ _, fun _ _ => rfl, fun k hk _ => .inr (h1.free k hk)⟩
  show (c1 k).1 < 7
  rw [e, hcg]; show 2 < 7; omega
theorem Left.post {w w1 : World} {c c1 : Col} {m : Nat} {Y Y1 : Lay} {M M1 : Mo} (h : Left w c m Y M w1 c1 Y1 M1) : MPost w c m Y M w1 M1 := ⟨c1, Y1, h⟩
/-- What lay free keeps what it has. -/
theorem Left.blk {w1 w2 : World} {c c1 : Col} {m k : Nat} {t : TypeId} {cs : Array Value} {Y Y1 : Lay} {M M1 : Mo} (h : Left w1 c m Y M w2 c1 Y1 M1) (hb : Blk w1 k t cs) (hk : (c k).1 = 7) : Blk w2 k t cs := hb.upd h.2.1 (fun e => by omega)
def bumpG (x : Gor) : Gor := { x with pc := x.pc + 1 }
def runM (M : Mo) (g : Nat) : Mo := setG { M with st := mvL M.st g 2 } g (bumpG (gorAt M g))
section
variable {w : World} {c : Col} {m : Nat} {Y : Lay} {M : Mo} {n : Nat}
set_option maxRecDepth 100000 in
set_option maxHeartbeats 1200000 in
theorem mdo_c (h : ModelAt w c m Y M) (ok : MoOK M n) {g : Nat} (hg : g < M.gs.length) (hs : stateM M g = 1) (ha : aliveM M g) {ret val : Int} {flt : Bool} {M3 : Mo} (hop : Do1 g (instOf M g) (runM M g) val flt ret M3) (hlen : M.gs.length ≤ M3.gs.length) :
    Calls Try.prog 16 #[.pointer (some ⟨m, 0, none⟩), .int .i64 g] w fun e w' => e = .returned (.tuple #[.agg (cmV g (gorAt M g).f (gorAt M g).pc (instOf M g).op val flt), .int .i64 0]) ∧ MPost w c m Y M w' { M3 with st := mvL M3.st g ret } := by
  have hw1 : Upd (fun _ => False) w (boxed w m g) := (((Upd.refl _ _).alloc _).alloc _).alloc _
  obtain ⟨b1, b2, b3⟩ := boxed_at w m g
  have h1 := h.frame hw1 (fun _ e => e.elim)
  have Hs := Lib.hid (mstate_c h1 g)
  have Hn := Lib.hid (mnext_c h1 ok ha)
  have Hw := Lib.hid hw1
  have H1 := Lib.hid h1
  have B1 := Lib.hid b1
  have B2 := Lib.hid b2
  have B3 := Lib.hid b3
  rw [hs] at Hs
  have HF := Lib.hid h.free
  have HL := Lib.hid ((Left.refl h).far (S := fun _ => False) hw1 (fun _ e => e.elim))
  have HOP := Lib.hid hop
  obtain ⟨hp0, hp1⟩ := ok.pc g hg
  have hbnd := ok.bound
  clear h hs hw1 h1 b1 b2 b3 ok ha hop
  unfold In.v boxed at *
  go_enter Try.func16, Try.ntmps16
  go_wp2_with (first | (go_at_call 18; refine Hs.out.mono ?_; rintro e w1 ⟨rfl, rfl⟩) | (go_at_call 27; refine Hn.out.mono ?_; rintro e w2 ⟨rfl, hu2⟩))
  obtain ⟨i, hi⟩ : ∃ i, i = instOf M g := ⟨_, rfl⟩
  rw [← hi]
  obtain ⟨w3, hw3⟩ : ∃ w3, w3 = w2.alloc (.cells (inV i) 40) := ⟨_, rfl⟩
  have e3 : Upd (fun _ => False) w2 w3 := by rw [hw3]; exact (Upd.refl _ _).alloc _
  have bi : Blk w3 w2.heap.size 40 (inV i) := by rw [hw3]; exact Blk.new _ _ _
  have e4 := hu2.trans e3 (fun _ e => .inl e)
  have k1 := B1.out.upd e4 (fun e => e)
  have k2 := B2.out.upd e4 (fun e => e)
  have k3 := B3.out.upd e4 (fun e => e)
  have km := H1.out.frame e4 (fun _ e => e.elim)
  have hsz : w.heap.size + 3 ≤ w2.heap.size := by have := hu2.size; simpa [go_sem] using this
  unfold inV at hw3
  rw [← hw3]
  clear hw3
  obtain ⟨ib, hib⟩ : ∃ ib, ib = w2.heap.size := ⟨_, rfl⟩
  rw [← hib] at bi hsz ⊢
  clear hib
  have hxb := (km.gs.g g _ (gorAt_get hg)).1
  obtain ⟨x, hx⟩ : ∃ x, x = gorAt M g := ⟨_, rfl⟩
  obtain ⟨xp, hxp⟩ : ∃ p, p = Y.gp g := ⟨_, rfl⟩
  obtain ⟨gr, gcap, hgv, hgc, hgl, hgcell⟩ := km.gs.at_ hg
  rw [← hx, ← hxp] at hxb
  rw [← hxp] at hgcell
  have c3 := km.c3
  have c2 := km.c2
  rw [hgv] at c3
  have hgI : (g : Int) < (M.gs.length : Int) := by omega
  have hg0 : (0 : Int) ≤ (g : Int) := by omega
  have z1 : w3.cell? ⟨w.heap.size, 0, none⟩ = some (.pointer (some ⟨m, 0, none⟩)) := k1.cell 0
  have z2 : w3.cell? ⟨w.heap.size + 1, 0, none⟩ = some (.int .i64 g) := k2.cell 0
  have x0 : w3.cell? ⟨xp, 0, none⟩ = some (.int .i64 x.f) := hxb.cell 0
  have x1 : w3.cell? ⟨xp, 1, none⟩ = some (.int .i64 x.pc) := hxb.cell 1
  have i0 : w3.cell? ⟨ib, 0, none⟩ = some (.int .i64 i.op) := bi.cell 0
  have l1 := k1.lt
  have l2 := k2.lt
  have lm := km.blk.lt
  have lx := hxb.lt
  have li := bi.lt
  have Hhxb := Lib.hid hxb
  have Hkm := Lib.hid km
  have K1 := Lib.hid k1
  have K2 := Lib.hid k2
  have K3 := Lib.hid k3
  have BI := Lib.hid bi
  have HI := Lib.hid hi
  have HX := Lib.hid hx
  have HXP := Lib.hid hxp
  have HGV := Lib.hid hgv
  have HGC := Lib.hid hgc
  have E4 := Lib.hid e4
  clear hxb km k1 k2 k3 bi hi hx hxp hgv hgc hu2 e3 e4 Hs Hn Hw H1 B1 B2 B3
  go_region_held3 (fun w' => w'.cell? ⟨w.heap.size, 0, none⟩ = some (.pointer (some ⟨m, 0, none⟩)) ∧ w'.cell? ⟨w.heap.size + 1, 0, none⟩ = some (.int .i64 g) ∧ w'.cell? ⟨m, 3, none⟩ = some (.slice (some ⟨gr, 0, none⟩) M.gs.length gcap) ∧ w'.cell? ⟨gr, g, none⟩ = some (.pointer (some ⟨xp, 0, none⟩))) (go_keep) (fail)
  go_wp2_with fail
  obtain ⟨w4, hw4⟩ : ∃ w4, w4 = (w3.alloc (.cells #[.pointer (some ⟨xp, 0, none⟩)] 74)).drew := ⟨_, rfl⟩
  have e5 : Upd (fun _ => False) w3 w4 := by rw [hw4]; exact ((Upd.refl _ _).alloc _).drew
  have bx : Blk w4 w3.heap.size 74 #[.pointer (some ⟨xp, 0, none⟩)] := by rw [hw4]; exact (Blk.new _ _ _).drew
  rw [← hw4]
  clear hw4
  obtain ⟨xb, hxb⟩ : ∃ xb, xb = w3.heap.size := ⟨_, rfl⟩
  have hxbl : ib < xb := by rw [hxb]; exact li
  rw [← hxb] at bx ⊢
  clear hxb z1 z2 x0 x1 i0 l1 l2 lm lx li c2 c3 hgcell
  have z1 : w4.cell? ⟨w.heap.size, 0, none⟩ = some (.pointer (some ⟨m, 0, none⟩)) := (K1.out.upd e5 (fun e => e)).cell 0
  have z2 : w4.cell? ⟨w.heap.size + 1, 0, none⟩ = some (.int .i64 g) := (K2.out.upd e5 (fun e => e)).cell 0
  have x0 : w4.cell? ⟨xp, 0, none⟩ = some (.int .i64 x.f) := (Hhxb.out.upd e5 (fun e => e)).cell 0
  have x1 : w4.cell? ⟨xp, 1, none⟩ = some (.int .i64 x.pc) := (Hhxb.out.upd e5 (fun e => e)).cell 1
  have i0 : w4.cell? ⟨ib, 0, none⟩ = some (.int .i64 i.op) := (BI.out.upd e5 (fun e => e)).cell 0
  have b0 : w4.cell? ⟨xb, 0, none⟩ = some (.pointer (some ⟨xp, 0, none⟩)) := bx.cell 0
  have BX := Lib.hid bx
  have l1 := (K1.out.upd e5 (fun e => e)).lt
  have l2 := (K2.out.upd e5 (fun e => e)).lt
  have li := (BI.out.upd e5 (fun e => e)).lt
  have lx := (Hhxb.out.upd e5 (fun e => e)).lt
  have lb := bx.lt
  clear bx
  go_region_held3 (fun w' => w'.cell? ⟨w.heap.size + 1, 0, none⟩ = some (.int .i64 g) ∧ w'.cell? ⟨xp, 0, none⟩ = some (.int .i64 x.f) ∧ w'.cell? ⟨xp, 1, none⟩ = some (.int .i64 x.pc) ∧ w'.cell? ⟨ib, 0, none⟩ = some (.int .i64 i.op) ∧ w'.cell? ⟨xb, 0, none⟩ = some (.pointer (some ⟨xp, 0, none⟩))) (go_keep) (fail)
  go_wp2_with fail
  obtain ⟨w5, hw5⟩ : ∃ w5, w5 = (w4.alloc (.cells (cmV g x.f x.pc i.op 0 false) 34)).drew := ⟨_, rfl⟩
  have e6 : Upd (fun _ => False) w4 w5 := by rw [hw5]; exact ((Upd.refl _ _).alloc _).drew
  have bv : Blk w5 w4.heap.size 34 (cmV g x.f x.pc i.op 0 false) := by rw [hw5]; exact (Blk.new _ _ _).drew
  unfold cmV at hw5
  rw [← hw5]
  clear hw5
  obtain ⟨vb, hvb⟩ : ∃ vb, vb = w4.heap.size := ⟨_, rfl⟩
  have hvbl : xb < vb := by rw [hvb]; exact lb
  rw [← hvb] at bv ⊢
  have e7 := e5.trans e6 (fun _ e => .inl e)
  have E8 := Lib.hid (E4.out.trans e7 (fun _ e => .inl e))
  have M5 := Lib.hid (Hkm.out.frame e7 (fun _ e => e.elim))
  have L1 := Lib.hid (K1.out.upd e7 (fun e => e))
  have L2 := Lib.hid (K2.out.upd e7 (fun e => e))
  have L3 := Lib.hid (K3.out.upd e7 (fun e => e))
  have LI := Lib.hid (BI.out.upd e7 (fun e => e))
  have LX := Lib.hid (BX.out.upd e6 (fun e => e))
  have LV := Lib.hid bv
  clear hvb z1 z2 x0 x1 i0 b0 l1 l2 li lx lb e5 e6 e7 bv Hkm K1 K2 K3 BI BX E4 Hhxb
  have HL5 := Lib.hid (HL.out.far (S := fun _ => False) E8.out (fun _ e => e.elim))
  have m2 := M5.out.c2
  have lm := M5.out.blk.lt
  have z1 : w5.cell? ⟨w.heap.size, 0, none⟩ = some (.pointer (some ⟨m, 0, none⟩)) := L1.out.cell 0
  have z2 : w5.cell? ⟨w.heap.size + 1, 0, none⟩ = some (.int .i64 g) := L2.out.cell 0
  have l1 := L1.out.lt
  have l2 := L2.out.lt
  have Hmv := Lib.hid (mmove_c (M5.out.frame (Upd.refl (fun _ => False) w5).drew (fun _ e => e.elim)) g 2)
  refine wp_still_tail 5 (by kernel_rfl) (by kernel_rfl) ?_
  simp only [List.take_succ_cons, List.take_zero, List.drop_succ_cons, List.drop_zero]
  repeat still_step
  refine wpStill_nil ?_
  go_wp2_with fail
  refine Hmv.out.mono ?_
  rintro e w6 ⟨rfl, hp6⟩
  obtain ⟨c1, Y1, hl6⟩ := hp6.left
  have hl6' : Left w c m Y M w6 c1 Y1 { M with st := mvL M.st g 2 } := (HL5.out.far (S := fun _ => False) (Upd.refl (fun _ => False) w5).drew (fun _ e => e.elim)).trans (Nat.le_refl _) hl6
  have Q1 := Lib.hid (hl6.blk L1.out.drew (HF.out _ (by omega)))
  have Q2 := Lib.hid (hl6.blk L2.out.drew (HF.out _ (by omega)))
  have Q3 := Lib.hid (hl6.blk L3.out.drew (HF.out _ (by omega)))
  have QI := Lib.hid (hl6.blk LI.out.drew (HF.out _ (by omega)))
  have QX := Lib.hid (hl6.blk LX.out.drew (HF.out _ (by omega)))
  have QV := Lib.hid (hl6.blk LV.out.drew (HF.out _ (by omega)))
  have f1 : ∀ k, w.heap.size ≤ k → k < w5.heap.size → (c1 k).1 = 7 := fun k hk hk2 => by
    rw [hl6.2.2.1 k hk2]
    exact HF.out k hk
  have F1 := Lib.hid (⟨f1 _ (Nat.le_refl _) L1.out.lt, f1 _ (by omega) L2.out.lt, f1 _ (by omega) L3.out.lt, f1 _ (by omega) LI.out.lt, f1 _ (by omega) LX.out.lt, f1 _ (by omega) LV.out.lt⟩ : (c1 w.heap.size).1 = 7 ∧ (c1 (w.heap.size + 1)).1 = 7 ∧ (c1 (w.heap.size + 1 + 1)).1 = 7 ∧ (c1 ib).1 = 7 ∧ (c1 xb).1 = 7 ∧ (c1 vb).1 = 7)
  have hxp6 : Y1.gp g = xp := by rw [hl6.2.2.2.1 g hg, HXP.out]
  have hx6 : Blk w6 xp 77 (gorV x) := by
    have := (hl6.1.gs.g g (gorAt M g) (gorAt_get hg)).1
    rw [hxp6, ← HX.out] at this
    exact this
  have b0 : w6.cell? ⟨xb, 0, none⟩ = some (.pointer (some ⟨xp, 0, none⟩)) := QX.out.cell 0
  have x1 : w6.cell? ⟨xp, 1, none⟩ = some (.int .i64 x.pc) := hx6.cell 1
  have xf := hx6.frozen 1
  have lb := QX.out.lt
  have lx := hx6.lt
  rw [← HX.out] at hp0 hp1
  have HL6 := Lib.hid hl6'
  have HXP6 := Lib.hid hxp6
  have HX6 := Lib.hid hx6
  clear hl6 hl6' hp6 f1 hxp6 hx6 L1 L2 L3 LI LX LV Hmv m2 lm z1 z2 l1 l2 HL HL5 M5 E8
  go_wp2_with fail
  obtain ⟨w8, hw8⟩ : ∃ w8, w8 = (w6.setCell ⟨xp, 1, none⟩ (.int .i64 (x.pc + 1))).alloc (.cells #[.int .i64 1] 3) := ⟨_, rfl⟩
  have e8 : Upd (fun k => k = xp) w6 w8 := by rw [hw8]; exact ((Upd.refl (fun k => k = xp) w6).setCell (p := ⟨xp, 1, none⟩) (.inl rfl) _).alloc _
  have bx8 : Blk w8 xp 77 (gorV (bumpG x)) := by
    have := (HX6.out.set_ 1 (.int .i64 (x.pc + 1))).alloc (.cells #[.int .i64 1] 3)
    rw [gorV_pc, ← hw8] at this
    exact this
  have bt8 : Blk w8 w6.heap.size 3 #[.int .i64 1] := by
    rw [hw8]
    exact Blk.new' _ _ _ (by simp [World.setCell])
  rw [← hw8]
  clear hw8 x1 xf lx b0 lb
  obtain ⟨to, hto⟩ : ∃ to, to = w6.heap.size := ⟨_, rfl⟩
  have htl : vb < to := by rw [hto]; exact QV.out.lt
  have hct : (c1 to).1 = 7 := HL6.out.1.free to (by omega)
  rw [← hto] at bt8 ⊢
  clear hto
  have hne : ∀ k, (c1 k).1 = 7 → ¬ k = xp := fun k hk e => by
    have := (HL6.out.1.gs.g g (gorAt M g) (gorAt_get hg)).2
    rw [HXP6.out, ← e] at this
    rw [this] at hk
    cases hk
  have hL8 : Left w c m Y M w8 c1 Y1 (runM M g) := by
    have := HL6.out.setG_ (Nat.le_refl _) hg (bumpG x) (by rw [HXP6.out]; exact bx8) (by rw [HXP6.out]; exact e8)
    rw [HX.out] at this
    exact this
  obtain ⟨f1, f2, f3, f4, f5, f6⟩ := F1.out
  have P1 := Lib.hid (Q1.out.upd e8 (hne _ f1))
  have P2 := Lib.hid (Q2.out.upd e8 (hne _ f2))
  have P3 := Lib.hid (Q3.out.upd e8 (hne _ f3))
  have PI := Lib.hid (QI.out.upd e8 (hne _ f4))
  have PX := Lib.hid (QX.out.upd e8 (hne _ f5))
  have PV := Lib.hid (QV.out.upd e8 (hne _ f6))
  have PT := Lib.hid bt8
  have HL8 := Lib.hid hL8
  have HCT := Lib.hid hct
  clear e8 bx8 bt8 hne hL8 f1 f2 f3 f4 f5 f6 hct Q1 Q2 Q3 QI QX QV HX6 HL6
  obtain ⟨f1, f2, f3, f4, f5, f6⟩ := F1.out
  have hbox : Boxes w8 c1 vb to w.heap.size ib (w.heap.size + 1) xb m (Y1.gp g) g i (cmV g x.f x.pc i.op 0 false) := ⟨P1.out, PI.out, P2.out, by rw [HXP6.out]; exact PX.out, PV.out, PT.out, ⟨f6, HCT.out, f1, f4, f2, f5⟩, ⟨by omega, by omega, by omega, by omega⟩, ⟨by omega, by omega, by omega, by omega, by omega⟩⟩
  have hcall := HOP.out
  rw [← HI.out] at hcall
  have hcall2 := hcall w8 c1 m Y1 vb to w.heap.size ib (w.heap.size + 1) xb g x.f x.pc i.op HL8.out.1 hbox
  have Hc := Lib.hid hcall2
  clear hcall hcall2 hbox f1 f2 f3 f4 f5 f6
  refine Hc.out.mono ?_
  rintro e w9 ⟨rfl, c3, Y3, b1, b2, b3, b4, b5, b6, b7⟩
  have hl9 : Left w c m Y M w9 c3 Y3 M3 := HL8.out.do1 (by rw [runM, setG]; simp) (by omega) (by omega) b1 b4 b5 b6 b7
  have hbx : ∀ {k t cs}, Blk w8 k t cs → (c1 k).1 = 7 → k ≠ vb → k ≠ to → Blk w9 k t cs := fun hb h7 n1 n2 => hb.upd b4 (fun e => by rcases e with e | e | e <;> omega)
  obtain ⟨f1, f2, f3, f4, f5, f6⟩ := F1.out
  have R1 := Lib.hid (hbx P1.out f1 (by omega) (by omega))
  have R2 := Lib.hid (hbx P2.out f2 (by omega) (by omega))
  have R3 := Lib.hid (hbx P3.out f3 (by omega) (by omega))
  have g3 : ∀ k, (c1 k).1 = 7 → k < w8.heap.size → (c3 k).1 = 7 := fun k hk hk2 => by rw [b5 k hk2]; exact hk
  have G1 := Lib.hid (⟨g3 _ f3 P3.out.lt, g3 _ f6 PV.out.lt⟩ : (c3 (w.heap.size + 1 + 1)).1 = 7 ∧ (c3 vb).1 = 7)
  have Hmv := Lib.hid (mmove_c (b1.frame (Upd.refl (fun _ => False) w9).drew (fun _ e => e.elim)) g ret)
  have m2 := b1.c2
  have lm := b1.blk.lt
  have z1 : w9.cell? ⟨w.heap.size, 0, none⟩ = some (.pointer (some ⟨m, 0, none⟩)) := R1.out.cell 0
  have z2 : w9.cell? ⟨w.heap.size + 1, 0, none⟩ = some (.int .i64 g) := R2.out.cell 0
  have t0 : w9.cell? ⟨to, 0, none⟩ = some (.int .i64 ret) := b3.cell 0
  have l1 := R1.out.lt
  have l2 := R2.out.lt
  have lt := b3.lt
  have HL9 := Lib.hid hl9
  have HB2 := Lib.hid b2
  clear hl9 hbx f1 f2 f3 f4 f5 f6 g3 b1 b2 b3 b4 b5 b6 b7 P1 P2 P3 PI PX PV PT HL8 HCT F1
  go_wp2_with fail
  refine wp_still_tail 6 (by kernel_rfl) (by kernel_rfl) ?_
  simp only [List.take_succ_cons, List.take_zero, List.drop_succ_cons, List.drop_zero]
  repeat still_step
  refine wpStill_nil ?_
  go_wp2_with fail
  refine Hmv.out.mono ?_
  rintro e w11 ⟨rfl, hp⟩
  obtain ⟨c4, Y4, hl⟩ := hp.left
  have hl11 : Left w c m Y M w11 c4 Y4 { M3 with st := mvL M3.st g ret } := (HL9.out.far (S := fun _ => False) (Upd.refl (fun _ => False) w9).drew (fun _ e => e.elim)).trans hlen hl
  have q3 := hl.blk R3.out.drew G1.out.1
  have qv := hl.blk HB2.out.drew G1.out.2
  have c43 : (c4 (w.heap.size + 1 + 1)).1 = 7 := by rw [hl.2.2.1 _ R3.out.drew.lt]; exact G1.out.1
  have QV := Lib.hid qv
  have v0 : w11.cell? ⟨vb, 0, none⟩ = some (.int .i64 g) := qv.cell 0
  have v1 : w11.cell? ⟨vb, 1, none⟩ = some (.int .i64 x.f) := qv.cell 1
  have v2 : w11.cell? ⟨vb, 2, none⟩ = some (.int .i64 x.pc) := qv.cell 2
  have v3 : w11.cell? ⟨vb, 3, none⟩ = some (.int .i64 i.op) := qv.cell 3
  have v4 : w11.cell? ⟨vb, 4, none⟩ = some (.int .i64 val) := qv.cell 4
  have v5 : w11.cell? ⟨vb, 5, none⟩ = some (.bool flt) := qv.cell 5
  have r0 : w11.cell? ⟨w.heap.size + 1 + 1, 0, none⟩ = some (.int .i64 0) := q3.cell 0
  have r1 : w11.cell? ⟨w.heap.size + 1 + 1, 1, none⟩ = some (.int .i64 0) := q3.cell 1
  have r2 : w11.cell? ⟨w.heap.size + 1 + 1, 2, none⟩ = some (.int .i64 0) := q3.cell 2
  have r3 : w11.cell? ⟨w.heap.size + 1 + 1, 3, none⟩ = some (.int .i64 0) := q3.cell 3
  have r4 : w11.cell? ⟨w.heap.size + 1 + 1, 4, none⟩ = some (.int .i64 0) := q3.cell 4
  have r5 : w11.cell? ⟨w.heap.size + 1 + 1, 5, none⟩ = some (.bool false) := q3.cell 5
  have fr := q3.frozen
  have lv := qv.lt
  have lr := q3.lt
  have HL11 := Lib.hid hl11
  have HC43 := Lib.hid c43
  clear hl11 c43 hl qv hp Hmv HL9 HB2 R1 R2 R3 G1 m2 lm z1 z2 t0 l1 l2 lt Hc HOP
  go_wp2_with fail
  refine bodyPost_ret (v := .tuple #[.agg (cmV g x.f x.pc i.op val flt), .int .i64 0]) (by simp [results, Try.results16, go_sem, cmV, r0, r1, r2, r3, r4, r5]) rfl ⟨by rw [HX.out, HI.out], ?_⟩
  exact (HL11.out.far (S := fun k => k = w.heap.size + 1 + 1) ((((((((Upd.refl (fun k => k = w.heap.size + 1 + 1) w11).setCell (p := ⟨w.heap.size + 1 + 1, 0, none⟩) (.inl rfl) _).setCell (p := ⟨w.heap.size + 1 + 1, 1, none⟩) (.inl rfl) _).setCell (p := ⟨w.heap.size + 1 + 1, 2, none⟩) (.inl rfl) _).setCell (p := ⟨w.heap.size + 1 + 1, 3, none⟩) (.inl rfl) _).setCell (p := ⟨w.heap.size + 1 + 1, 4, none⟩) (.inl rfl) _).setCell (p := ⟨w.heap.size + 1 + 1, 5, none⟩) (.inl rfl) _)) (fun k e => ⟨by omega, by rw [e]; exact HC43.out⟩)).post
end
end Go.Proofs.Ytndldoamadmphaa
