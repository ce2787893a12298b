/- model.spawn: a new goroutine. -/
import Derived.Test.YtndldoamadmphaaMd7
namespace Go.Proofs.Ytndldoamadmphaa
open Go.RowKit
theorem news_at {W : World} {n : Nat} (h : n = W.heap.size) (u : Value) (t : TypeId) : ∀ (j : Nat) (x : Value), [u][j]? = some x → (W.alloc (.cells #[u] t)).cell? ((⟨n, 0, none⟩ : Addr).add j) = some x := by
  subst h
  exact news_one W u t
section
variable {w : World} {c : Col} {m : Nat} {Y : Lay} {M : Mo}
def gorZ (f : Int) : Gor := ⟨f, 0, 0, fun _ => 0⟩
/-- What is known behind the append. -/
theorem push_facts {w2 : World} {t : TypeId} {f : Int} {g2 cap : Nat} {grow : Option Nat} {ps : List Value} {n : Nat} (hn : ps.length = n) (h : ModelAt w c m Y M) (hr : Row w 74 grow Y.gv ps) (hgc : ∀ k, grow = some k → c k = (2, 0))
    (hrow2 : RowN w2 74 1 (some g2) (.slice (some ⟨g2, 0, none⟩) (n + 1) cap) (n + 1) (ps ++ [.pointer (some ⟨w.heap.size, 0, none⟩)]))
    (hg2 : ((w.alloc (.cells (gorV (gorZ f)) 77)).alloc (.cells #[.pointer (some ⟨w.heap.size, 0, none⟩)] t)).grownBy w2 grow) (hat2 : grow = some g2 ∨ g2 = w.heap.size + 1 + 1) :
    Blk w2 m 72 (modV Y M) ∧ Blk w2 w.heap.size 77 (gorV (gorZ f)) ∧ w2.cell? ⟨g2, n, none⟩ = some (.pointer (some ⟨w.heap.size, 0, none⟩)) ∧ g2 ≠ m ∧ g2 ≠ w.heap.size ∧ w.heap.size ≠ m ∧ (grow = some g2 ∨ w.heap.size ≤ g2) ∧ g2 < w2.heap.size ∧
      Upd (fun k => grow = some k) w w2 := by
  subst hn
  have hml := h.blk.lt
  have hgl : ∀ k, grow = some k → k < w.heap.size := hr.lt
  have hb1 : Blk w2 m 72 (modV Y M) := ((h.blk.alloc _).alloc _).grown hg2 (fun e => by have := hgc m e.symm; rw [h.cm] at this; cases this)
  have hb2 : Blk w2 w.heap.size 77 (gorV (gorZ f)) := ((Blk.new w 77 (gorV (gorZ f))).alloc _).grown hg2 (fun e => by have := hgl _ e.symm; omega)
  have hu : Upd (fun k => grow = some k) w w2 := (((Upd.refl _ _).alloc _).alloc _).grown hg2 (fun k hk => .inl hk)
  have hp : w2.cell? ⟨g2, ps.length, none⟩ = some (.pointer (some ⟨w.heap.size, 0, none⟩)) := by
    rcases hrow2.form with ⟨e, _⟩ | ⟨g3, cap3, cur, hv, _, _, _, hb, _, ht⟩
    · cases e
    · injection hv with e1 _ _
      injection e1 with e1
      injection e1 with e1
      subst e1
      exact take_cell hb ht _ _ (by simp)
  refine ⟨hb1, hb2, hp, ?_, ?_, by omega, ?_, RowN.lt hrow2 g2 rfl, hu⟩
  · rintro rfl
    rcases hat2 with e | e
    · have := hgc _ e; rw [h.cm] at this; cases this
    · omega
  · rcases hat2 with e | e
    · have := hgl _ e; omega
    · omega
  · rcases hat2 with e | e
    · exact .inl e
    · exact .inr (by omega)
theorem push_fin {w2 w3 : World} {f v : Int} {g2 cap : Nat} {grow : Option Nat} (h : ModelAt w c m Y M) (hr : Row w 74 grow Y.gv ((List.range M.gs.length).map fun i => .pointer (some ⟨Y.gp i, 0, none⟩))) (hgc : ∀ k, grow = some k → c k = (2, 0))
    (hrow2 : Row w2 74 (some g2) (.slice (some ⟨g2, 0, none⟩) (M.gs.length + 1) cap) (((List.range M.gs.length).map fun i => .pointer (some ⟨Y.gp i, 0, none⟩)) ++ [.pointer (some ⟨w.heap.size, 0, none⟩)]))
    (hb1 : Blk w2 m 72 (modV Y M)) (hb2 : Blk w2 w.heap.size 77 (gorV (gorZ f))) (n1 : g2 ≠ m) (n2 : g2 ≠ w.heap.size) (n3 : w.heap.size ≠ m) (hg2 : grow = some g2 ∨ w.heap.size ≤ g2) (hu : Upd (fun k => grow = some k) w w2)
    (hw3 : w3 = (w2.setCell ⟨m, 3, none⟩ (.slice (some ⟨g2, 0, none⟩) (M.gs.length + 1) cap)).setCell ⟨w.heap.size, 3, none⟩ (.int .i64 v)) : MPost w c m Y M w3 { M with gs := M.gs ++ [gor0 f v] } := by
  subst hw3
  have hset : Upd (fun k => k = m ∨ k = w.heap.size) w2 ((w2.setCell ⟨m, 3, none⟩ (.slice (some ⟨g2, 0, none⟩) (M.gs.length + 1) cap)).setCell ⟨w.heap.size, 3, none⟩ (.int .i64 v)) :=
    ((Upd.refl (fun k => k = m ∨ k = w.heap.size) w2).setCell (p := ⟨m, 3, none⟩) (.inl (.inl rfl)) _).setCell (p := ⟨w.heap.size, 3, none⟩) (.inl (.inr rfl)) _
  refine gs_push h hr hgc ((hb1.set_ 3 _).far n3.symm _) (hrow2.upd hset ?_) ?_ (Nat.le_refl _) hg2 n2 ((hu.mono (fun k e => .inl (.inr e))).trans hset ?_)
  · intro k hk e
    injection hk with hk
    subst hk
    rcases e with e | e
    · exact n1 e
    · exact n2 e
  · have e : gorV (gor0 f v) = (gorV (gorZ f)).setIfInBounds (3 + 0) (.int .i64 v) := by rw [gorV_set _ 0 v (by omega)]; rfl
    rw [e]
    exact (hb2.far n3 _).set_ 3 _
  · rintro k (e | e)
    · exact .inl (.inl e)
    · exact .inr (by omega)
set_option maxRecDepth 100000 in
set_option maxHeartbeats 2000000 in
theorem mspawn_c (h : ModelAt w c m Y M) (hl : M.st.length < 1024) (hgl : M.gs.length = M.st.length) (f v : Int) :
    Calls Try.prog 38 #[.pointer (some ⟨m, 0, none⟩), .int .i64 f, .int .i64 v] w fun e w' => e = .returned (.int .i64 M.st.length) ∧ MPost w c m Y M w' (spawnM M f v) := by
  obtain ⟨i0, hi, hz0, hz1, hz2⟩ := info_parts (show Option.map (fun i => (i.zero, i.size, i.bytes)) (Try.prog.info? 74) = some (some (.pointer none), 1, 8) from by kernel_rfl)
  have c2 := h.c2
  obtain ⟨row, h1, hsc, hsr⟩ := h.st
  have Hc := Lib.hid (spawn_c h1 hl)
  have H := Lib.hid h
  have H1 := Lib.hid h1
  have Hsr := Lib.hid hsr
  clear h h1 hsr
  go_enter Try.func38, Try.ntmps38
  go_wp2_with fail
  refine Hc.out.mono ?_
  rintro e w1 ⟨rfl, row', k1, k2, k3⟩
  obtain ⟨c1, Y1, hP1⟩ := (st_fin H.out H1.out hsc Hsr.out k1 k2 k3).left
  have HP1 := Lib.hid hP1
  obtain ⟨hM1, hu1, hk1, hg1, hn1⟩ := hP1
  have c3 := hM1.c3
  have f3 := hM1.blk.frozen 3
  have hml := hM1.blk.lt
  obtain ⟨⟨grow, hgr, hgc⟩, _⟩ := hM1.gs
  have hM := Lib.hid hM1
  have Hgr := Lib.hid hgr
  have Hgc := Lib.hid hgc
  have Hg1 := Lib.hid hg1
  have Hk1 := Lib.hid hk1
  have hlen : ((List.range M.gs.length).map fun i => Value.pointer (some ⟨Y1.gp i, 0, none⟩)).length = M.st.length := by simp [hgl]
  have Hlen := Lib.hid hlen
  have Hgl := Lib.hid hgl
  clear k1 k2 k3 hM1 hu1 hk1 hg1 hn1 hgr hgc hlen hgl
  go_wp2_with (at_builtin; refine wpList_append_rowN rfl (.tmp 23) (.tmp 27) 70 rfl 74 i0 (.pointer none) 1 8 Try.underlying70 hi hz0 hz1 hz2 rfl (by decide) Y1.gv rfl grow ((List.range M.gs.length).map fun i => Value.pointer (some ⟨Y1.gp i, 0, none⟩)).length ((List.range M.gs.length).map fun i => Value.pointer (some ⟨Y1.gp i, 0, none⟩)) ((Row.toN Hgr.out).alloc _ |>.alloc _) ⟨w1.heap.size + 1, 0, none⟩ 1 1 [.pointer (some ⟨w1.heap.size, 0, none⟩)] rfl rfl ?c1 (oneCell_one rfl) (by omega) ?c2 ?c3 ?_)
  case c1 => exact news_at (by simp) _ _
  case c2 => rw [Hlen.out]; unfold maxLen; omega
  case c3 => rw [Hlen.out]; omega
  intro g2 cap2 w2 hrow2 hgr2 hat2 hlt2
  obtain ⟨b1, b2, hp, n1, n2, n3, hg2, hgl2, hu2⟩ := push_facts (f := f) (by simp) hM.out Hgr.out Hgc.out hrow2 hgr2 hat2
  have c3' : w2.cell? ⟨m, 3, none⟩ = some Y1.gv := b1.cell 3
  have f3' := b1.frozen 3
  have x3' : w2.cell? ⟨w1.heap.size, 3, none⟩ = some (.int .i64 0) := b2.cell 3
  have xf' := b2.frozen 3
  have hrow2' := hrow2.to1
  rw [Hgl.out] at hp hrow2'
  rw [Hgl.out]
  have hml2 := b1.lt
  have hnl2 := b2.lt
  have n3' : m ≠ w1.heap.size := fun e => n3 e.symm
  have B1 := Lib.hid b1
  have B2 := Lib.hid b2
  have Hrow2 := Lib.hid hrow2'
  have Hg2 := Lib.hid hg2
  have Hu2 := Lib.hid hu2
  clear c3 f3 hml hrow2 hgr2 hat2 hlt2 b1 b2 hrow2' hg2 hu2
  go_wp2_with fail
  go_ret
  exact ⟨rfl, HP1.out.then (Nat.le_refl _) (push_fin hM.out Hgr.out Hgc.out (by rw [Hgl.out]; exact Hrow2.out) B1.out B2.out n1 n2 n3 Hg2.out Hu2.out (by rw [Hgl.out]))⟩
end
end Go.Proofs.Ytndldoamadmphaa
