/- The model's instruction alloc. -/
import Derived.Test.YtndldoamadmphaaMd10
import Derived.Deep.OwnRows
namespace Go.Proofs.Ytndldoamadmphaa
open Go.RowKit
theorem RowN.drewD {w : World} {e : TypeId} {size : Nat} {row : Option Nat} {v : Value} {n : Nat} {xs : List Value} (h : RowN w e size row v n xs) : RowN w.drew e size row v n xs := h
theorem news_atD {W : World} {n : Nat} (h : n = W.heap.size) (u : Value) (t : TypeId) : ∀ (j : Nat) (x : Value), [u][j]? = some x → (W.alloc (.cells #[u] t)).drew.cell? ((⟨n, 0, none⟩ : Addr).add j) = some x := news_at h u t
def zeros (n : Nat) : List Int := List.replicate n 0
theorem made_zeros (n : Nat) : (madeCells #[Value.int .i64 0] n).toList = ints (zeros n) := by
  apply List.ext_getElem
  · simp [ints, zeros, size_madeCells]
  · intro i h1 h2
    simp [madeCells, ints, zeros, Nat.mod_one]
section
variable {w w' w1 : World} {c c1 : Col} {m : Nat} {Y Y1 : Lay} {M M1 : Mo} {vb g : Nat} {cv cv1 : Array Value}
theorem sl_push {row : Option Nat} {vs : List Value} {g2 cap nb k : Nat} (h : ModelAt w c m Y M) (h1 : Row w 44 row Y.slv vs) (hcr : ∀ k, row = some k → c k = (4, 0)) (hvs : vs.length = M.sl.length)
    (hel : ∀ i l, M.sl[i]? = some l → ∃ u r, vs[i]? = some u ∧ Row w 3 r u (ints l) ∧ ∀ k, r = some k → c k = (4, i + 1))
    (hm : Blk w' m 72 ((modV Y M).setIfInBounds 5 (.slice (some ⟨g2, 0, none⟩) (M.sl.length + 1) cap))) (hrow : Row w' 44 (some g2) (.slice (some ⟨g2, 0, none⟩) (M.sl.length + 1) cap) (vs ++ [.slice (some ⟨nb, 0, none⟩) k k]))
    (hx : Row w' 3 (some nb) (.slice (some ⟨nb, 0, none⟩) k k) (ints (zeros k))) (hnb : w.heap.size ≤ nb) (hg2 : row = some g2 ∨ w.heap.size ≤ g2) (hne : g2 ≠ nb) (hu : Upd (fun k => k = m ∨ row = some k) w w') :
    MPost w c m Y M w' { M with sl := M.sl ++ [zeros k] } := by
  have hS : ∀ k, (k = m ∨ row = some k) → (c k).1 = 0 ∨ (c k).1 = 4 := by
    rintro k (rfl | e)
    · rw [h.cm]; exact .inl rfl
    · rw [hcr k e]; exact .inr rfl
  have hn : ∀ j, j ≠ 0 → j ≠ 4 → ∀ k, (k = m ∨ row = some k) → (c k).1 ≠ j := fun j h2 h7 k e => by rcases hS k e with e | e <;> rw [e] <;> omega
  obtain ⟨c', hc'⟩ : ∃ c' : Col, c' = fun k => if w.heap.size ≤ k ∧ k < w'.heap.size then (if k = nb then (4, M.sl.length + 1) else (4, 0)) else c k := ⟨_, rfl⟩
  have hKeep : Keep c c' w := by
    intro k hk
    rw [hc']
    simp only
    rw [if_neg (by omega)]
  have hfree : ∀ k, w'.heap.size ≤ k → (c' k).1 = 7 := by
    intro k hk
    rw [hc']
    simp only
    rw [if_neg (by omega)]
    exact h.free k (Nat.le_trans hu.size hk)
  have hnbl := hx.lt nb rfl
  have hg2l := hrow.lt g2 rfl
  have hml := h.blk.lt
  refine ⟨c', { Y with slv := .slice (some ⟨g2, 0, none⟩) (M.sl.length + 1) cap }, ⟨?_, by rw [hKeep _ hml]; exact h.cm, h.prog.frame hu hKeep (hn 8 (by decide) (by decide)), h.st.frame hu hKeep (hn 1 (by decide) (by decide)), h.gs.frame hu hKeep (hn 2 (by decide) (by decide)),
    h.gl.frame hu hKeep (hn 3 (by decide) (by decide)), ?_, h.tm.frame hu hKeep (hn 5 (by decide) (by decide)), h.wt.frame hu hKeep (hn 6 (by decide) (by decide)), hfree⟩,
    hu.mono (fun k e => .inl ?_), hKeep, fun _ _ => rfl, fun k hk hk2 => ?_⟩
  · have e : (modV Y M).setIfInBounds 5 (.slice (some ⟨g2, 0, none⟩) (M.sl.length + 1) cap) = modV { Y with slv := .slice (some ⟨g2, 0, none⟩) (M.sl.length + 1) cap } { M with sl := M.sl ++ [zeros k] } := by simp [modV]
    rw [← e]
    exact hm
  · refine ⟨some g2, _, hrow, fun k hk => ?_, by simp [hvs], fun i l hi => ?_⟩
    · injection hk with hk
      subst hk
      rcases hg2 with e | e
      · rw [hKeep _ (h1.lt g2 e)]
        exact hcr g2 e
      · rw [hc']
        simp only
        rw [if_pos ⟨e, hg2l⟩, if_neg hne]
    · rw [List.getElem?_append] at hi
      by_cases hil : i < M.sl.length
      · rw [if_pos hil] at hi
        obtain ⟨u, r, b1, b2, b3⟩ := hel i l hi
        refine ⟨u, r, by rw [List.getElem?_append_left (by rw [hvs]; exact hil)]; exact b1, b2.upd hu (fun k hk e => ?_), fun k hk => by rw [hKeep _ (b2.lt k hk)]; exact b3 k hk⟩
        have hk3 := b3 k hk
        rcases e with e | e
        · rw [e, h.cm] at hk3; cases hk3
        · rw [hcr _ e] at hk3; cases hk3
      · rw [if_neg hil] at hi
        have hi2 : i = M.sl.length := by
          have := (List.getElem?_eq_some_iff.1 hi).1
          simp at this
          omega
        subst hi2
        simp at hi
        subst hi
        refine ⟨.slice (some ⟨nb, 0, none⟩) k k, some nb, ?_, hx, fun j hj => ?_⟩
        · rw [← hvs, List.getElem?_append_right (Nat.le_refl _)]
          simp
        · injection hj with hj
          subst hj
          rw [hc']
          simp [hnb, hnbl]
  · show (c k).1 < 7
    rcases hS k e with e | e <;> rw [e] <;> omega
  · rw [hc']
    simp only
    rw [if_pos ⟨hk, hk2⟩]
    split
    · exact .inl (show 4 < 7 by omega)
    · exact .inl (show 4 < 7 by omega)
theorem alloc_facts {W : World} {row : Option Nat} {vs : List Value} {g2 cap k n : Nat} {t : TypeId} {bx : Array Value} (hn : vs.length = n) (h : ModelAt w c m Y M) (hv : Blk w vb 34 cv) (hvc : (c vb).1 = 7) (hg : g < M.gs.length) (h1 : Row w 44 row Y.slv vs) (hcr : ∀ k, row = some k → c k = (4, 0))
    (hk : k ≤ maxLen) (hW : W = (((w.alloc (.cells bx 40)).alloc (.cells (madeCells #[Value.int .i64 0] k) 3)).alloc (.cells #[.slice (some ⟨w.heap.size + 1, 0, none⟩) k k] t)).drew)
    (hrow1 : RowN w1 44 1 (some g2) (.slice (some ⟨g2, 0, none⟩) (n + 1) cap) (n + 1) (vs ++ [.slice (some ⟨w.heap.size + 1, 0, none⟩) k k]))
    (hg1 : W.grownBy w1 row) (hat : row = some g2 ∨ g2 = W.heap.size) :
    Blk w1 m 72 (modV Y M) ∧ Blk w1 vb 34 cv ∧ Blk w1 (Y.gp g) 77 (gorV (gorAt M g)) ∧ Blk w1 w.heap.size 40 bx ∧ Row w1 3 (some (w.heap.size + 1)) (.slice (some ⟨w.heap.size + 1, 0, none⟩) k k) (ints (zeros k)) ∧
      g2 ≠ m ∧ g2 ≠ w.heap.size + 1 ∧ (row = some g2 ∨ w.heap.size ≤ g2) ∧ Upd (fun k => row = some k) w w1 := by
  subst hn
  have hml := h.blk.lt
  have hrl : ∀ k, row = some k → k < w.heap.size := h1.lt
  have hu : Upd (fun k => row = some k) w w1 := by
    rw [hW] at hg1
    exact ((((Upd.refl _ _).alloc _).alloc _).alloc _).drew.grown hg1 (fun k hk => .inl hk)
  have hWs : W.heap.size = w.heap.size + 1 + 1 + 1 := by rw [hW]; simp
  have hz : Blk w1 (w.heap.size + 1) 3 (madeCells #[Value.int .i64 0] k) := by
    rw [hW] at hg1
    exact (((Blk.new' (g := w.heap.size + 1) (w.alloc (.cells bx 40)) 3 (madeCells #[Value.int .i64 0] k) (by simp)).alloc _).drew).grown hg1 (fun e => by have := hrl _ e.symm; omega)
  have hb : Blk w1 w.heap.size 40 bx := by
    rw [hW] at hg1
    exact (((Blk.new w 40 bx).alloc _).alloc _).drew.grown hg1 (fun e => by have := hrl _ e.symm; omega)
  refine ⟨h.blk.upd hu (fun e => by have := hcr _ e; rw [h.cm] at this; cases this), hv.upd hu (fun e => by have := hcr _ e; rw [this] at hvc; cases hvc), ?_, hb, ?_, ?_, ?_, ?_, hu⟩
  · obtain ⟨a1, a2⟩ := h.gs.g g _ (gorAt_get hg)
    exact a1.upd hu (fun e => by have := hcr _ e; rw [a2] at this; cases this)
  · have := Row.of_block (xs := ints (zeros k)) (cap := k) hz (by simp [ints, zeros]) hk (by rw [size_madeCells]; try simp) (by rw [made_zeros]; exact List.take_of_length_le (Nat.le_refl _))
    rwa [show (ints (zeros k)).length = k by simp [ints, zeros]] at this
  · rintro rfl
    rcases hat with e | e
    · have := hcr _ e; rw [h.cm] at this; cases this
    · omega
  · rcases hat with e | e
    · have := hrl _ e; omega
    · omega
  · rcases hat with e | e
    · exact .inl e
    · exact .inr (by omega)
theorem alloc_left {row : Option Nat} {vs : List Value} {g2 cap k : Nat} (h : ModelAt w c m Y M) (h1 : Row w 44 row Y.slv vs) (hcr : ∀ k, row = some k → c k = (4, 0)) (hvs : vs.length = M.sl.length)
    (hel : ∀ i l, M.sl[i]? = some l → ∃ u r, vs[i]? = some u ∧ Row w 3 r u (ints l) ∧ ∀ k, r = some k → c k = (4, i + 1)) (hb : Blk w1 m 72 (modV Y M)) (hrow : Row w1 44 (some g2) (.slice (some ⟨g2, 0, none⟩) (M.sl.length + 1) cap) (vs ++ [.slice (some ⟨w.heap.size + 1, 0, none⟩) k k]))
    (hz : Row w1 3 (some (w.heap.size + 1)) (.slice (some ⟨w.heap.size + 1, 0, none⟩) k k) (ints (zeros k))) (n1 : g2 ≠ m) (n2 : g2 ≠ w.heap.size + 1) (hg2 : row = some g2 ∨ w.heap.size ≤ g2) (hu : Upd (fun k => row = some k) w w1) :
    MPost w c m Y M (w1.setCell ⟨m, 5, none⟩ (.slice (some ⟨g2, 0, none⟩) (M.sl.length + 1) cap)) { M with sl := M.sl ++ [zeros k] } := by
  have hml := h.blk.lt
  have hset : Upd (fun k => k = m) w1 (w1.setCell ⟨m, 5, none⟩ (.slice (some ⟨g2, 0, none⟩) (M.sl.length + 1) cap)) := (Upd.refl (fun k => k = m) w1).setCell (p := ⟨m, 5, none⟩) (.inl rfl) _
  exact sl_push h h1 hcr hvs hel (hb.set_ 5 _) (hrow.upd hset (fun k hk e => n1 (by injection hk with hk; omega))) (hz.upd hset (fun k hk e => by injection hk with hk; omega)) (by omega) hg2 n2
    ((hu.mono (fun k e => .inl (.inr e))).trans hset (fun k e => .inl (.inl e)))
set_option maxRecDepth 100000 in
set_option maxHeartbeats 2000000 in
theorem oalloc_c (h : ModelAt w c m Y M) (hv : Blk w vb 34 cv) (hvc : (c vb).1 = 7) (hcv : ∃ u : Int, cv[4]? = some (.int .i64 u)) (hg : g < M.gs.length) (i : In) {a b : Nat} (ha : i.a = a) (ha2 : a < 16) (hb : i.b = b) (hb2 : b < 256) (hsl : M.sl.length < 900000) :
    Calls Try.prog 56 #[.pointer (some ⟨m, 0, none⟩), .int .i64 g, .pointer (some ⟨Y.gp g, 0, none⟩), i.v, .pointer (some ⟨vb, 4, none⟩)] w fun e w' => e = .returned (.int .i64 1) ∧
      OpPost w c m Y M vb w' (cv.setIfInBounds 4 (.int .i64 M.sl.length)) (setG { M with sl := M.sl ++ [zeros (b + 1)] } g (stk (gorAt M g) a M.sl.length)) := by
  obtain ⟨i0, hi, hz0, hz1, hz2⟩ := info_parts (show Option.map (fun i => (i.zero, i.size, i.bytes)) (Try.prog.info? 44) = some (some (.slice none 0 0), 1, 24) from by kernel_rfl)
  have H := Lib.hid h
  have Hv := Lib.hid hv
  have hml := h.blk.lt
  have hvl := hv.lt
  have c5 := h.c5
  have c5a : ∀ o1 o2 o3 : Obj, (((w.alloc o1).alloc o2).alloc o3).cell? ⟨m, 5, none⟩ = some Y.slv := fun o1 o2 o3 => (((h.blk.alloc o1).alloc o2).alloc o3).cell 5
  obtain ⟨row, vs, h1, hcr, hvs, hel⟩ := h.sl
  have ec : ((b + 1 : Nat) : Int) = (b : Int) + 1 := by omega
  have hmk := fun w => run_make_row' (P := Try.prog) 44 3 (.int .i64 0) 8 Try.underlying44 (by kernel_rfl) rfl .i64 .i64 (b + 1) (by omega) (by omega) w
  rw [ec] at hmk
  have hwr : IntKind.i64.wrap ((b : Int) + 1) = (b : Int) + 1 := by rw [IntKind.wrap_i64]; omega
  have H1 := Lib.hid h1
  have Hcr := Lib.hid hcr
  have Hvs := Lib.hid hvs
  have Hel := Lib.hid hel
  have Hcv := Lib.hid hcv
  have hbI : (b : Int) < 256 := by omega
  unfold In.v
  rw [ha, hb]
  clear h hv h1 hcr hvs hel hcv ha hb ec
  go_enter Try.func56, Try.ntmps56
  go_wp2_with fail
  go_region_law (refine step_append_rowN rfl (.tmp 15) (.tmp 20) 65 rfl 44 i0 (.slice none 0 0) 1 24 Try.underlying65 hi hz0 hz1 hz2 rfl (by decide) Y.slv rfl row vs.length vs (RowN.drewD ((((Row.toN H1.out).alloc _).alloc _).alloc _)) ⟨w.heap.size + 1 + 1, 0, none⟩ 1 1 [.slice (some ⟨w.heap.size + 1, 0, none⟩) (b + 1) (b + 1)] rfl rfl (news_atD (by simp) _ _) (oneCell_one rfl) (by omega) (by rw [Hvs.out]; unfold maxLen; omega) (by rw [Hvs.out]; omega) ?_; intro g2 cap2 w1 hrow1 hg1 hat1 hlt1; obtain ⟨b1, b2, b3, b4, zr, n1, n2, hg2, hu1⟩ := alloc_facts (bx := #[.int .i64 i.op, .int .i64 a, .int .i64 b, .int .i64 i.c]) (k := b + 1) (t := 44) rfl H.out Hv.out hvc hg H1.out Hcr.out (by unfold maxLen; omega) rfl hrow1 hg1 hat1; have c5' : w1.cell? ⟨m, 5, none⟩ = some Y.slv := b1.cell 5; have f5' := b1.frozen 5; have hml1 := b1.lt)
  all_goals
    rw [Hvs.out] at hrow1 ⊢
    have hL0 := alloc_left H.out H1.out Hcr.out Hvs.out Hel.out b1 hrow1.to1 zr n1 n2 hg2 hu1
    have hb5 := (b1.set_ 5 (.slice (some ⟨g2, 0, none⟩) (M.sl.length + 1) cap2)).cell 5
    have hbx := b4.far (p := ⟨m, 5, none⟩) (by show w.heap.size ≠ m; omega) (.slice (some ⟨g2, 0, none⟩) (M.sl.length + 1) cap2)
    obtain ⟨w2, hw2⟩ : ∃ w2, w2 = w1.setCell ⟨m, 5, none⟩ (.slice (some ⟨g2, 0, none⟩) (M.sl.length + 1) cap2) := ⟨_, rfl⟩
    rw [← hw2] at hL0 hb5 hbx ⊢
    obtain ⟨c1, Y1, hL⟩ := hL0.left
    obtain ⟨hv2, hvc2⟩ := hL.vbk Hv.out hvc
    have hgp : Y1.gp g = Y.gp g := hL.2.2.2.1 g hg
    obtain ⟨hxb, hcg⟩ := hL.1.gs.g g _ (gorAt_get hg)
    rw [hgp] at hxb hcg
    have c52 : w2.cell? ⟨m, 5, none⟩ = some (.slice (some ⟨g2, 0, none⟩) (M.sl.length + 1) cap2) := by
      rw [hb5]
      simp [modV]
    obtain ⟨u0, hu0⟩ := Hcv.out
    have v4 := (hv2.cell 4).trans hu0
    have vf := hv2.frozen 4
    have hvl2 := hv2.lt
    have x0 := hxb.cell (3 + a)
    rw [gorV_stack _ ha2] at x0
    have f0 := hxb.frozen (3 + a)
    have hxl := hxb.lt
    have bx1 : w2.cell? ⟨w.heap.size, 1, none⟩ = some (.int .i64 a) := hbx.cell 1
    have hbxl := hbx.lt
    have hne : vb ≠ Y.gp g := fun e => by rw [e, hcg] at hvc2; cases hvc2
    have hne2 : Y.gp g ≠ vb := fun e => hne e.symm
    have hne3 : w.heap.size ≠ vb := by omega
    have hne4 : vb ≠ w.heap.size := by omega
    have hgl0 : Y.gp g < w.heap.size := (H.out.gs.g g _ (gorAt_get hg)).1.lt
    have haI : (a : Int) < 16 := by omega
    have HL := Lib.hid hL
    have Hv2 := Lib.hid hv2
    have Hgp := Lib.hid hgp
    clear b1 b2 b3 b4 zr hu1 hL0 hL hb5 hbx hv2 hxb hgp hu0 hw2 hrow1 hg1 hat1 hlt1 c5' f5' c5a hg2 hcg hmk hwr
    go_wp2_with fail
    go_region
    go_wp2_with fail
    go_ret
    exact ⟨rfl, HL.out.thenOp (Nat.le_refl _) (op_both (M := { M with sl := M.sl ++ [zeros (b + 1)] }) HL.out.1 Hv2.out hvc2 hg (3 + a) _ _ _ (gorV_set _ _ _ ha2) (by rw [Hgp.out]; exact (Upd.refl _ _).drew))⟩
end
end Go.Proofs.Ytndldoamadmphaa
