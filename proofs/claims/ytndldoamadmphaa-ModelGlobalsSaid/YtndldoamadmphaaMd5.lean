/- The model's instructions put, store, load. -/
import Derived.Test.YtndldoamadmphaaMd4
namespace Go.Proofs.Ytndldoamadmphaa
open Go.RowKit

section
variable {w w' : World} {c c' : Col} {m : Nat} {Y : Lay} {M : Mo} {S : Nat → Prop}
/-- What turns in one component (and in what is not the model's): all else stays. -/
theorem ModelAt.but3 (h : ModelAt w c m Y M) (hu : Upd S w w') (hc : Keep c c' w) (hf : ∀ k, w'.heap.size ≤ k → (c' k).1 = 7) (hS : ∀ k, S k → (c k).1 = 3 ∨ (c k).1 = 7) {gl : List Int} (hgl : GlC w' c' Y.glv gl) : ModelAt w' c' m Y { M with gl := gl } := by
  have hn : ∀ j, j ≠ 3 → j ≠ 7 → ∀ k, S k → (c k).1 ≠ j := fun j h2 h7 k e => by rcases hS k e with e | e <;> rw [e] <;> omega
  exact ⟨h.blk.upd hu (fun e => hn 0 (by decide) (by decide) m e (by rw [h.cm])), by rw [hc _ h.blk.lt]; exact h.cm, h.prog.frame hu hc (hn 8 (by decide) (by decide)), h.st.frame hu hc (hn 1 (by decide) (by decide)),
    h.gs.frame hu hc (hn 2 (by decide) (by decide)), hgl, h.sl.frame hu hc (hn 4 (by decide) (by decide)), h.tm.frame hu hc (hn 5 (by decide) (by decide)), h.wt.frame hu hc (hn 6 (by decide) (by decide)), hf⟩
theorem ModelAt.but4 (h : ModelAt w c m Y M) (hu : Upd S w w') (hc : Keep c c' w) (hf : ∀ k, w'.heap.size ≤ k → (c' k).1 = 7) (hS : ∀ k, S k → (c k).1 = 4 ∨ (c k).1 = 7) {sl : List (List Int)} (hsl : SlC w' c' Y.slv sl) : ModelAt w' c' m Y { M with sl := sl } := by
  have hn : ∀ j, j ≠ 4 → j ≠ 7 → ∀ k, S k → (c k).1 ≠ j := fun j h2 h7 k e => by rcases hS k e with e | e <;> rw [e] <;> omega
  exact ⟨h.blk.upd hu (fun e => hn 0 (by decide) (by decide) m e (by rw [h.cm])), by rw [hc _ h.blk.lt]; exact h.cm, h.prog.frame hu hc (hn 8 (by decide) (by decide)), h.st.frame hu hc (hn 1 (by decide) (by decide)),
    h.gs.frame hu hc (hn 2 (by decide) (by decide)), h.gl.frame hu hc (hn 3 (by decide) (by decide)), hsl, h.tm.frame hu hc (hn 5 (by decide) (by decide)), h.wt.frame hu hc (hn 6 (by decide) (by decide)), hf⟩
theorem ModelAt.but5 (h : ModelAt w c m Y M) (hu : Upd S w w') (hc : Keep c c' w) (hf : ∀ k, w'.heap.size ≤ k → (c' k).1 = 7) (hS : ∀ k, S k → (c k).1 = 5 ∨ (c k).1 = 7) {tm : List Sl} {made : Nat} (htm : TmC w' c' Y.ta tm made) : ModelAt w' c' m Y { M with tm := tm, made := made } := by
  have hn : ∀ j, j ≠ 5 → j ≠ 7 → ∀ k, S k → (c k).1 ≠ j := fun j h2 h7 k e => by rcases hS k e with e | e <;> rw [e] <;> omega
  exact ⟨h.blk.upd hu (fun e => hn 0 (by decide) (by decide) m e (by rw [h.cm])), by rw [hc _ h.blk.lt]; exact h.cm, h.prog.frame hu hc (hn 8 (by decide) (by decide)), h.st.frame hu hc (hn 1 (by decide) (by decide)),
    h.gs.frame hu hc (hn 2 (by decide) (by decide)), h.gl.frame hu hc (hn 3 (by decide) (by decide)), h.sl.frame hu hc (hn 4 (by decide) (by decide)), htm, h.wt.frame hu hc (hn 6 (by decide) (by decide)), hf⟩
theorem ModelAt.but6 (h : ModelAt w c m Y M) (hu : Upd S w w') (hc : Keep c c' w) (hf : ∀ k, w'.heap.size ≤ k → (c' k).1 = 7) (hS : ∀ k, S k → (c k).1 = 6 ∨ (c k).1 = 7) {wt : Nat → List Int} (hwt : WtC w' c' Y.wa wt) : ModelAt w' c' m Y { M with wt := wt } := by
  have hn : ∀ j, j ≠ 6 → j ≠ 7 → ∀ k, S k → (c k).1 ≠ j := fun j h2 h7 k e => by rcases hS k e with e | e <;> rw [e] <;> omega
  exact ⟨h.blk.upd hu (fun e => hn 0 (by decide) (by decide) m e (by rw [h.cm])), by rw [hc _ h.blk.lt]; exact h.cm, h.prog.frame hu hc (hn 8 (by decide) (by decide)), h.st.frame hu hc (hn 1 (by decide) (by decide)),
    h.gs.frame hu hc (hn 2 (by decide) (by decide)), h.gl.frame hu hc (hn 3 (by decide) (by decide)), h.sl.frame hu hc (hn 4 (by decide) (by decide)), h.tm.frame hu hc (hn 5 (by decide) (by decide)), hwt, hf⟩
theorem ModelAt.but1 (h : ModelAt w c m Y M) (hu : Upd S w w') (hc : Keep c c' w) (hf : ∀ k, w'.heap.size ≤ k → (c' k).1 = 7) (hS : ∀ k, S k → (c k).1 = 1 ∨ (c k).1 = 7) {st : List Int} (hst : StC w' c' Y.sa st) : ModelAt w' c' m Y { M with st := st } := by
  have hn : ∀ j, j ≠ 1 → j ≠ 7 → ∀ k, S k → (c k).1 ≠ j := fun j h2 h7 k e => by rcases hS k e with e | e <;> rw [e] <;> omega
  exact ⟨h.blk.upd hu (fun e => hn 0 (by decide) (by decide) m e (by rw [h.cm])), by rw [hc _ h.blk.lt]; exact h.cm, h.prog.frame hu hc (hn 8 (by decide) (by decide)), hst,
    h.gs.frame hu hc (hn 2 (by decide) (by decide)), h.gl.frame hu hc (hn 3 (by decide) (by decide)), h.sl.frame hu hc (hn 4 (by decide) (by decide)), h.tm.frame hu hc (hn 5 (by decide) (by decide)), h.wt.frame hu hc (hn 6 (by decide) (by decide)), hf⟩
theorem ModelAt.free' (h : ModelAt w c m Y M) (hu : Upd S w w') : ∀ k, w'.heap.size ≤ k → (c k).1 = 7 := fun k hk => h.free k (Nat.le_trans hu.size hk)

theorem ints_set (l : List Int) (i : Nat) (v : Int) : (ints l).set i (.int .i64 v) = ints (l.set i v) := by simp [ints, List.map_set]
def setGl (M : Mo) (b : Nat) (v : Int) : Mo := { M with gl := M.gl.set b v }
def setSl (M : Mo) (id i : Nat) (v : Int) : Mo := { M with sl := M.sl.set id ((M.sl.getD id []).set i v) }
theorem op_put {w1 : World} {vb : Nat} {cv : Array Value} (h : ModelAt w c m Y M) (hv : Blk w vb 34 cv) (hvc : (c vb).1 = 7) {gb b : Nat} {v : Int} (hr : ∃ row, Row w 3 row Y.glv (ints M.gl) ∧ (∀ k, row = some k → c k = (3, 0)) ∧ row = some gb)
    (hu : Upd (fun _ => False) (w.setCell ⟨gb, b, none⟩ (.int .i64 v)) w1) : OpPost w c m Y M vb w1 cv (setGl M b v) := by
  obtain ⟨row, h1, h2, h3⟩ := hr
  have hcg := h2 gb h3
  have hall : Upd (fun k => k = gb) w w1 := ((Upd.refl (fun k => k = gb) w).setCell (p := ⟨gb, b, none⟩) (.inl rfl) _).trans hu (fun _ e => e.elim)
  refine ⟨c, Y, h.but3 hall (Keep.refl _ _) (h.free' hall) (fun k e => by rw [e, hcg]; exact .inl rfl) ⟨row, ?_, h2⟩, hv.upd hall (fun e => by rw [e, hcg] at hvc; cases hvc), hall.mono (fun k e => .inl (.inl ?_)), Keep.refl _ _, fun _ _ => rfl, fun k hk _ => .inr (h.free k hk)⟩
  · rw [← ints_set]
    exact (h1.set_ h3 b _).upd hu (fun _ _ e => e)
  · rw [e, hcg]; show 3 < 7; omega
theorem SlC.set_ {id i : Nat} {v : Int} {sv : Value} {sl : List (List Int)} (h : SlC w c sv sl) (hid : id < sl.length) : ∀ {r : Nat}, (∃ u row vs, Row w 44 row sv vs ∧ vs[id]? = some u ∧ Row w 3 (some r) u (ints (sl.getD id []))) → c r = (4, id + 1) →
    SlC (w.setCell ⟨r, i, none⟩ (.int .i64 v)) c sv (sl.set id ((sl.getD id []).set i v)) := by
  intro r hr hcr
  obtain ⟨row, vs, h1, h2, h3, h4⟩ := h
  obtain ⟨u', row', vs', k1, k2, k3⟩ := hr
  have hset : Upd (fun k => k = r) w (w.setCell ⟨r, i, none⟩ (.int .i64 v)) := (Upd.refl (fun k => k = r) w).setCell (p := ⟨r, i, none⟩) (.inl rfl) _
  have hrow : ∀ k, row = some k → k ≠ r := fun k hk e => by
    have := h2 k hk
    rw [e, hcr] at this
    cases this
  have hvs : vs = vs' := by
    obtain ⟨u1, _, h5, _, _⟩ := h4 id (sl.getD id []) (by simp [List.getD, hid])
    have hlt := (List.getElem?_eq_some_iff.1 h5).1
    rcases h1.form with ⟨hv, h0, _⟩ | ⟨g, cap, hv, _, _, _, _, hc1, _⟩
    · rw [h0] at hlt; simp at hlt
    · rcases k1.form with ⟨hv', _, _⟩ | ⟨g', cap', hv', _, _, _, _, hc2, _⟩
      · rw [hv] at hv'; cases hv'
      · rw [hv] at hv'
        injection hv' with e1 e2 _
        injection e1 with e1
        injection e1 with e1
        subst e1
        apply List.ext_getElem?
        intro j
        by_cases hj : j < vs.length
        · have a1 := hc1 j vs[j] (List.getElem?_eq_getElem hj)
          have a2 := hc2 j (vs'[j]'(by omega)) (List.getElem?_eq_getElem (by omega))
          rw [a1] at a2
          injection a2 with a2
          rw [List.getElem?_eq_getElem hj, List.getElem?_eq_getElem (by omega), a2]
        · rw [List.getElem?_eq_none (by omega), List.getElem?_eq_none (by omega)]
  subst hvs
  refine ⟨row, vs, h1.upd hset (fun k hk e => hrow k hk e), h2, by rw [List.length_set]; exact h3, fun j l hj => ?_⟩
  rw [List.getElem?_set] at hj
  by_cases e : id = j
  · subst e
    rw [if_pos rfl, if_pos hid] at hj
    injection hj with hj
    subst hj
    refine ⟨u', some r, k2, ?_, fun k hk => by injection hk with hk; rw [← hk]; exact hcr⟩
    rw [← ints_set]
    exact k3.set_ rfl i _
  · rw [if_neg e] at hj
    obtain ⟨u, r', h5, h6, h7⟩ := h4 j l hj
    refine ⟨u, r', h5, h6.upd hset (fun k hk e2 => ?_), h7⟩
    have := h7 k hk
    rw [e2, hcr] at this
    injection this with _ this
    omega
end
section
variable {w : World} {c : Col} {m : Nat} {Y : Lay} {M : Mo} {vb g : Nat} {cv : Array Value}
set_option maxRecDepth 100000 in
set_option maxHeartbeats 1000000 in
theorem oput_c (h : ModelAt w c m Y M) (hv : Blk w vb 34 cv) (hvc : (c vb).1 = 7) (hg : g < M.gs.length) (i : In) {a b : Nat} (ha : i.a = a) (ha2 : a < M.gl.length) (hb : i.b = b) (hb2 : b < 16) :
    Calls Try.prog 62 #[.pointer (some ⟨m, 0, none⟩), .int .i64 g, .pointer (some ⟨Y.gp g, 0, none⟩), i.v, .pointer (some ⟨vb, 4, none⟩)] w fun e w' => e = .returned (.int .i64 1) ∧ OpPost w c m Y M vb w' cv (setGl M a ((gorAt M g).stack b)) := by
  have H := Lib.hid h
  have Hv := Lib.hid hv
  have hxb := (h.gs.g g _ (gorAt_get hg)).1
  have hxl := hxb.lt
  have x1 := hxb.cell (3 + b)
  rw [gorV_stack _ hb2] at x1
  obtain ⟨grow, hgrow, hgcol⟩ := h.gl
  obtain ⟨gb, gcap, hgv, hgr, hgbl, hgc, hgf⟩ := hgrow.at_ (ints_get ha2)
  rw [show (ints M.gl).length = M.gl.length by simp [ints]] at hgv
  have c4 := h.c4
  have HR := Lib.hid (show ∃ row, Row w 3 row Y.glv (ints M.gl) ∧ (∀ k, row = some k → c k = (3, 0)) ∧ row = some gb from ⟨grow, hgrow, hgcol, hgr⟩)
  rw [hgv] at c4
  have hml := h.blk.lt
  have haI : (a : Int) < (M.gl.length : Int) := by omega
  have hbI : (b : Int) < 16 := by omega
  obtain ⟨u0, hu0⟩ : ∃ u, u = M.gl.getD a 0 := ⟨_, rfl⟩
  rw [← hu0] at hgc
  unfold In.v
  rw [ha, hb]
  clear h hv hxb ha hb hgrow hgcol hgv hgr hu0
  go_enter Try.func62, Try.ntmps62
  go_wp2_with fail
  go_region
  go_wp2_with fail
  go_ret
  exact ⟨rfl, op_put H.out Hv.out hvc HR.out (((Upd.refl _ _).alloc _).drew)⟩

/-- The object and slot that a stack's place tells: id. -/
theorem slotNo (M : Mo) {id i : Nat} (h : ¬ (id ≠ 0 ∧ i < (M.sl.getD id []).length)) : ¬ slotOK M id i := by
  unfold slotOK
  rw [show ((id : Int)).toNat = id by omega]
  omega
theorem slotYes (M : Mo) {id i : Nat} (h : id ≠ 0 ∧ i < (M.sl.getD id []).length) : slotOK M id i := by
  unfold slotOK
  rw [show ((id : Int)).toNat = id by omega]
  omega
theorem op_store {w1 : World} (h : ModelAt w c m Y M) (hv : Blk w vb 34 cv) (hvc : (c vb).1 = 7) {r id j : Nat} {v : Int} (hid : id < M.sl.length) (hcr : c r = (4, id + 1)) (hr : ∃ u row vs, Row w 44 row Y.slv vs ∧ vs[id]? = some u ∧ Row w 3 (some r) u (ints (M.sl.getD id [])))
    (hu : Upd (fun _ => False) (w.setCell ⟨r, j, none⟩ (.int .i64 v)) w1) : OpPost w c m Y M vb w1 cv (setSl M id j v) := by
  have hall : Upd (fun k => k = r) w w1 := ((Upd.refl (fun k => k = r) w).setCell (p := ⟨r, j, none⟩) (.inl rfl) _).trans hu (fun _ e => e.elim)
  refine ⟨c, Y, h.but4 hall (Keep.refl _ _) (h.free' hall) (fun k e => by rw [e, hcr]; exact .inl rfl) ?_, hv.upd hall (fun e => by rw [e, hcr] at hvc; cases hvc), hall.mono (fun k e => .inl (.inl ?_)), Keep.refl _ _, fun _ _ => rfl, fun k hk _ => .inr (h.free k hk)⟩
  · exact (h.sl.set_ hid hr hcr).frame hu (Keep.refl _ _) (fun _ e => e.elim)
  · rw [e, hcr]; show 4 < 7; omega
set_option maxRecDepth 100000 in
set_option maxHeartbeats 2000000 in
theorem ostore_yes (h : ModelAt w c m Y M) (hv : Blk w vb 34 cv) (hvc : (c vb).1 = 7) (hg : g < M.gs.length) (i : In) {a b d id : Nat} (ha : i.a = a) (ha2 : a < 16) (hb : i.b = b) (hd : i.c = d) (hd2 : d < 16) (hid : (gorAt M g).stack a = id) (hidl : id < M.sl.length) (hyes : slotOK M id b) :
    Calls Try.prog 58 #[.pointer (some ⟨m, 0, none⟩), .int .i64 g, .pointer (some ⟨Y.gp g, 0, none⟩), i.v, .pointer (some ⟨vb, 4, none⟩)] w fun e w' => e = .returned (.int .i64 1) ∧ OpPost w c m Y M vb w' cv (setSl M id b ((gorAt M g).stack d)) := by
  have H := Lib.hid h
  have Hv := Lib.hid hv
  have hxb := (h.gs.g g _ (gorAt_get hg)).1
  have hxl := hxb.lt
  have x1 := hxb.cell (3 + d)
  rw [gorV_stack _ hd2] at x1
  have hdI : (d : Int) < 16 := by omega
  have hw1 : Upd (fun _ => False) w (w.alloc (.cells #[.int .i64 i.op, .int .i64 a, .int .i64 b, .int .i64 d] 40)).drew := ((Upd.refl _ _).alloc _).drew
  have h1 := h.frame hw1 (fun _ e => e.elim)
  obtain ⟨r, hcr, hrl, hrc, hrf, hrr, hcall⟩ := slot_yes h hg ha2 hid hidl hyes
  obtain ⟨r', hcr', hrl', hrc', hrf', hrr', hcall'⟩ := slot_yes h1 hg ha2 hid hidl hyes
  have hrr2 : r' = r := by
    obtain ⟨u, row, vs, k1, k2, k3⟩ := hrr
    obtain ⟨u', row', vs', k1', k2', k3'⟩ := hrr'
    have a1 := k1.upd hw1 (fun _ _ e => e)
    obtain ⟨ga, ca, hva, _, _, hca, _⟩ := a1.at_ k2
    obtain ⟨gb, cb, hvb, _, _, hcb, _⟩ := k1'.at_ k2'
    rw [hva] at hvb
    injection hvb with e1 _ _
    injection e1 with e1
    injection e1 with e1
    subst e1
    rw [hca] at hcb
    injection hcb with hcb
    subst hcb
    have b1 := k3.2
    have b2 := k3'.2
    rw [b1] at b2
    injection b2 with b2
    exact b2.symm
  subst hrr2
  have Hcall := Lib.hid hcall'
  have Hrr := Lib.hid hrr
  unfold In.v
  rw [ha, hb, hd]
  obtain ⟨u0, hu0⟩ : ∃ u, u = (M.sl.getD id []).getD b 0 := ⟨_, rfl⟩
  rw [← hu0] at hrc
  clear h hv hxb ha hb hd hid hyes h1 hw1 hrc' hrf' hrl' hcr' hrr' hcall hcall' hrr hu0
  go_enter Try.func58, Try.ntmps58
  go_wp2_with fail
  refine wp_still_tail 15 (by kernel_rfl) (by kernel_rfl) ?_
  simp only [List.take_succ_cons, List.take_zero, List.drop_succ_cons, List.drop_zero]
  repeat still_step
  still_call (still_of Hcall.out)
  repeat still_step
  refine wpStill_nil ?_
  go_wp2_with fail
  go_ret
  exact ⟨rfl, op_store H.out Hv.out hvc hidl hcr Hrr.out ((Upd.refl _ _).alloc _).drew⟩
end
end Go.Proofs.Ytndldoamadmphaa
