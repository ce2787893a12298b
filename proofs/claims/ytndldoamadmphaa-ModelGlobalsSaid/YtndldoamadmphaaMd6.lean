/- The model's instructions load, sleep, block. -/
import Derived.Test.YtndldoamadmphaaMd5
namespace Go.Proofs.Ytndldoamadmphaa
open Go.RowKit
section
variable {w : World} {c : Col} {m : Nat} {Y : Lay} {M : Mo} {vb g : Nat} {cv : Array Value}
set_option maxRecDepth 100000 in
set_option maxHeartbeats 1000000 in
theorem oload_no (h : ModelAt w c m Y M) (hv : Blk w vb 34 cv) (hg : g < M.gs.length) (i : In) {b d id : Nat} (hb : i.b = b) (hb2 : b < 16) (hd : i.c = d) (hid : (gorAt M g).stack b = id) (hidl : id < M.sl.length) (hno : ¬ slotOK M id d) :
    Calls Try.prog 57 #[.pointer (some ⟨m, 0, none⟩), .int .i64 g, .pointer (some ⟨Y.gp g, 0, none⟩), i.v, .pointer (some ⟨vb, 4, none⟩)] w fun e w' => e = .panicked [{ v := faultV, recovered := false }] ∧ OpPost w c m Y M vb w' cv M := by
  have H := Lib.hid h
  have Hv := Lib.hid hv
  have hw1 : Upd (fun _ => False) w (w.alloc (.cells #[.int .i64 i.op, .int .i64 i.a, .int .i64 b, .int .i64 d] 40)) := (Upd.refl _ _).alloc _
  have h1 := h.frame hw1 (fun _ e => e.elim)
  have Hcall := Lib.hid (slot_no h1 hg hb2 hid hidl hno)
  unfold In.v
  rw [hb, hd]
  clear h hv hb hd hid hno h1 hw1
  go_enter Try.func57, Try.ntmps57
  go_wp2_with fail
  refine Hcall.out.mono ?_
  rintro e w1 ⟨rfl, rfl⟩
  exact ⟨rfl, rfl, op_none H.out Hv.out ((Upd.refl _ _).alloc _)⟩
/-- What tells a value and turns the goroutine. -/
theorem op_both {w1 : World} (h : ModelAt w c m Y M) (hv : Blk w vb 34 cv) (hvc : (c vb).1 = 7) (hg : g < M.gs.length) (j : Nat) (v u : Value) (x' : Gor) (hx : (gorV (gorAt M g)).setIfInBounds j u = gorV x')
    (hu : Upd (fun _ => False) ((w.setCell ⟨vb, 4, none⟩ v).setCell ⟨Y.gp g, j, none⟩ u) w1) : OpPost w c m Y M vb w1 (cv.setIfInBounds 4 v) (setG M g x') := by
  obtain ⟨hxb, hcg⟩ := h.gs.g g _ (gorAt_get hg)
  have hne : vb ≠ Y.gp g := fun e => by rw [e, hcg] at hvc; cases hvc
  have hall : Upd (fun k => k = Y.gp g ∨ k = vb) w w1 := (((Upd.refl (fun k => k = Y.gp g ∨ k = vb) w).setCell (p := ⟨vb, 4, none⟩) (.inl (.inr rfl)) _).setCell (p := ⟨Y.gp g, j, none⟩) (.inl (.inl rfl)) _).trans hu (fun _ e => e.elim)
  refine ⟨c, Y, h.setG hg x' ?_ hall (fun k e => by rw [e]; exact hvc), ?_, hall.mono (fun k e => .inl ?_), Keep.refl _ _, fun _ _ => rfl, fun k hk _ => .inr (h.free k hk)⟩
  · rw [← hx]
    exact ((hxb.far (fun e => hne e.symm) _).set_ j u).upd hu (fun e => e)
  · exact (((hv.set_ 4 v).far hne _)).upd hu (fun e => e)
  · rcases e with rfl | e
    · rw [hcg]; exact .inl (show 2 < 7 by omega)
    · exact .inr e
set_option maxRecDepth 100000 in
set_option maxHeartbeats 1000000 in
theorem oload_yes (h : ModelAt w c m Y M) (hv : Blk w vb 34 cv) (hvc : (c vb).1 = 7) (hcv : ∃ u : Int, cv[4]? = some (.int .i64 u)) (hg : g < M.gs.length) (i : In) {a b d id : Nat} (ha : i.a = a) (ha2 : a < 16) (hb : i.b = b) (hb2 : b < 16) (hd : i.c = d) (hid : (gorAt M g).stack b = id) (hidl : id < M.sl.length) (hyes : slotOK M id d) :
    Calls Try.prog 57 #[.pointer (some ⟨m, 0, none⟩), .int .i64 g, .pointer (some ⟨Y.gp g, 0, none⟩), i.v, .pointer (some ⟨vb, 4, none⟩)] w fun e w' => e = .returned (.int .i64 1) ∧
      OpPost w c m Y M vb w' (cv.setIfInBounds 4 (.int .i64 ((M.sl.getD id []).getD d 0))) (setG M g (stk (gorAt M g) a ((M.sl.getD id []).getD d 0))) := by
  have H := Lib.hid h
  have Hv := Lib.hid hv
  obtain ⟨hxb, hcg⟩ := h.gs.g g _ (gorAt_get hg)
  have hxl := hxb.lt
  have hvl := hv.lt
  have x0 := hxb.cell (3 + a)
  rw [gorV_stack _ ha2] at x0
  have f0 := hxb.frozen (3 + a)
  have haI : (a : Int) < 16 := by omega
  obtain ⟨u1, hu1⟩ := hcv
  have v4 := (hv.cell 4).trans hu1
  have vf := hv.frozen 4
  have hw1 : Upd (fun _ => False) w (w.alloc (.cells #[.int .i64 i.op, .int .i64 a, .int .i64 b, .int .i64 d] 40)) := (Upd.refl _ _).alloc _
  have h1 := h.frame hw1 (fun _ e => e.elim)
  obtain ⟨r, hcr, hrl, hrc, hrf, _, hcall⟩ := slot_yes h1 hg hb2 hid hidl hyes
  have Hcall := Lib.hid hcall
  obtain ⟨u0, hu0⟩ : ∃ u, u = (M.sl.getD id []).getD d 0 := ⟨_, rfl⟩
  have hml : M.sl = ({ M with sl := M.sl } : Mo).sl := rfl
  rw [← hu0] at hrc ⊢
  have hne : vb ≠ Y.gp g := fun e => by rw [e, hcg] at hvc; cases hvc
  have hne2 : Y.gp g ≠ vb := fun e => hne e.symm
  unfold In.v
  rw [ha, hb, hd]
  clear h hv hxb ha hb hd hid hyes h1 hw1 hcall hu0 hu1 hml hcg
  go_enter Try.func57, Try.ntmps57
  go_wp2_with fail
  refine Hcall.out.mono ?_
  rintro e w1 ⟨rfl, rfl⟩
  go_wp2_with fail
  go_region
  go_wp2_with fail
  go_ret
  exact ⟨rfl, op_both H.out Hv.out hvc hg (3 + a) _ _ _ (gorV_set _ _ _ ha2) (((Upd.refl _ _).alloc _).drew)⟩

/-- What came new from lo on, colored. -/
def recR (c : Col) (lo hi : Nat) (col : Nat × Nat) : Col := fun k => if lo ≤ k ∧ k < hi then col else c k
theorem recR_keep {c : Col} {w : World} {lo hi : Nat} {col : Nat × Nat} (h : w.heap.size ≤ lo) : Keep c (recR c lo hi col) w := by
  intro k hk
  unfold recR
  rw [if_neg (by omega)]
theorem recR_free {c : Col} {w w' : World} {lo : Nat} {col : Nat × Nat} (h : ∀ k, w.heap.size ≤ k → (c k).1 = 7) (hs : w.heap.size ≤ w'.heap.size) : ∀ k, w'.heap.size ≤ k → (recR c lo w'.heap.size col k).1 = 7 := by
  intro k hk
  unfold recR
  rw [if_neg (by omega)]
  exact h k (by omega)
theorem recR_at {c : Col} {lo hi k : Nat} {col : Nat × Nat} (hk : k < hi) (h : c k = col ∨ lo ≤ k) : recR c lo hi col k = col := by
  unfold recR
  split
  · rfl
  · rcases h with h | h
    · exact h
    · omega
theorem recR_old {c : Col} {lo hi k : Nat} {col : Nat × Nat} (hk : k < lo) : recR c lo hi col k = c k := by
  unfold recR
  rw [if_neg (by omega)]
theorem recR_new {c : Col} {w : World} {lo hi : Nat} {col : Nat × Nat} (hc : col.1 < 7) (h : ∀ k, w.heap.size ≤ k → (c k).1 = 7) : ∀ k, w.heap.size ≤ k → k < hi → (recR c lo hi col k).1 < 7 ∨ (recR c lo hi col k).1 = 7 := by
  intro k hk _
  unfold recR
  split
  · exact .inl hc
  · exact .inr (h k hk)

theorem tm_fin {W w' : World} {row row' : Option Nat} {v v' : Value} {tm' : List Sl} {made' : Nat} (h : ModelAt w c m Y M) (hv : Blk w vb 34 cv) (hvc : (c vb).1 = 7) (hW : Upd (fun _ => False) w W) (h1 : HAt w Y.ta row v M.tm M.made) (hct : c Y.ta = (5, 0)) (hcr : ∀ k, row = some k → c k = (5, 1))
    (k1 : HAt w' Y.ta row' v' tm' made') (hh : IsHeap tm' tm'.length) (k2 : Upd (fun k => k = Y.ta ∨ row = some k) W w') (k3 : ∀ k, row' = some k → row = some k ∨ W.heap.size ≤ k) : OpPost w c m Y M vb w' cv { M with tm := tm', made := made' } := by
  have hall : Upd (fun k => k = Y.ta ∨ row = some k) w w' := (hW.mono (fun _ e => e.elim)).trans k2 (fun _ e => .inl e)
  have hS : ∀ k, (k = Y.ta ∨ row = some k) → (c k).1 = 5 := by
    rintro k (rfl | e)
    · rw [hct]
    · rw [hcr k e]
  have hKeep : Keep c (recR c W.heap.size w'.heap.size (5, 1)) w := recR_keep hW.size
  have htl := h1.blk.lt
  refine ⟨recR c W.heap.size w'.heap.size (5, 1), Y, h.but5 hall hKeep (recR_free h.free hall.size) (fun k e => .inl (hS k e)) ⟨row', v', k1, hh, ?_, fun k hk => ?_⟩, ?_, hall.mono (fun k e => .inl (.inl ?_)), hKeep, fun _ _ => rfl, recR_new (by decide) h.free⟩
  · rw [hKeep _ htl, hct]
  · refine recR_at (RowN.lt k1.row k hk) ?_
    rcases k3 k hk with e | e
    · exact .inl (hcr k e)
    · exact .inr e
  · exact hv.upd hall (fun e => by have := hS vb e; omega)
  · rw [hS k e]; omega
set_option maxRecDepth 100000 in
set_option maxHeartbeats 1000000 in
theorem osleep_c (h : ModelAt w c m Y M) (hv : Blk w vb 34 cv) (hvc : (c vb).1 = 7) (i : In) (hb : 0 ≤ i.b ∧ i.b < 256) (hd : 0 ≤ i.c ∧ i.c < 256) (hl : M.tm.length < 900000) (hm : M.made < 900000) (hck : 0 ≤ M.clock ∧ M.clock < 1000000000000) :
    Calls Try.prog 65 #[.pointer (some ⟨m, 0, none⟩), .int .i64 g, .pointer (some ⟨Y.gp g, 0, none⟩), i.v, .pointer (some ⟨vb, 4, none⟩)] w fun e w' => e = .returned (.int .i64 3) ∧
      OpPost w c m Y M vb w' cv { M with tm := pushL M.tm ⟨M.clock + (256 * i.b + i.c + 1), g, (M.made : Int) + 1⟩, made := M.made + 1 } := by
  have H := Lib.hid h
  have Hv := Lib.hid hv
  have hml := h.blk.lt
  have c6 := h.c6
  have c8 := h.c8
  obtain ⟨row, v, h1, hh, hct, hcr⟩ := h.tm
  obtain ⟨b1, b2⟩ := hb
  obtain ⟨d1, d2⟩ := hd
  obtain ⟨k1, k2⟩ := hck
  have hW : Upd (fun _ => False) w (w.alloc (.cells #[.int .i64 i.op, .int .i64 i.a, .int .i64 i.b, .int .i64 i.c] 40)).drew := ((Upd.refl _ _).alloc _).drew
  have h1W := h1.upd hW (fun e => e) (fun _ _ e => e)
  have Hcall := Lib.hid (tadd_c h1W hl hm (M.clock + (256 * i.b + i.c + 1)) g)
  have Hh := Lib.hid hh
  have H1 := Lib.hid h1
  have Hcr := Lib.hid hcr
  have HW := Lib.hid hW
  have e1 : IntKind.i64.wrap (256 * i.b) = 256 * i.b := by rw [IntKind.wrap_i64]; omega
  have e2 : IntKind.i64.wrap (256 * i.b + i.c) = 256 * i.b + i.c := by rw [IntKind.wrap_i64]; omega
  have e3 : IntKind.i64.wrap (256 * i.b + i.c + 1) = 256 * i.b + i.c + 1 := by rw [IntKind.wrap_i64]; omega
  have e4 : IntKind.i64.wrap (M.clock + (256 * i.b + i.c + 1)) = M.clock + (256 * i.b + i.c + 1) := by rw [IntKind.wrap_i64]; omega
  unfold In.v
  clear h hv h1 hh hcr hW h1W
  go_enter Try.func65, Try.ntmps65
  go_wp2_with fail
  refine wp_still_tail 17 (by kernel_rfl) (by kernel_rfl) ?_
  simp only [List.take_succ_cons, List.take_zero, List.drop_succ_cons, List.drop_zero]
  repeat still_step
  refine wpStill_nil ?_
  clear e1 e2 e3 e4
  go_wp2_with fail
  refine Hcall.out.mono ?_
  rintro e w1 ⟨rfl, row', v', k1, k2, k3⟩
  have K1 := Lib.hid k1
  have K2 := Lib.hid k2
  have K3 := Lib.hid k3
  clear k1 k2 k3
  go_wp2_with fail
  go_ret
  have hk1 : HAt w1 Y.ta row' v' (pushL M.tm ⟨M.clock + (256 * i.b + i.c + 1), g, (M.made : Int) + 1⟩) ((M.made + 1 : Nat) : Int) := K1.out
  have hh2 : IsHeap (pushL M.tm ⟨M.clock + (256 * i.b + i.c + 1), g, (M.made : Int) + 1⟩) (pushL M.tm ⟨M.clock + (256 * i.b + i.c + 1), g, (M.made : Int) + 1⟩).length := by
    rw [pushL_len]
    exact push_heap Hh.out _
  exact ⟨rfl, tm_fin H.out Hv.out hvc HW.out H1.out hct Hcr.out hk1 hh2 K2.out K3.out⟩

theorem wt_fin {W w' : World} {vs vs' : Nat → Value} {rs rs' : Nat → Option Nat} {wt' : Nat → List Int} (h : ModelAt w c m Y M) (hv : Blk w vb 34 cv) (hvc : (c vb).1 = 7) (hW : Upd (fun _ => False) w W) (h1 : WtAt w Y.wa vs rs M.wt) (hct : c Y.wa = (6, 0)) (hcr : ∀ i, i < 32 → ∀ k, rs i = some k → (c k).1 = 6)
    (k1 : WtAt w' Y.wa vs' rs' wt') (k2 : Upd (ownW Y.wa rs) W w') (k3 : ∀ k, ownW Y.wa rs' k → ownW Y.wa rs k ∨ W.heap.size ≤ k) : OpPost w c m Y M vb w' cv { M with wt := wt' } := by
  have hall : Upd (ownW Y.wa rs) w w' := (hW.mono (fun _ e => e.elim)).trans k2 (fun _ e => .inl e)
  have hS : ∀ k, ownW Y.wa rs k → (c k).1 = 6 := by
    rintro k (rfl | ⟨i, hi, e⟩)
    · rw [hct]
    · exact hcr i hi k e
  have hKeep : Keep c (recR c W.heap.size w'.heap.size (6, 1)) w := recR_keep hW.size
  have htl := h1.blk.lt
  refine ⟨recR c W.heap.size w'.heap.size (6, 1), Y, h.but6 hall hKeep (recR_free h.free hall.size) (fun k e => .inl (hS k e)) ⟨vs', rs', k1, ?_, fun i hi k hk => ?_⟩, ?_, hall.mono (fun k e => .inl (.inl ?_)), hKeep, fun _ _ => rfl, recR_new (by decide) h.free⟩
  · rw [hKeep _ htl, hct]
  · unfold recR
    split
    · rfl
    · rename_i hn
      rcases k3 k (.inr ⟨i, hi, hk⟩) with e | e
      · exact hS k e
      · exact absurd ⟨e, (k1.row i hi).lt k hk⟩ hn
  · exact hv.upd hall (fun e => by have := hS vb e; omega)
  · rw [hS k e]; omega
set_option maxRecDepth 100000 in
set_option maxHeartbeats 1000000 in
theorem oblock_c (h : ModelAt w c m Y M) (hv : Blk w vb 34 cv) (hvc : (c vb).1 = 7) (i : In) (hl : ∀ i, i < 32 → (M.wt i).length < 900000) :
    Calls Try.prog 66 #[.pointer (some ⟨m, 0, none⟩), .int .i64 g, .pointer (some ⟨Y.gp g, 0, none⟩), i.v, .pointer (some ⟨vb, 4, none⟩)] w fun e w' => e = .returned (.int .i64 3) ∧
      OpPost w c m Y M vb w' cv { M with wt := waitL M.wt i.a g } := by
  have H := Lib.hid h
  have Hv := Lib.hid hv
  have hml := h.blk.lt
  have c7 := h.c7
  obtain ⟨vs, rs, h1, hct, hcr⟩ := h.wt
  have hW : Upd (fun _ => False) w (w.alloc (.cells #[.int .i64 i.op, .int .i64 i.a, .int .i64 i.b, .int .i64 i.c] 40)).drew := ((Upd.refl _ _).alloc _).drew
  have h1W := h1.upd hW (fun _ _ e => e)
  have Hcall := Lib.hid (wait_c h1W hl i.a g)
  have H1 := Lib.hid h1
  have Hcr := Lib.hid hcr
  have HW := Lib.hid hW
  unfold In.v
  clear h hv h1 hcr hW h1W hl
  go_enter Try.func66, Try.ntmps66
  go_wp2_with fail
  refine wp_still_tail 7 (by kernel_rfl) (by kernel_rfl) ?_
  simp only [List.take_succ_cons, List.take_zero, List.drop_succ_cons, List.drop_zero]
  repeat still_step
  refine wpStill_nil ?_
  go_wp2_with fail
  refine Hcall.out.mono ?_
  rintro e w1 ⟨rfl, vs', rs', k1, k2, k3⟩
  have K1 := Lib.hid k1
  have K2 := Lib.hid k2
  have K3 := Lib.hid k3
  clear k1 k2 k3
  go_wp2_with fail
  go_ret
  exact ⟨rfl, wt_fin H.out Hv.out hvc HW.out H1.out hct Hcr.out K1.out K2.out K3.out⟩
end
end Go.Proofs.Ytndldoamadmphaa
