/- The model's instructions begin, wake. -/
import Derived.Test.YtndldoamadmphaaMd8
namespace Go.Proofs.Ytndldoamadmphaa
open Go.RowKit
section
variable {w w1 w2 : World} {c c1 : Col} {m : Nat} {Y Y1 : Lay} {M M1 M2 : Mo} {vb g : Nat} {cv cv2 : Array Value}
theorem Left.vbk (h : Left w c m Y M w1 c1 Y1 M1) (hv : Blk w vb 34 cv) (hvc : (c vb).1 = 7) : Blk w1 vb 34 cv ∧ (c1 vb).1 = 7 := by
  obtain ⟨a1, a2, a3, a4, a5⟩ := h
  exact ⟨hv.upd a2 (fun e => by omega), by rw [a3 _ hv.lt]; exact hvc⟩
theorem Left.thenOp (h : Left w c m Y M w1 c1 Y1 M1) (hl : M.gs.length ≤ M1.gs.length) (h2 : OpPost w1 c1 m Y1 M1 vb w2 cv2 M2) : OpPost w c m Y M vb w2 cv2 M2 := by
  obtain ⟨a1, a2, a3, a4, a5⟩ := h
  obtain ⟨c2, Y2, b1, b2, b3, b4, b5, b6⟩ := h2
  refine ⟨c2, Y2, b1, b2, (a2.mono (fun k e => .inl (.inl e))).trans b3 (fun k hk => ?_), a3.trans a2 b4, fun k hk => (b5 k (by omega)).trans (a4 k hk), fun k hk hk2 => ?_⟩
  · rcases hk with hk | hk
    · by_cases hkw : k < w.heap.size
      · rw [a3 k hkw] at hk; exact .inl (.inl hk)
      · exact .inr (by omega)
    · exact .inl (.inr hk)
  · by_cases hkw : k < w1.heap.size
    · rw [b4 k hkw]; exact a5 k hk hkw
    · exact b6 k (by omega) hk2
theorem MPost.op (h : MPost w c m Y M w1 M1) (hv : Blk w vb 34 cv) (hvc : (c vb).1 = 7) : OpPost w c m Y M vb w1 cv M1 := by
  obtain ⟨c1, Y1, h⟩ := h.left
  obtain ⟨a1, a2, a3, a4, a5⟩ := h
  exact ⟨c1, Y1, a1, hv.upd a2 (fun e => by omega), a2.mono (fun k e => .inl (.inl e)), a3, a4, a5⟩
/-- What an instruction left, bundled. -/
def OpLeft (w : World) (c : Col) (m : Nat) (Y : Lay) (M : Mo) (vb : Nat) (w1 : World) (cv1 : Array Value) (c1 : Col) (Y1 : Lay) (M1 : Mo) : Prop :=
  ModelAt w1 c1 m Y1 M1 ∧ Blk w1 vb 34 cv1 ∧ Upd (fun k => (c k).1 < 7 ∨ k = vb) w w1 ∧ Keep c c1 w ∧ (∀ k, k < M.gs.length → Y1.gp k = Y.gp k) ∧ (∀ k, w.heap.size ≤ k → k < w1.heap.size → (c1 k).1 < 7 ∨ (c1 k).1 = 7)
theorem OpPost.left {cv1 : Array Value} (h : OpPost w c m Y M vb w1 cv1 M1) : ∃ c1 Y1, OpLeft w c m Y M vb w1 cv1 c1 Y1 M1 := h
theorem OpLeft.then {cv1 : Array Value} (h : OpLeft w c m Y M vb w1 cv1 c1 Y1 M1) (hl : M.gs.length ≤ M1.gs.length) (h2 : OpPost w1 c1 m Y1 M1 vb w2 cv2 M2) : OpPost w c m Y M vb w2 cv2 M2 := by
  obtain ⟨a1, a0, a2, a3, a4, a5⟩ := h
  obtain ⟨c2, Y2, b1, b2, b3, b4, b5, b6⟩ := h2
  refine ⟨c2, Y2, b1, b2, a2.trans b3 (fun k hk => ?_), a3.trans a2 b4, fun k hk => (b5 k (by omega)).trans (a4 k hk), fun k hk hk2 => ?_⟩
  · rcases hk with hk | hk
    · by_cases hkw : k < w.heap.size
      · rw [a3 k hkw] at hk; exact .inl (.inl hk)
      · exact .inr (by omega)
    · exact .inl (.inr hk)
  · by_cases hkw : k < w1.heap.size
    · rw [b4 k hkw]; exact a5 k hk hkw
    · exact b6 k (by omega) hk2
theorem OpLeft.vbk {cv1 : Array Value} (h : OpLeft w c m Y M vb w1 cv1 c1 Y1 M1) (hvl : vb < w.heap.size) (hvc : (c vb).1 = 7) : (c1 vb).1 = 7 := by
  rw [h.2.2.2.1 _ hvl]; exact hvc

set_option maxRecDepth 100000 in
set_option maxHeartbeats 1000000 in
theorem obegin_full (h : ModelAt w c m Y M) (hv : Blk w vb 34 cv) (hvc : (c vb).1 = 7) (hcv : ∃ u : Int, cv[4]? = some (.int .i64 u)) (hg : g < M.gs.length) (i : In) {b : Nat} (hb : i.b = b) (hb2 : b < 16) (hl : 1024 ≤ M.st.length) :
    Calls Try.prog 63 #[.pointer (some ⟨m, 0, none⟩), .int .i64 g, .pointer (some ⟨Y.gp g, 0, none⟩), i.v, .pointer (some ⟨vb, 4, none⟩)] w fun e w' => e = .panicked [{ v := faultV, recovered := false }] ∧ OpPost w c m Y M vb w' (cv.setIfInBounds 4 (.int .i64 (-1))) M := by
  have H := Lib.hid h
  have Hv := Lib.hid hv
  have hxb := (h.gs.g g _ (gorAt_get hg)).1
  have hxl := hxb.lt
  have x1 := hxb.cell (3 + b)
  rw [gorV_stack _ hb2] at x1
  have hbI : (b : Int) < 16 := by omega
  obtain ⟨u1, hu1⟩ := hcv
  have v4 := (hv.cell 4).trans hu1
  have vf := hv.frozen 4
  have hvl := hv.lt
  have hW : Upd (fun _ => False) w (w.alloc (.cells #[.int .i64 i.op, .int .i64 i.a, .int .i64 b, .int .i64 i.c] 40)).drew := ((Upd.refl _ _).alloc _).drew
  have Hcall := Lib.hid (mspawn_full (h.frame hW (fun _ e => e.elim)) hl i.a ((gorAt M g).stack b))
  unfold In.v
  rw [hb]
  clear h hv hxb hb hW hu1
  go_enter Try.func63, Try.ntmps63
  go_wp2_with fail
  go_region_with (go_at_call 38; refine Hcall.out.mono ?_; rintro e w1 ⟨rfl, rfl⟩)
  all_goals
    go_wp2_with fail
    exact ⟨rfl, rfl, op_val H.out Hv.out hvc _ (((Upd.refl _ _).alloc _).drew)⟩
set_option maxRecDepth 100000 in
set_option maxHeartbeats 1000000 in
theorem obegin_c (h : ModelAt w c m Y M) (hv : Blk w vb 34 cv) (hvc : (c vb).1 = 7) (hcv : ∃ u : Int, cv[4]? = some (.int .i64 u)) (hg : g < M.gs.length) (i : In) {b : Nat} (hb : i.b = b) (hb2 : b < 16) (hl : M.st.length < 1024) (hgl : M.gs.length = M.st.length) :
    Calls Try.prog 63 #[.pointer (some ⟨m, 0, none⟩), .int .i64 g, .pointer (some ⟨Y.gp g, 0, none⟩), i.v, .pointer (some ⟨vb, 4, none⟩)] w fun e w' => e = .returned (.int .i64 1) ∧ OpPost w c m Y M vb w' (cv.setIfInBounds 4 (.int .i64 M.st.length)) (spawnM M i.a ((gorAt M g).stack b)) := by
  have H := Lib.hid h
  have Hv := Lib.hid hv
  have hxb := (h.gs.g g _ (gorAt_get hg)).1
  have hxl := hxb.lt
  have x1 := hxb.cell (3 + b)
  rw [gorV_stack _ hb2] at x1
  have hbI : (b : Int) < 16 := by omega
  obtain ⟨u1, hu1⟩ := hcv
  have Hu1 := Lib.hid hu1
  have hW : Upd (fun _ => False) w (w.alloc (.cells #[.int .i64 i.op, .int .i64 i.a, .int .i64 b, .int .i64 i.c] 40)).drew := ((Upd.refl _ _).alloc _).drew
  have HL0 := Lib.hid (show Left w c m Y M _ c Y M from ⟨h.frame hW (fun _ e => e.elim), hW.mono (fun _ e => e.elim), Keep.refl _ _, fun _ _ => rfl, fun k hk _ => .inr (h.free k hk)⟩)
  have Hcall := Lib.hid (mspawn_c (h.frame hW (fun _ e => e.elim)) hl hgl i.a ((gorAt M g).stack b))
  unfold In.v
  rw [hb]
  clear h hv hxb hb hW hu1 hgl
  go_enter Try.func63, Try.ntmps63
  go_wp2_with fail
  go_region_with (go_at_call 38; refine Hcall.out.mono ?_; rintro e w1 ⟨rfl, hp⟩; obtain ⟨c1, Y1, hL1⟩ := (HL0.out.then (Nat.le_refl _) hp).left; obtain ⟨hv1, hvc1⟩ := hL1.vbk Hv.out hvc; have v4 := (hv1.cell 4).trans Hu1.out; have vf := hv1.frozen 4; have hv1l := hv1.lt)
  all_goals
    have HL1 := Lib.hid hL1
    have Hv1 := Lib.hid hv1
    clear hp hL1 hv1
    go_wp2_with fail
    go_ret
    exact ⟨rfl, HL1.out.thenOp (by simp [spawnM]) (op_valS HL1.out.1 Hv1.out hvc1 _ (Upd.refl _ _))⟩
end
end Go.Proofs.Ytndldoamadmphaa
