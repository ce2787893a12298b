/- The model's instruction wake. -/
import Derived.Test.YtndldoamadmphaaMd9
namespace Go.Proofs.Ytndldoamadmphaa
open Go.RowKit
section
variable {w w1 : World} {c c1 : Col} {m : Nat} {Y Y1 : Lay} {M M1 : Mo} {vb g : Nat} {cv cv1 : Array Value}
theorem OpLeft.val (h : OpLeft w c m Y M vb w1 cv1 c1 Y1 M1) (hvl : vb < w.heap.size) (hvc : (c vb).1 = 7) (u : Value) : OpLeft w c m Y M vb (w1.setCell ⟨vb, 4, none⟩ u) (cv1.setIfInBounds 4 u) c1 Y1 M1 := by
  have hc1 := h.vbk hvl hvc
  obtain ⟨a1, a0, a2, a3, a4, a5⟩ := h
  have hset : Upd (fun k => k = vb) w1 (w1.setCell ⟨vb, 4, none⟩ u) := (Upd.refl (fun k => k = vb) w1).setCell (p := ⟨vb, 4, none⟩) (.inl rfl) _
  refine ⟨a1.frame hset (fun k e => by rw [e]; exact hc1), a0.set_ 4 u, a2.trans hset (fun k e => .inl (.inr e)), a3, a4, fun k hk hk2 => a5 k hk ?_⟩
  simpa [World.setCell] using hk2
set_option maxRecDepth 100000 in
set_option maxHeartbeats 2000000 in
theorem owake_yes (h : ModelAt w c m Y M) (hv : Blk w vb 34 cv) (hvc : (c vb).1 = 7) (hcv : ∃ u : Int, cv[4]? = some (.int .i64 u)) (i : In) (hl : ∀ i, i < 32 → (M.wt i).length < 900000) {x : Int} (hx : wakeV M.wt i.a = (x, true)) :
    Calls Try.prog 67 #[.pointer (some ⟨m, 0, none⟩), .int .i64 g, .pointer (some ⟨Y.gp g, 0, none⟩), i.v, .pointer (some ⟨vb, 4, none⟩)] w fun e w' => e = .returned (.int .i64 1) ∧
      OpPost w c m Y M vb w' (cv.setIfInBounds 4 (.int .i64 x)) { M with wt := wakeL M.wt i.a, st := mvL M.st x 1 } := by
  have H := Lib.hid h
  have Hv := Lib.hid hv
  have hml := h.blk.lt
  have hvl := hv.lt
  have c7 := h.c7
  obtain ⟨vs, rs, h1, hct, hcr⟩ := h.wt
  have hW : Upd (fun _ => False) w (w.alloc (.cells #[.int .i64 i.op, .int .i64 i.a, .int .i64 i.b, .int .i64 i.c] 40)).drew := ((Upd.refl _ _).alloc _).drew
  have hcall := wake_c (h1.upd hW (fun _ _ e => e)) hl i.a
  rw [hx] at hcall
  have Hcall := Lib.hid hcall
  have H1 := Lib.hid h1
  have Hcr := Lib.hid hcr
  have HW := Lib.hid hW
  have Hcv := Lib.hid hcv
  unfold In.v
  clear h hv h1 hcr hW hl hx hcall hcv
  go_enter Try.func67, Try.ntmps67
  go_wp2_with fail
  go_region_with (go_at_call 81; refine Hcall.out.mono ?_; rintro e w1 ⟨rfl, vs', rs', k1, k2, k3⟩)
  all_goals
    obtain ⟨c1, Y1, hL⟩ := (wt_fin H.out Hv.out hvc HW.out H1.out hct Hcr.out k1 k2 k3).left
    have hc2 := hL.1.c2
    have hml1 := hL.1.blk.lt
    obtain ⟨u0, hu0⟩ := Hcv.out
    have v4 := (hL.2.1.cell 4).trans hu0
    have vf := hL.2.1.frozen 4
    have hvl1 := hL.2.1.lt
    have hne : m ≠ vb := fun e => by
      have := hL.vbk hvl hvc
      rw [← e, hL.1.cm] at this
      cases this
    have hL2 := hL.val hvl hvc (.int .i64 x)
    have Hmv := Lib.hid (mmove_c hL2.1 x 1)
    have HL2 := Lib.hid hL2
    clear k1 k2 k3 hL hL2 hu0
    go_wp2_with fail
    refine Hmv.out.mono ?_
    rintro e w2 ⟨rfl, hp⟩
    have Hp := Lib.hid hp
    clear hp
    go_wp2_with fail
    go_ret
    exact ⟨rfl, HL2.out.then (Nat.le_refl _) (Hp.out.op HL2.out.2.1 (HL2.out.vbk hvl hvc))⟩
set_option maxRecDepth 100000 in
set_option maxHeartbeats 2000000 in
theorem owake_no (h : ModelAt w c m Y M) (hv : Blk w vb 34 cv) (hvc : (c vb).1 = 7) (hcv : ∃ u : Int, cv[4]? = some (.int .i64 u)) (i : In) (hl : ∀ i, i < 32 → (M.wt i).length < 900000) (hx : wakeV M.wt i.a = (0, false)) :
    Calls Try.prog 67 #[.pointer (some ⟨m, 0, none⟩), .int .i64 g, .pointer (some ⟨Y.gp g, 0, none⟩), i.v, .pointer (some ⟨vb, 4, none⟩)] w fun e w' => e = .returned (.int .i64 1) ∧
      OpPost w c m Y M vb w' (cv.setIfInBounds 4 (.int .i64 (-1))) { M with wt := wakeL M.wt i.a } := by
  have H := Lib.hid h
  have Hv := Lib.hid hv
  have hml := h.blk.lt
  have hvl := hv.lt
  have c7 := h.c7
  obtain ⟨vs, rs, h1, hct, hcr⟩ := h.wt
  have hW : Upd (fun _ => False) w (w.alloc (.cells #[.int .i64 i.op, .int .i64 i.a, .int .i64 i.b, .int .i64 i.c] 40)).drew := ((Upd.refl _ _).alloc _).drew
  have hcall := wake_c (h1.upd hW (fun _ _ e => e)) hl i.a
  rw [hx] at hcall
  have Hcall := Lib.hid hcall
  have H1 := Lib.hid h1
  have Hcr := Lib.hid hcr
  have HW := Lib.hid hW
  have Hcv := Lib.hid hcv
  unfold In.v
  clear h hv h1 hcr hW hl hx hcall hcv
  go_enter Try.func67, Try.ntmps67
  go_wp2_with fail
  go_region_with (go_at_call 81; refine Hcall.out.mono ?_; rintro e w1 ⟨rfl, vs', rs', k1, k2, k3⟩)
  all_goals
    obtain ⟨c1, Y1, hL⟩ := (wt_fin H.out Hv.out hvc HW.out H1.out hct Hcr.out k1 k2 k3).left
    obtain ⟨u0, hu0⟩ := Hcv.out
    have v4 := (hL.2.1.cell 4).trans hu0
    have vf := hL.2.1.frozen 4
    have hvl1 := hL.2.1.lt
    have hL2 := (hL.val hvl hvc (.int .i64 0)).val hvl hvc (.int .i64 (-1))
    rw [Array.setIfInBounds_setIfInBounds] at hL2
    have HL2 := Lib.hid hL2
    clear k1 k2 k3 hL hL2 hu0
    go_wp2_with fail
    go_ret
    exact ⟨rfl, HL2.out.then (Nat.le_refl _) (op_none HL2.out.1 HL2.out.2.1 (Upd.refl _ _))⟩
end
end Go.Proofs.Ytndldoamadmphaa
