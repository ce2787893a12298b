/- The model's instruction store where there is no such slot. -/
import Derived.Test.YtndldoamadmphaaMd5
import Derived.RegionDies
namespace Go.Proofs.Ytndldoamadmphaa
open Go.RowKit
section
variable {w : World} {c : Col} {m : Nat} {Y : Lay} {M : Mo} {vb g : Nat} {cv : Array Value}
set_option maxRecDepth 100000 in
set_option maxHeartbeats 2000000 in
theorem ostore_no (h : ModelAt w c m Y M) (hv : Blk w vb 34 cv) (hg : g < M.gs.length) (i : In) {a b d id : Nat} (ha : i.a = a) (ha2 : a < 16) (hb : i.b = b) (hd : i.c = d) (hd2 : d < 16) (hid : (gorAt M g).stack a = id) (hidl : id < M.sl.length) (hno : ¬ slotOK M id b) :
    Calls Try.prog 58 #[.pointer (some ⟨m, 0, none⟩), .int .i64 g, .pointer (some ⟨Y.gp g, 0, none⟩), i.v, .pointer (some ⟨vb, 4, none⟩)] w fun e w' => e = .panicked [{ v := faultV, recovered := false }] ∧ OpPost w c m Y M vb w' cv M := by
  have H := Lib.hid h
  have Hv := Lib.hid hv
  have hxb := (h.gs.g g _ (gorAt_get hg)).1
  have hxl := hxb.lt
  have x1 := hxb.cell (3 + d)
  rw [gorV_stack _ hd2] at x1
  have hdI : (d : Int) < 16 := by omega
  have hw1 : Upd (fun _ => False) w (w.alloc (.cells #[.int .i64 i.op, .int .i64 a, .int .i64 b, .int .i64 d] 40)).drew := ((Upd.refl _ _).alloc _).drew
  have h1 := h.frame hw1 (fun _ e => e.elim)
  have Hcall := Lib.hid (slot_no h1 hg ha2 hid hidl hno)
  unfold In.v
  rw [ha, hb, hd]
  clear h hv hxb ha hb hd hid hno h1 hw1
  go_enter Try.func58, Try.ntmps58
  go_wp2_with fail
  go_region_dies
  all_goals
    refine Hcall.out.mono ?_
    rintro e w1 ⟨rfl, rfl⟩
    exact ⟨rfl, rfl, op_none H.out Hv.out ((Upd.refl _ _).alloc _).drew⟩
end
end Go.Proofs.Ytndldoamadmphaa
