/- Do where there is nothing to do. -/
import Derived.Test.YtndldoamadmphaaMd14
namespace Go.Proofs.Ytndldoamadmphaa
open Go.RowKit
def noCommit : Value := .agg #[.int .i64 0, .int .i64 0, .int .i64 0, .int .i64 0, .int .i64 0, .bool false]
section
variable {w : World} {c : Col} {m : Nat} {Y : Lay} {M : Mo}
set_option maxRecDepth 100000 in
set_option maxHeartbeats 1200000 in
theorem mdo_idle (h : ModelAt w c m Y M) (g : Int) (hs : stateM M g = 0) :
    Calls Try.prog 16 #[.pointer (some ⟨m, 0, none⟩), .int .i64 g] w fun e w' => e = .returned (.tuple #[noCommit, .int .i64 4]) ∧ Upd (fun _ => False) w w' := by
  have hw1 : Upd (fun _ => False) w (((w.alloc (.cells #[.pointer (some ⟨m, 0, none⟩)] 29)).alloc (.cells #[.int .i64 g] 3)).alloc (.cells #[.int .i64 0, .int .i64 0, .int .i64 0, .int .i64 0, .int .i64 0, .bool false] 34)) := (((Upd.refl _ _).alloc _).alloc _).alloc _
  have Hs := Lib.hid (mstate_c (h.frame hw1 (fun _ e => e.elim)) g)
  have Hw := Lib.hid hw1
  rw [hs] at Hs
  clear h hs hw1
  go_enter Try.func16, Try.ntmps16
  go_wp2_with (go_at_call 18; refine Hs.out.mono ?_; rintro e w1 ⟨rfl, rfl⟩)
  refine bodyPost_ret (v := .tuple #[noCommit, .int .i64 4]) (by simp [results, Try.results16, go_sem, noCommit]) rfl ⟨rfl, Hw.out⟩
set_option maxRecDepth 100000 in
set_option maxHeartbeats 1200000 in
theorem mdo_state (h : ModelAt w c m Y M) (g : Int) (hs : stateM M g ≠ 0) (hs1 : stateM M g ≠ 1) :
    Calls Try.prog 16 #[.pointer (some ⟨m, 0, none⟩), .int .i64 g] w fun e w' => e = .returned (.tuple #[noCommit, .int .i64 5]) ∧ Upd (fun _ => False) w w' := by
  have hw1 : Upd (fun _ => False) w (((w.alloc (.cells #[.pointer (some ⟨m, 0, none⟩)] 29)).alloc (.cells #[.int .i64 g] 3)).alloc (.cells #[.int .i64 0, .int .i64 0, .int .i64 0, .int .i64 0, .int .i64 0, .bool false] 34)) := (((Upd.refl _ _).alloc _).alloc _).alloc _
  have Hs := Lib.hid (mstate_c (h.frame hw1 (fun _ e => e.elim)) g)
  have Hw := Lib.hid hw1
  obtain ⟨s, e⟩ : ∃ s, s = stateM M g := ⟨_, rfl⟩
  rw [← e] at Hs hs hs1
  have hs0 : decide (s = 0) = false := by simpa using hs
  have hs2 : decide (s = 1) = false := by simpa using hs1
  clear h hw1 e
  go_enter Try.func16, Try.ntmps16
  go_wp2_with (go_at_call 18; refine Hs.out.mono ?_; rintro e w1 ⟨rfl, rfl⟩)
  refine bodyPost_ret (v := .tuple #[noCommit, .int .i64 5]) (by simp [results, Try.results16, go_sem, noCommit]) rfl ⟨rfl, Hw.out⟩
end
end Go.Proofs.Ytndldoamadmphaa
