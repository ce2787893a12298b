/- told, build. -/
import Derived.Test.YtndldoamadmphaaMtold
namespace Go.Proofs.Ytndldoamadmphaa
open Go.RowKit
def p0 : List (List In) := [[⟨1, 1, 0, 0⟩]]
def m1 : Mo := (stepM (newM 0 p0) 0).1
def m2 : Mo := (stepM m1 0).1
def m3 : Mo := (stepM m2 0).1
theorem p0_ok : progOK 0 p0 := by
  refine ⟨by decide, by decide, fun l hl => ?_⟩
  have : l = [⟨1, 1, 0, 0⟩] := by simpa [p0] using hl
  subst this
  refine ⟨by decide, fun i hi => ?_⟩
  have : i = ⟨1, 1, 0, 0⟩ := by simpa using hi
  subst this
  exact of_decide_eq_true (by decide)
theorem s1 : (stepM (newM 0 p0) 0).2 = (⟨0, 0, 0, 1, 1, false⟩, 0) := by decide +kernel
theorem s2 : (stepM m1 0).2 = (⟨0, 0, 1, 0, 0, false⟩, 0) := by decide +kernel
theorem s3 : (stepM m2 0).2 = (⟨0, 0, 0, 0, 0, false⟩, 5) := by decide +kernel
theorem m3_state : stateM m3 0 = 5 := by decide +kernel
theorem m3_ids : m3.sl.length = 2 := by decide +kernel
theorem m3_roots : rootsL m3 = [] := by decide +kernel
theorem no_args (P : List (List In)) (w : World) (h : P = []) : ProgIn w (.slice none 0 0) P := by
  subst h
  exact ⟨none, 0, rfl, Nat.zero_le _, fun h => absurd h (by decide)⟩
theorem reachL_nil {M : Mo} (h : rootsL M = []) : reachL M = [] := by
  have hn : ∀ v, ¬ Rch M v := by
    intro v hv
    induction hv with
    | root v hv _ => rw [h] at hv; cases hv
    | slot _ _ _ _ _ ih => exact ih
  refine List.eq_nil_iff_forall_not_mem.2 fun v hv => ?_
  obtain ⟨k, _, _, hr⟩ := mem_reachL.1 hv
  exact hn _ hr
theorem eqc1 (w : World) : (binOp .eql 34 (.agg #[.int .i64 0, .int .i64 0, .int .i64 0, .int .i64 1, .int .i64 1, .bool false]) (.agg #[.int .i64 0, .int .i64 0, .int .i64 0, .int .i64 1, .int .i64 1, .bool false])).run Try.prog w = .ok (.bool true) w := by kernel_rfl
theorem eqc2 (w : World) : (binOp .eql 34 (.agg #[.int .i64 0, .int .i64 0, .int .i64 1, .int .i64 0, .int .i64 0, .bool false]) (.agg #[.int .i64 0, .int .i64 0, .int .i64 1, .int .i64 0, .int .i64 0, .bool false])).run Try.prog w = .ok (.bool true) w := by kernel_rfl
set_option maxRecDepth 100000 in
set_option maxHeartbeats 2000000 in
theorem told_c (w : World) : Calls Try.prog 14 #[] w fun e w' => e = .returned (.bool true) ∧ Upd (fun _ => False) w w' := by
  obtain ⟨W, hW⟩ : ∃ W, W = (w.alloc (.cells #[.int .i64 1, .int .i64 1, .int .i64 0, .int .i64 0] 40)).alloc (.cells #[.slice (some ⟨w.heap.size, 0, none⟩) 1 1] 42) := ⟨_, rfl⟩
  have b1 : Blk W w.heap.size 40 (insV [⟨1, 1, 0, 0⟩]).toArray := by rw [hW]; exact (Blk.new _ _ _).alloc _
  have b2 : Blk W (w.heap.size + 1) 42 [Value.slice (some ⟨w.heap.size, 0, none⟩) 1 1].toArray := by rw [hW]; exact Blk.new' _ _ _ (by simp)
  have hpr : ProgIn W (.slice (some ⟨w.heap.size + 1, 0, none⟩) 1 1) p0 := ProgIn.of_blk (P := p0) b2 rfl (by decide) (fun i v l hv hl => by
    rcases i with _ | i
    · injection hv with hv
      injection hl with hl
      subst hv
      subst hl
      exact CodeIn.of_blk b1 (by decide)
    · simp [p0] at hl)
  have hu0 : Upd (fun _ => False) w W := by rw [hW]; exact ((Upd.refl _ _).alloc _).alloc _
  have HPR := Lib.hid hpr
  have HU0 := Lib.hid hu0
  clear b1 b2 hpr hu0
  go_enter Try.func14, Try.ntmps14
  go_wp2_with fail
  rw [← hW]
  refine (new_i HPR.out p0_ok).mono ?_
  rintro e w1 ⟨m, rfl, hm, hu1⟩
  have HM := Lib.hid hm
  have HU1 := Lib.hid (HU0.out.tr hu1)
  clear hm hu1 hW
  go_wp2_with fail
  refine (new_no (c := c8 w1) (globs := 0) (funcs := []) (no_args [] w1 rfl) (fun h => absurd h.1.1 (by decide))).mono ?_
  rintro e w2 ⟨rfl, hu2⟩
  have hkw : ∀ k, ¬ (k < W.heap.size) → w.heap.size ≤ k := fun k hk => by have := HU0.out.size; omega
  have HKW := Lib.hid hkw
  have HM2 := Lib.hid (HM.out.up hu2 (fun _ e => e.elim))
  have HU2 := Lib.hid (HU1.out.tr hu2)
  clear hu2 hkw
  go_wp2_with fail
  refine (do_i HM2.out (by decide) 0).mono ?_
  rintro e w3 ⟨he, hm3, hu3⟩
  rw [s1] at he
  change e = .returned (.tuple #[.agg #[.int .i64 0, .int .i64 0, .int .i64 0, .int .i64 1, .int .i64 1, .bool false], .int .i64 0]) at he
  subst he
  change ModIn _ _ w3 m m1 _ at hm3
  obtain ⟨w4, hw4⟩ : ∃ w4, w4 = w3.alloc (.cells #[.int .i64 0, .int .i64 0, .int .i64 0, .int .i64 1, .int .i64 1, .bool false] 34) := ⟨_, rfl⟩
  have e4 : Upd (fun _ => False) w3 w4 := by rw [hw4]; exact Upd.allocF _
  have B1 := Lib.hid (show Blk w4 w3.heap.size 34 #[.int .i64 0, .int .i64 0, .int .i64 0, .int .i64 1, .int .i64 1, .bool false] by rw [hw4]; exact Blk.new _ _ _)
  have HM4 := Lib.hid (hm3.own e4 (fun _ e => e.elim))
  have HU4 := Lib.hid ((HU2.out.trans hu3 (fun k hk => .inr (HKW.out k hk.1))).tr e4)
  have z1 : w3.heap.size < w4.heap.size := B1.out.lt
  obtain ⟨x1, hx1⟩ : ∃ x1, x1 = w3.heap.size := ⟨_, rfl⟩
  rw [← hx1] at B1 HM4 z1
  clear hm3 hu3 e4
  go_wp2_with fail
  rw [← hw4, ← hx1]
  clear hw4 hx1
  refine (do_i HM4.out (by decide) 0).mono ?_
  rintro e w5 ⟨he, hm5, hu5⟩
  rw [s2] at he
  change e = .returned (.tuple #[.agg #[.int .i64 0, .int .i64 0, .int .i64 1, .int .i64 0, .int .i64 0, .bool false], .int .i64 0]) at he
  subst he
  change ModIn _ _ w5 m m2 _ at hm5
  have C1 := Lib.hid (B1.out.upd hu5 (fun e => e.2 (.inr ⟨Nat.le_refl _, z1⟩)))
  obtain ⟨w6, hw6⟩ : ∃ w6, w6 = w5.alloc (.cells #[.int .i64 0, .int .i64 0, .int .i64 1, .int .i64 0, .int .i64 0, .bool false] 34) := ⟨_, rfl⟩
  have e6 : Upd (fun _ => False) w5 w6 := by rw [hw6]; exact Upd.allocF _
  have B2 := Lib.hid (show Blk w6 w5.heap.size 34 #[.int .i64 0, .int .i64 0, .int .i64 1, .int .i64 0, .int .i64 0, .bool false] by rw [hw6]; exact Blk.new _ _ _)
  have D1 := Lib.hid (C1.out.updF e6)
  have HM6 := Lib.hid (hm5.own e6 (fun _ e => e.elim))
  have HU6 := Lib.hid ((HU4.out.trans hu5 (fun k hk => .inr (HKW.out k hk.1))).tr e6)
  have z2 : w5.heap.size < w6.heap.size := B2.out.lt
  obtain ⟨x2, hx2⟩ : ∃ x2, x2 = w5.heap.size := ⟨_, rfl⟩
  rw [← hx2] at B2 HM6 z2
  clear hm5 hu5 e6
  go_wp2_with fail
  rw [← hw6, ← hx2]
  clear hw6 hx2
  refine (do_i HM6.out (by decide) 0).mono ?_
  rintro e w7 ⟨he, hm7, hu7⟩
  rw [s3] at he
  change e = .returned (.tuple #[.agg #[.int .i64 0, .int .i64 0, .int .i64 0, .int .i64 0, .int .i64 0, .bool false], .int .i64 5]) at he
  subst he
  change ModIn _ _ w7 m m3 _ at hm7
  have E1 := Lib.hid (D1.out.upd hu7 (fun e => e.2 (.inl (.inr ⟨Nat.le_refl _, z1⟩))))
  have E2 := Lib.hid (B2.out.upd hu7 (fun e => e.2 (.inr ⟨Nat.le_refl _, z2⟩)))
  obtain ⟨w8, hw8⟩ : ∃ w8, w8 = w7.alloc (.cells #[.int .i64 0, .int .i64 0, .int .i64 0, .int .i64 0, .int .i64 0, .bool false] 34) := ⟨_, rfl⟩
  have e8 : Upd (fun _ => False) w7 w8 := by rw [hw8]; exact Upd.allocF _
  have F1 := E1.out.updF e8
  have F2 := E2.out.updF e8
  have HM8 := Lib.hid (hm7.up e8 (fun _ e => e.elim))
  have HU8 := Lib.hid ((HU6.out.trans hu7 (fun k hk => .inr (HKW.out k hk.1))).tr e8)
  have u0 : w8.cell? ⟨x1, 0, none⟩ = some (.int .i64 0) := F1.cell 0
  have u1 : w8.cell? ⟨x1, 1, none⟩ = some (.int .i64 0) := F1.cell 1
  have u2 : w8.cell? ⟨x1, 2, none⟩ = some (.int .i64 0) := F1.cell 2
  have u3 : w8.cell? ⟨x1, 3, none⟩ = some (.int .i64 1) := F1.cell 3
  have u4 : w8.cell? ⟨x1, 4, none⟩ = some (.int .i64 1) := F1.cell 4
  have u5 : w8.cell? ⟨x1, 5, none⟩ = some (.bool false) := F1.cell 5
  have v0 : w8.cell? ⟨x2, 0, none⟩ = some (.int .i64 0) := F2.cell 0
  have v1 : w8.cell? ⟨x2, 1, none⟩ = some (.int .i64 0) := F2.cell 1
  have v2 : w8.cell? ⟨x2, 2, none⟩ = some (.int .i64 1) := F2.cell 2
  have v3 : w8.cell? ⟨x2, 3, none⟩ = some (.int .i64 0) := F2.cell 3
  have v4 : w8.cell? ⟨x2, 4, none⟩ = some (.int .i64 0) := F2.cell 4
  have v5 : w8.cell? ⟨x2, 5, none⟩ = some (.bool false) := F2.cell 5
  have lx1 := F1.lt
  have lx2 := F2.lt
  have q1 := eqc1
  have q2 := eqc2
  have Hids := Lib.hid (ids_i HM8.out)
  have Hrch := Lib.hid (reach_i HM8.out (by decide))
  rw [m3_ids] at Hids
  rw [reachL_nil m3_roots] at Hrch
  have Hst := Lib.hid (fun w9 (hu : Upd (fun _ => False) w8 w9) => state_i (HM8.out.up hu (fun _ e => e.elim)) 0)
  rw [m3_state] at Hst
  clear hm7 hu7 e8 F1 F2
  subst hw8
  go_wp2_with fail
  refine Hids.out.mono ?_
  rintro e w9 ⟨rfl, rfl⟩
  go_wp2_with fail
  refine Hrch.out.mono ?_
  rintro e w9 ⟨v, rfl, ⟨row, hr, _⟩, hu9⟩
  obtain ⟨A, cap, rfl, _⟩ := Row.rdI (l := []) hr
  have Hs := Lib.hid (Hst.out _ hu9)
  have HU9 := Lib.hid (HU8.out.tr hu9)
  rw [List.length_nil]
  clear hr hu9
  go_wp2_with fail
  refine Hs.out.mono ?_
  rintro e w10 ⟨rfl, rfl⟩
  go_wp2_with fail
  go_ret
  exact ⟨rfl, HU9.out⟩
set_option maxRecDepth 100000 in
/-- build, of a program that may be. -/
theorem build_c {w : World} {pv : Value} {globs : Int} {funcs : List (List In)} (h : ProgIn w pv funcs) (hp : progOK globs funcs) :
    Calls Try.prog 17 #[.int .i64 globs, pv] w fun e w' => ∃ m, e = .returned (.pointer (some ⟨m, 0, none⟩)) ∧ ModIn (fun k => k < w.heap.size) (fun _ => False) w' m (newM globs funcs) 0 ∧ Upd (fun _ => False) w w' := by
  have Hn := Lib.hid (new_i h hp)
  obtain ⟨A, cap, hv, _⟩ := ProgAt.len_ h
  clear h hp
  subst hv
  go_enter Try.func17, Try.ntmps17
  go_wp2_with fail
  refine Hn.out.mono ?_
  rintro e w1 ⟨m, rfl, hm, hu⟩
  have HM := Lib.hid hm
  have HU := Lib.hid hu
  clear hm hu
  go_wp2_with fail
  go_ret
  exact ⟨m, rfl, HM.out, HU.out⟩
end Go.Proofs.Ytndldoamadmphaa
