/- 'Rows.ModelFaultsSaid': treadmilllaw16.ModelFaults returns true for any integers and bool. No condition. -/
import Derived.Test.YtndldoamadmphaaLawM
import Derived.Test.YtndldoamadmphaaInts
namespace Go.Proofs.Ytndldoamadmphaa.modelFaults
open Go.ChangeShapes Go.WideShapes Go.ChangeAt Go.RowKit
theorem rd_one {w : World} {b : Nat} {x : Int} (h : Blk w b 3 #[.int .i64 x]) : RdF w (some ⟨b, 0, none⟩) 1 1 (fun _ _ => x) :=
  ⟨by unfold maxLen; omega, fun _ => ⟨b, 0, rfl, h.lt, fun i hi j hj => by
    obtain rfl : i = 0 := by omega
    obtain rfl : j = 0 := by omega
    exact h.cell 0⟩⟩
def inX (i : Nat) (load : Bool) : In := if load = true then ⟨2, 2, 1, i⟩ else ⟨3, 1, i, 1⟩
def px (k i : Nat) (load : Bool) : List (List In) := [[⟨8, 1, 0, 0⟩, ⟨1, 1, k, 0⟩, inX i load, ⟨2, 3, 9, 0⟩], [⟨5, 0, 0, 0⟩]]
theorem px_ok {k i : Nat} (load : Bool) (hk : k < 256) (hi : i < 256) : progOK 0 (px k i load) := by
  refine ⟨⟨by simp [px], by simp [px]⟩, by decide, fun l hl => ?_⟩
  simp only [px, List.mem_cons, List.not_mem_nil, or_false] at hl
  rcases hl with rfl | rfl
  · refine ⟨by simp, fun x hx => ?_⟩
    simp only [List.mem_cons, List.not_mem_nil, or_false] at hx
    rcases hx with rfl | rfl | rfl | rfl
    · simp [instOK, partOK, kindsOf, partsL, most, px]
    · simp [instOK, partOK, kindsOf, partsL, most]
      omega
    · cases load
      · simp [instOK, partOK, kindsOf, partsL, most, inX]
        omega
      · simp [instOK, partOK, kindsOf, partsL, most, inX]
        omega
    · simp [instOK, partOK, kindsOf, partsL, most]
  · refine ⟨by simp, fun x hx => ?_⟩
    simp only [List.mem_cons, List.not_mem_nil, or_false] at hx
    subst hx
    simp [instOK, partOK, kindsOf, partsL, most]
def g0 : Gor := ⟨0, 2, 0, upN (upN (fun _ => 0) 0 0) 1 1⟩
def g1 : Gor := gor0 1 0
def m2 (k i : Nat) (load : Bool) : Mo := ⟨0, px k i load, [1, 1], [g0, g1], [], [[], zeros (k + 1)], [], 0, fun _ => [], 0⟩
theorem two (k i : Nat) (load : Bool) : (stepM (stepM (newM 0 (px k i load)) 0).1 0).1 = m2 k i load := by kernel_rfl
theorem m2_state (k i : Nat) (load : Bool) : stateM (m2 k i load) (0 : Nat) = 1 := rfl
theorem m2_inst (k i : Nat) (load : Bool) : instOf (m2 k i load) 0 = inX i load := rfl
theorem zeros_len (k : Nat) : (zeros k).length = k := by simp [zeros]
theorem zeros_at (k i : Nat) : (zeros k).getD i 0 = 0 := by
  unfold zeros
  rw [List.getD, List.getElem?_replicate]
  split <;> rfl
/-- The third step: there is no such slot. -/
theorem bad3 {k i : Nat} (load : Bool) (h : k < i) : stepM (m2 k i load) (0 : Nat) = (moveM (runM (m2 k i load) 0) 0 5, ⟨0, 0, 2, (inX i load).op, 0, true⟩, 0) := by
  have hs : ¬ slotOK (runM (m2 k i load) 0) 1 i := fun c => by
    have : ((i : Int)) < ((zeros (k + 1)).length : Nat) := c.2
    rw [zeros_len] at this
    omega
  refine stepM_no (m2_state k i load) (m2_inst k i load) ?_
  cases load
  · exact if_neg hs
  · exact if_neg hs
/-- .. there is one. -/
def gl (load : Bool) : Gor := ⟨0, 3, 0, if load = true then upN g0.stack 2 0 else g0.stack⟩
def m3 (k i : Nat) (load : Bool) : Mo := ⟨0, px k i load, [1, 1], [gl load, g1], [], [[], if load = true then zeros (k + 1) else (zeros (k + 1)).set i 1], [], 0, fun _ => [], 0⟩
theorem good3 {k i : Nat} (load : Bool) (h : ¬ k < i) : stepM (m2 k i load) (0 : Nat) = (m3 k i load, ⟨0, 0, 2, (inX i load).op, 0, false⟩, 0) := by
  have hs : slotOK (runM (m2 k i load) 0) 1 i := ⟨by decide, by
    show ((i : Int)) < ((zeros (k + 1)).length : Nat)
    rw [zeros_len]
    omega⟩
  cases load
  · exact stepM_yes (m2_state k i false) (m2_inst k i false) (if_pos hs)
  · have hv : slotV (runM (m2 k i true) 0) ((gorAt (runM (m2 k i true) 0) 0).stack (inX i true).b.toNat) (inX i true).c = 0 := by
      show (zeros (k + 1)).getD _ 0 = 0
      exact zeros_at _ _
    have := stepM_yes (m2_state k i true) (m2_inst k i true) (if_pos hs)
    rw [hv] at this
    exact this
theorem bad4 (k i : Nat) (load : Bool) : stepM (m3 k i load) (0 : Nat) = (moveM (runM (m3 k i load) 0) 0 5, ⟨0, 0, 3, 2, 0, true⟩, 0) := by
  have h9 : (gorAt (runM (m3 k i load) 0) 0).stack 9 = 0 := by cases load <;> rfl
  have hs : ¬ slotOK (runM (m3 k i load) 0) ((gorAt (runM (m3 k i load) 0) 0).stack 9) 0 := fun c => c.1 h9
  exact stepM_no (i := ⟨2, 3, 9, 0⟩) rfl rfl (if_neg hs)
def mB (k i : Nat) (load : Bool) : Mo := moveM (runM (m2 k i load) 0) 0 5
def mC (k i : Nat) (load : Bool) : Mo := moveM (runM (m3 k i load) 0) 0 5
theorem mB_roots (k i : Nat) (load : Bool) : ∀ v ∈ rootsL (mB k i load), v = 0 := by
  intro v hv
  have : rootsL (mB k i load) = (List.range 16).map g1.stack := rfl
  rw [this] at hv
  obtain ⟨j, hj, rfl⟩ := List.mem_map.1 hv
  show upN (fun _ => (0 : Int)) 0 0 j = 0
  unfold upN
  split <;> rfl
set_option maxRecDepth 100000 in
set_option maxHeartbeats 4000000 in
theorem walk0 (n slot : Int) (w : World) {k i : Nat} (hu : wrap64 ((IntKind.u64.wrap n).tmod 256) = k) (hv : wrap64 ((IntKind.u64.wrap slot).tmod 256) = i) (HP : Hid (∀ l, progOK 0 (px k i l))) :
    Calls Try.prog 4 #[.int .i64 n, .int .i64 slot, .bool false] w fun e w' => e = .returned (.bool true) ∧ Below w.heap.size w w' := by
  go_enter Try.func4, Try.ntmps4
  go_wp2_with fail
  refine (law_build (w0 := w) ?u1 (prog_two (a := w.heap.size + 1) (b := w.heap.size + 1 + 1) (l1 := [⟨8, 1, 0, 0⟩, ⟨1, 1, k, 0⟩, ⟨3, 1, i, 1⟩, ⟨2, 3, 9, 0⟩]) (l2 := [⟨5, 0, 0, 0⟩]) ?b1 ?b2 (by show (4 : Nat) ≤ maxLen; unfold maxLen; omega) (by show (1 : Nat) ≤ maxLen; unfold maxLen; omega) ?b3) (HP.out false)).mono ?_
  case u1 => exact ((((Upd.refl _ _).al _).al _).al _).al _
  case b1 => exact ((Blk.new' _ _ _ (by first | rfl | (simp; done))).alloc _).alloc _
  case b2 => exact (Blk.new' _ _ _ (by first | rfl | (simp; done))).alloc _
  case b3 => exact Blk.new' _ _ _ (by first | rfl | (simp; done))
  rintro e w1 ⟨m, rfl, hm, hu⟩
  have HM1 := Lib.hid hm
  clear hm hu
  go_wp2_with fail
  refine (HM1.out.do_ (by decide) 0).mono ?_
  rintro e w2 ⟨rfl, hm, _⟩
  have HM2 := Lib.hid hm
  clear hm
  go_wp2_with fail
  refine (HM2.out.do_ (by decide) 0).mono ?_
  rintro e w3 ⟨rfl, hm, _⟩
  have HM3 := Lib.hid (show LawM w _ w3 m (m2 k i false) _ from (two k i false) ▸ hm)
  clear hm HM1 HM2
  go_wp2_with fail
  by_cases hb : k < i
  · have hbI : (k : Int) < (i : Int) := by omega
    refine (HM3.out.does (by decide) (g := 0) (bad3 false hb)).mono ?_
    rintro e w4 ⟨rfl, hm, _⟩
    have HM4 := Lib.hid (hm.up (Upd.allocF (.cells #[.int .i64 0, .int .i64 0, .int .i64 2, .int .i64 (inX i false).op, .int .i64 0, .bool true] 34)))
    have Hs0 := Lib.hid (HM4.out.state_ (g := 0) (s := 5) (by kernel_rfl))
    have Hs1 := Lib.hid (HM4.out.state_ (g := 1) (s := 1) (by kernel_rfl))
    clear hm HM3 hb
    go_wp2_with fail
    refine Hs0.out.mono ?_
    rintro e w5 ⟨rfl, rfl⟩
    go_wp2_with fail
    refine Hs1.out.mono ?_
    rintro e w5 ⟨rfl, rfl⟩
    go_wp2_with fail
    refine HM4.out.told_.mono ?_
    rintro e w5 ⟨rfl, hm, _⟩
    have HM5 := Lib.hid hm
    clear hm
    go_wp2_with fail
    refine (HM5.out.reach_ (by decide)).mono ?_
    rintro e w6 ⟨A, cap, rfl, _, hu⟩
    rw [show reachL (moveM (runM (m2 k i false) 0) 0 5) = [] from reachL_nil' (mB_roots k i false)]
    have HM6 := Lib.hid (HM5.out.up hu)
    clear hu
    rw [List.length_nil]
    go_wp2_with fail
    refine (HM6.out.ids_ (k := 1) rfl).mono ?_
    rintro e w7 ⟨rfl, rfl⟩
    go_wp2_with fail
    go_ret
    exact ⟨rfl, HM6.out.u.below'⟩
  · have hbI : ¬ (k : Int) < (i : Int) := by omega
    have hbd : decide ((k : Int) < (i : Int)) = false := by simpa using hbI
    refine (HM3.out.does (by decide) (g := 0) (good3 false hb)).mono ?_
    rintro e w4 ⟨rfl, hm, _⟩
    have HM4 := Lib.hid (hm.up (Upd.allocF (.cells #[.int .i64 0, .int .i64 0, .int .i64 2, .int .i64 (inX i false).op, .int .i64 0, .bool false] 34)))
    have Hs0 := Lib.hid (HM4.out.state_ (g := 0) (s := 1) (by kernel_rfl))
    have Hs1 := Lib.hid (HM4.out.state_ (g := 1) (s := 1) (by kernel_rfl))
    clear hm HM3 hb
    go_wp2_with fail
    refine Hs0.out.mono ?_
    rintro e w5 ⟨rfl, rfl⟩
    go_wp2_with fail
    refine Hs1.out.mono ?_
    rintro e w5 ⟨rfl, rfl⟩
    go_wp2_with fail
    refine (HM4.out.does (by decide) (g := 0) (bad4 k i false)).mono ?_
    rintro e w5 ⟨rfl, hm, _⟩
    have b1 : Blk ((w5.alloc (.cells #[.int .i64 0, .int .i64 0, .int .i64 3, .int .i64 2, .int .i64 0, .bool true] 34)).alloc (.cells #[.int .i64 1] 3)) w5.heap.size 34 #[.int .i64 0, .int .i64 0, .int .i64 3, .int .i64 2, .int .i64 0, .bool true] := (Blk.new _ _ _).alloc _
    have b2 : Blk ((w5.alloc (.cells #[.int .i64 0, .int .i64 0, .int .i64 3, .int .i64 2, .int .i64 0, .bool true] 34)).alloc (.cells #[.int .i64 1] 3)) (w5.heap.size + 1) 3 #[.int .i64 1] := Blk.new' _ _ _ (by simp)
    have HM5 := Lib.hid ((hm.up (Upd.allocF (.cells #[.int .i64 0, .int .i64 0, .int .i64 3, .int .i64 2, .int .i64 0, .bool true] 34))).up (Upd.allocF (.cells #[.int .i64 1] 3)))
    have B1 := Lib.hid b1
    have B2 := Lib.hid b2
    clear hm b1 b2
    go_wp2_with fail
    refine HM5.out.told_.mono ?_
    rintro e w6 ⟨rfl, hm, hu⟩
    have b1 := B1.out.updF hu
    have f5 : w6.cell? ⟨w5.heap.size, 5, none⟩ = some (.bool true) := b1.cell 5
    have lf := b1.lt
    have b2 := B2.out.updF hu
    have HM6 := Lib.hid hm
    have C2 := Lib.hid b2
    have Ht0 := Lib.hid (HM6.out.state_ (g := 0) (s := 5) (by kernel_rfl))
    have Ht1 := Lib.hid (HM6.out.state_ (g := 1) (s := 1) (by kernel_rfl))
    have Hid := Lib.hid (HM6.out.ids_ (k := 1) (rfl))
    clear hm hu b1 b2 HM5 B1 B2
    go_wp2_with fail
    refine Ht0.out.mono ?_
    rintro e w7 ⟨rfl, rfl⟩
    go_wp2_with fail
    refine Hid.out.mono ?_
    rintro e w7 ⟨rfl, rfl⟩
    go_wp2_with fail
    refine (ints_c (f := fun _ _ => 1) (rd_one (C2.out.alloc _)) (rd_one (Blk.new' _ _ _ rfl))).mono ?_
    rintro e w7 ⟨rfl, nd, rfl⟩
    have HM7 := Lib.hid (HM6.out.up (((Upd.refl _ w6).al (.cells #[.int .i64 1] 3)).drewN nd))
    go_wp2_with fail
    refine (HM7.out.state_ (g := 1) (s := 1) (by kernel_rfl)).mono ?_
    rintro e w8 ⟨rfl, rfl⟩
    go_wp2_with fail
    go_ret
    exact ⟨rfl, HM7.out.u.below'⟩
set_option maxRecDepth 100000 in
set_option maxHeartbeats 4000000 in
theorem walk1 (n slot : Int) (w : World) {k i : Nat} (hu : wrap64 ((IntKind.u64.wrap n).tmod 256) = k) (hv : wrap64 ((IntKind.u64.wrap slot).tmod 256) = i) (HP : Hid (∀ l, progOK 0 (px k i l))) :
    Calls Try.prog 4 #[.int .i64 n, .int .i64 slot, .bool true] w fun e w' => e = .returned (.bool true) ∧ Below w.heap.size w w' := by
  go_enter Try.func4, Try.ntmps4
  go_wp2_with fail
  refine (law_build (w0 := w) ?u1 (prog_two (a := w.heap.size + 1) (b := w.heap.size + 1 + 1) (l1 := [⟨8, 1, 0, 0⟩, ⟨1, 1, k, 0⟩, ⟨2, 2, 1, i⟩, ⟨2, 3, 9, 0⟩]) (l2 := [⟨5, 0, 0, 0⟩]) ?b1 ?b2 (by show (4 : Nat) ≤ maxLen; unfold maxLen; omega) (by show (1 : Nat) ≤ maxLen; unfold maxLen; omega) ?b3) (HP.out true)).mono ?_
  case u1 => exact ((((Upd.refl _ _).al _).al _).al _).al _
  case b1 => exact ((Blk.new' _ _ _ (by first | rfl | (simp; done))).alloc _).alloc _
  case b2 => exact (Blk.new' _ _ _ (by first | rfl | (simp; done))).alloc _
  case b3 => exact Blk.new' _ _ _ (by first | rfl | (simp; done))
  rintro e w1 ⟨m, rfl, hm, hu⟩
  have HM1 := Lib.hid hm
  clear hm hu
  go_wp2_with fail
  refine (HM1.out.do_ (by decide) 0).mono ?_
  rintro e w2 ⟨rfl, hm, _⟩
  have HM2 := Lib.hid hm
  clear hm
  go_wp2_with fail
  refine (HM2.out.do_ (by decide) 0).mono ?_
  rintro e w3 ⟨rfl, hm, _⟩
  have HM3 := Lib.hid (show LawM w _ w3 m (m2 k i true) _ from (two k i true) ▸ hm)
  clear hm HM1 HM2
  go_wp2_with fail
  by_cases hb : k < i
  · have hbI : (k : Int) < (i : Int) := by omega
    refine (HM3.out.does (by decide) (g := 0) (bad3 true hb)).mono ?_
    rintro e w4 ⟨rfl, hm, _⟩
    have HM4 := Lib.hid (hm.up (Upd.allocF (.cells #[.int .i64 0, .int .i64 0, .int .i64 2, .int .i64 (inX i true).op, .int .i64 0, .bool true] 34)))
    have Hs0 := Lib.hid (HM4.out.state_ (g := 0) (s := 5) (by kernel_rfl))
    have Hs1 := Lib.hid (HM4.out.state_ (g := 1) (s := 1) (by kernel_rfl))
    clear hm HM3 hb
    go_wp2_with fail
    refine Hs0.out.mono ?_
    rintro e w5 ⟨rfl, rfl⟩
    go_wp2_with fail
    refine Hs1.out.mono ?_
    rintro e w5 ⟨rfl, rfl⟩
    go_wp2_with fail
    refine HM4.out.told_.mono ?_
    rintro e w5 ⟨rfl, hm, _⟩
    have HM5 := Lib.hid hm
    clear hm
    go_wp2_with fail
    refine (HM5.out.reach_ (by decide)).mono ?_
    rintro e w6 ⟨A, cap, rfl, _, hu⟩
    rw [show reachL (moveM (runM (m2 k i true) 0) 0 5) = [] from reachL_nil' (mB_roots k i true)]
    have HM6 := Lib.hid (HM5.out.up hu)
    clear hu
    rw [List.length_nil]
    go_wp2_with fail
    refine (HM6.out.ids_ (k := 1) rfl).mono ?_
    rintro e w7 ⟨rfl, rfl⟩
    go_wp2_with fail
    go_ret
    exact ⟨rfl, HM6.out.u.below'⟩
  · have hbI : ¬ (k : Int) < (i : Int) := by omega
    have hbd : decide ((k : Int) < (i : Int)) = false := by simpa using hbI
    refine (HM3.out.does (by decide) (g := 0) (good3 true hb)).mono ?_
    rintro e w4 ⟨rfl, hm, _⟩
    have HM4 := Lib.hid (hm.up (Upd.allocF (.cells #[.int .i64 0, .int .i64 0, .int .i64 2, .int .i64 (inX i true).op, .int .i64 0, .bool false] 34)))
    have Hs0 := Lib.hid (HM4.out.state_ (g := 0) (s := 1) (by kernel_rfl))
    have Hs1 := Lib.hid (HM4.out.state_ (g := 1) (s := 1) (by kernel_rfl))
    clear hm HM3 hb
    go_wp2_with fail
    refine Hs0.out.mono ?_
    rintro e w5 ⟨rfl, rfl⟩
    go_wp2_with fail
    refine Hs1.out.mono ?_
    rintro e w5 ⟨rfl, rfl⟩
    go_wp2_with fail
    refine (HM4.out.does (by decide) (g := 0) (bad4 k i true)).mono ?_
    rintro e w5 ⟨rfl, hm, _⟩
    have b1 : Blk ((w5.alloc (.cells #[.int .i64 0, .int .i64 0, .int .i64 3, .int .i64 2, .int .i64 0, .bool true] 34)).alloc (.cells #[.int .i64 1] 3)) w5.heap.size 34 #[.int .i64 0, .int .i64 0, .int .i64 3, .int .i64 2, .int .i64 0, .bool true] := (Blk.new _ _ _).alloc _
    have b2 : Blk ((w5.alloc (.cells #[.int .i64 0, .int .i64 0, .int .i64 3, .int .i64 2, .int .i64 0, .bool true] 34)).alloc (.cells #[.int .i64 1] 3)) (w5.heap.size + 1) 3 #[.int .i64 1] := Blk.new' _ _ _ (by simp)
    have HM5 := Lib.hid ((hm.up (Upd.allocF (.cells #[.int .i64 0, .int .i64 0, .int .i64 3, .int .i64 2, .int .i64 0, .bool true] 34))).up (Upd.allocF (.cells #[.int .i64 1] 3)))
    have B1 := Lib.hid b1
    have B2 := Lib.hid b2
    clear hm b1 b2
    go_wp2_with fail
    refine HM5.out.told_.mono ?_
    rintro e w6 ⟨rfl, hm, hu⟩
    have b1 := B1.out.updF hu
    have f5 : w6.cell? ⟨w5.heap.size, 5, none⟩ = some (.bool true) := b1.cell 5
    have lf := b1.lt
    have b2 := B2.out.updF hu
    have HM6 := Lib.hid hm
    have C2 := Lib.hid b2
    have Ht0 := Lib.hid (HM6.out.state_ (g := 0) (s := 5) (by kernel_rfl))
    have Ht1 := Lib.hid (HM6.out.state_ (g := 1) (s := 1) (by kernel_rfl))
    have Hid := Lib.hid (HM6.out.ids_ (k := 1) (rfl))
    clear hm hu b1 b2 HM5 B1 B2
    go_wp2_with fail
    refine Ht0.out.mono ?_
    rintro e w7 ⟨rfl, rfl⟩
    go_wp2_with fail
    refine Hid.out.mono ?_
    rintro e w7 ⟨rfl, rfl⟩
    go_wp2_with fail
    refine (ints_c (f := fun _ _ => 1) (rd_one (C2.out.alloc _)) (rd_one (Blk.new' _ _ _ rfl))).mono ?_
    rintro e w7 ⟨rfl, nd, rfl⟩
    have HM7 := Lib.hid (HM6.out.up (((Upd.refl _ w6).al (.cells #[.int .i64 1] 3)).drewN nd))
    go_wp2_with fail
    refine (HM7.out.state_ (g := 1) (s := 1) (by kernel_rfl)).mono ?_
    rintro e w8 ⟨rfl, rfl⟩
    go_wp2_with fail
    go_ret
    exact ⟨rfl, HM7.out.u.below'⟩
theorem walk (n slot : Int) (load : Bool) (w : World) : Calls Try.prog 4 #[.int .i64 n, .int .i64 slot, .bool load] w fun e w' => e = .returned (.bool true) ∧ Below w.heap.size w w' := by
  have hu := umod_w64 n 256 256 rfl (by omega) (by omega)
  have hv := umod_w64 slot 256 256 rfl (by omega) (by omega)
  have HP := Lib.hid (fun l => px_ok (k := umod n 256) (i := umod slot 256) l (umod_lt _ _ (by omega)) (umod_lt _ _ (by omega)))
  cases load
  · exact walk0 n slot w hu hv HP
  · exact walk1 n slot w hu hv HP

set_option maxRecDepth 100000 in
theorem lifted (os : Os) (started : os.Started) (H : Type) (enc : TypeId × Value → H) :
    ReturnsInHanded {} Try.checked os 4 .any (Rows.modelFaultsSpec.pre6 enc Try.prog Try.f4 Rows.modelFaultsRow.domain false) (Rows.modelFaultsSpec.post enc Try.prog Try.f4 false true false false) := by
  refine returnsInHanded_of_change (C := Try.checked) Try.ownK started (by kernel_rfl) Try.func4
    (ChangeSpec.witness6 (enc := enc) (C := Try.checked) false ⟨#[], #[.int .i64 0, .int .i64 0, .bool false], []⟩ 8 (by kernel_rfl) (by kernel_rfl) (by kernel_rfl) (by kernel_rfl)) ?_
  intro W base args ds gs before hval0 hW hcnd _
  have hval : ∀ (j : Nat) t v, Try.f4.params[j]? = some t → args[j]? = some v → Value.okWide Try.prog W .any base t v := hval0
  have hW' := hW
  obtain ⟨p, q, hA0, hV, rfl, hfz, hnd⟩ := hW
  have hA : DataW.TrodAll enc Try.prog W 0 (fun _ => true) true Try.f4.params.toList args.toList ds p := hA0
  rw [Try.params4] at hA hval
  obtain ⟨v0, vs0, d0, ds0, p0, q0, hargs, rfl, rfl, h0, r0⟩ := trodAll_cons hA
  obtain ⟨v1, vs1, d1, ds1, p1, q1, rfl, rfl, rfl, h1, r1⟩ := trodAll_cons r0
  obtain ⟨v2, vs2, d2, ds2, p2, q2, rfl, rfl, rfl, h2, r2⟩ := trodAll_cons r1
  obtain ⟨rfl, rfl, rfl⟩ := trodAll_nil r2
  obtain rfl : args = #[v0, v1, v2] := by cases args; simp_all
  obtain ⟨rfl, rfl⟩ := trodVars_none hV
  obtain ⟨a0, rfl, rfl, rfl, _⟩ := open_int Try.underlying3 (hval 0 3 v0 rfl rfl) h0
  obtain ⟨a1, rfl, rfl, rfl, _⟩ := open_int Try.underlying3 (hval 1 3 v1 rfl rfl) h1
  obtain ⟨a2, rfl, rfl, rfl⟩ := open_bool Try.underlying4 (hval 2 4 v2 rfl rfl) h2
  clear hA0 hval0
  refine (walk a0 a1 a2 W).mono fun e W' ⟨he, hb⟩ => ?_
  subst he
  exact ⟨_, rfl, law_post Try.laidB rfl rfl rfl Try.underlying4 (by kernel_rfl) hW' hb⟩

theorem proved : Rows.ModelFaultsSaid :=
  OpenClaim.holds_of_wide 4 Try.f4 rfl rfl rfl rfl rfl rfl rfl ⟨rfl, rfl, rfl, rfl, rfl⟩ rfl rfl rfl rfl rfl (by kernel_rfl) Try.func4 (by kernel_rfl)
    (of_decide_eq_true (by kernel_rfl)) (by unfold Func.isWrapper; first | (rw [if_pos (by decide +kernel)]; kernel_rfl) | (rw [if_neg (by decide +kernel)]; exact ⟨rfl, rfl⟩))
    (fun os started H enc _ => lifted os started H enc)
#print axioms proved
end Go.Proofs.Ytndldoamadmphaa.modelFaults
