/- 'Rows.ModelWakesSaid': treadmilllaw16.ModelWakes returns true for any integers. No condition. -/
import Derived.Test.YtndldoamadmphaaLawC
import Derived.Test.YtndldoamadmphaaWkA
import Derived.Test.YtndldoamadmphaaWkB
import Derived.Test.YtndldoamadmphaaWkC
import Derived.Test.YtndldoamadmphaaWkD
namespace Go.Proofs.Ytndldoamadmphaa.modelWakes
open Go.ChangeShapes Go.WideShapes Go.ChangeAt Go.RowKit
theorem all_ok {k w : Nat} (h1 : 1 ≤ k) (h2 : k ≤ 20) (h3 : w < 25) : okAll k w = true := by
  have hk : okK k = true := by
    have : k = 1 ∨ k = 2 ∨ k = 3 ∨ k = 4 ∨ k = 5 ∨ k = 6 ∨ k = 7 ∨ k = 8 ∨ k = 9 ∨ k = 10 ∨ k = 11 ∨ k = 12 ∨ k = 13 ∨ k = 14 ∨ k = 15 ∨ k = 16 ∨ k = 17 ∨ k = 18 ∨ k = 19 ∨ k = 20 := by omega
    rcases this with rfl | rfl | rfl | rfl | rfl | rfl | rfl | rfl | rfl | rfl | rfl | rfl | rfl | rfl | rfl | rfl | rfl | rfl | rfl | rfl
    · exact ok_1
    · exact ok_2
    · exact ok_3
    · exact ok_4
    · exact ok_5
    · exact ok_6
    · exact ok_7
    · exact ok_8
    · exact ok_9
    · exact ok_10
    · exact ok_11
    · exact ok_12
    · exact ok_13
    · exact ok_14
    · exact ok_15
    · exact ok_16
    · exact ok_17
    · exact ok_18
    · exact ok_19
    · exact ok_20
  exact List.all_eq_true.1 hk w (by simpa using h3)
structure Facts (k w : Nat) : Prop where
  e3 : ∀ i, i < k → (stepM (st3 k w i) 0).2.2 = 0 ∧ (stepM (st3 k w i) 0).2.1.v = (i : Int) + 1 ∧ (stepM (stepM (st3 k w i) 0).1 (i + 1 : Nat)).2.2 = 0
  e4 : ∀ i, i < w → (stepM (st4 k w i) 0).2.2 = 0 ∧ (stepM (st4 k w i) 0).2.1.v = (if i < k then (i : Int) + 1 else -1) ∧ (i < k → stateM (st4 k w (i + 1)) (i + 1 : Nat) = 1)
  e5 : (stepM (st4 k w w) 0).2.2 = 0
  e6 : stuckB (st6 k w (min w k)) = true
theorem facts {k w : Nat} (h1 : 1 ≤ k) (h2 : k ≤ 20) (h3 : w < 25) : Facts k w := by
  have h := all_ok h1 h2 h3
  unfold okAll at h
  simp only [Bool.and_eq_true, decide_eq_true_eq] at h
  obtain ⟨⟨⟨a, b⟩, c⟩, d⟩ := h
  refine ⟨fun i hi => ?_, fun i hi => ?_, c, d⟩
  · have := List.all_eq_true.1 a i (by simpa using hi)
    unfold ok3 at this
    simp only [Bool.and_eq_true, decide_eq_true_eq] at this
    exact ⟨this.1.1, this.1.2, this.2⟩
  · have := List.all_eq_true.1 b i (by simpa using hi)
    unfold ok4 at this
    simp only [Bool.and_eq_true, decide_eq_true_eq, Bool.or_eq_true] at this
    exact ⟨this.1.1, this.1.2, fun hik => this.2.elim (fun e => absurd e (by omega)) id⟩
theorem px_ok {k w : Nat} (h2 : k ≤ 20) (h3 : w < 25) : progOK 0 (px k w) := by
  refine ⟨⟨by simp [px], by simp [px]⟩, by decide, fun l hl => ?_⟩
  simp only [px, List.mem_cons, List.not_mem_nil, or_false] at hl
  rcases hl with rfl | rfl
  · refine ⟨by simp; omega, fun x hx => ?_⟩
    simp only [List.mem_append, List.mem_replicate, List.mem_cons, List.not_mem_nil, or_false] at hx
    rcases hx with (⟨_, rfl⟩ | ⟨_, rfl⟩) | rfl
    · simp [instOK, partOK, kindsOf, partsL, most, px, spI]
    · simp [instOK, partOK, kindsOf, partsL, most, wkI]
    · simp [instOK, partOK, kindsOf, partsL, most, blI]
  · refine ⟨by simp, fun x hx => ?_⟩
    simp only [List.mem_cons, List.not_mem_nil, or_false] at hx
    subst hx
    simp [instOK, partOK, kindsOf, partsL, most, blI]
set_option maxRecDepth 100000 in
set_option maxHeartbeats 8000000 in
theorem walk (n wakes : Int) (w : World) : Calls Try.prog 7 #[.int .i64 n, .int .i64 wakes] w fun e w' => e = .returned (.bool true) ∧ Below w.heap.size w w' := by
  obtain ⟨i0, hi, hz0, hz1, hz2⟩ := info_parts Try.inst_info
  obtain ⟨k, hk⟩ : ∃ k : Nat, k = 1 + umod n 20 := ⟨_, rfl⟩
  obtain ⟨q, hq⟩ : ∃ q : Nat, q = umod wakes 25 := ⟨_, rfl⟩
  have hu := umod_w64 n 20 20 rfl (by omega) (by omega)
  have hv := umod_w64 wakes 25 25 rfl (by omega) (by omega)
  have hul := umod_lt n 20 (by omega)
  have hk1 : 1 ≤ k := by omega
  have hk2 : k ≤ 20 := by omega
  have hq2 : q < 25 := by rw [hq]; exact umod_lt _ _ (by omega)
  have hwk : wrap64 (1 + (umod n 20 : Int)) = k := by unfold wrap64; omega
  rw [← hq] at hv
  have FA := Lib.hid (facts hk1 hk2 hq2)
  have HP := Lib.hid (px_ok hk2 hq2)
  have HWK := Lib.hid hwk
  have hmin := min2
  have hkI : (k : Int) ≤ 20 := by omega
  have hk1I : (1 : Int) ≤ (k : Int) := by omega
  have hqI : (q : Int) < 25 := by omega
  clear hk hq hwk hul
  go_enter Try.func7, Try.ntmps7
  go_wp2_with fail
  rw [hu, HWK.out, hv]
  clear hu HWK hv
  go_loopw [7, 8] (fun t v wr => ∃ i : Nat, i ≤ k ∧ v = .int .i64 i ∧ ∃ row, CodeRow w wr row t (List.replicate i spI)) (fun _ v _ => k - (intOf v).toNat)
  case atStart => exact ⟨0, by omega, rfl, none, CodeRow.nil w⟩
  case round =>
    obtain ⟨i, hik, rfl, row, hrow⟩ := hrel
    have HR := Lib.hid hrow
    clear hrow
    by_cases hlt : i < k
    · have hltI : (i : Int) < (k : Int) := by omega
      obtain ⟨N, hN⟩ : ∃ N, N = (List.replicate i spI).length := ⟨_, rfl⟩
      have hN100 : N ≤ 100 := by rw [hN]; simp; omega
      have hrN : RowN (wr.alloc (.cells #[.int .i64 8, .int .i64 1, .int .i64 0, .int .i64 0] 40)) 40 4 row u7 N (insV (List.replicate i spI)) := by rw [hN]; exact HR.out.1.alloc _
      have HRN := Lib.hid hrN
      have HN := Lib.hid hN
      clear hrN hN
      go_wp2_with (at_builtin; refine wpList_append_rowN rfl (.tmp 37) (.tmp 39) 42 rfl 40 i0 _ 4 32 Try.underlying42 hi hz0 hz1 hz2 rfl (by decide) _ rfl row N _ HRN.out ⟨wr.heap.size, 0, none⟩ 1 1 (insV [spI]) rfl rfl (news_blk (t := 40) (Blk.new _ _ _)) (insV_one _) (by omega) (by unfold maxLen; omega) (by omega) ?_; intro g3 cap4 w3 hrow3 hg3 hat3 hlt3)
      refine ⟨⟨i + 1, by omega, by go_num, some g3, ?_⟩, by simp [intOf]; omega⟩
      rw [List.replicate_succ']
      exact add_one HR.out HN.out hrow3 hg3 hat3
    · obtain rfl : k = i := by omega
      clear hlt
      go_wp2_with fail
      go_loopw [7, 9] (fun t v wr => ∃ i : Nat, i ≤ q ∧ v = .int .i64 i ∧ ∃ row, CodeRow w wr row t (List.replicate k spI ++ List.replicate i wkI)) (fun _ v _ => q - (intOf v).toNat)
      case atStart => exact ⟨0, by omega, rfl, row, by rw [List.replicate_zero, List.append_nil]; exact HR.out⟩
      case round =>
        clear HR
        obtain ⟨i, hik, rfl, row, hrow⟩ := hrel
        have HR := Lib.hid hrow
        clear hrow
        by_cases hlt : i < q
        · have hltI : (i : Int) < (q : Int) := by omega
          obtain ⟨N, hN⟩ : ∃ N, N = (List.replicate k spI ++ List.replicate i wkI).length := ⟨_, rfl⟩
          have hN100 : N ≤ 100 := by rw [hN]; simp; omega
          have hrN : RowN (wr.alloc (.cells #[.int .i64 12, .int .i64 3, .int .i64 0, .int .i64 0] 40)) 40 4 row u7 N (insV (List.replicate k spI ++ List.replicate i wkI)) := by rw [hN]; exact HR.out.1.alloc _
          have HRN := Lib.hid hrN
          have HN := Lib.hid hN
          clear hrN hN
          go_wp2_with (at_builtin; refine wpList_append_rowN rfl (.tmp 46) (.tmp 48) 42 rfl 40 i0 _ 4 32 Try.underlying42 hi hz0 hz1 hz2 rfl (by decide) _ rfl row N _ HRN.out ⟨wr.heap.size, 0, none⟩ 1 1 (insV [wkI]) rfl rfl (news_blk (t := 40) (Blk.new _ _ _)) (insV_one _) (by omega) (by unfold maxLen; omega) (by omega) ?_; intro g3 cap4 w3 hrow3 hg3 hat3 hlt3)
          refine ⟨⟨i + 1, by omega, by go_num, some g3, ?_⟩, by simp [intOf]; omega⟩
          rw [List.replicate_succ', ← List.append_assoc]
          exact add_one HR.out HN.out hrow3 hg3 hat3
        · obtain rfl : q = i := by omega
          clear hlt
          obtain ⟨N, hN⟩ : ∃ N, N = (List.replicate k spI ++ List.replicate q wkI).length := ⟨_, rfl⟩
          have hN100 : N ≤ 100 := by rw [hN]; simp; omega
          have hrN : RowN (wr.alloc (.cells #[.int .i64 11, .int .i64 3, .int .i64 0, .int .i64 0] 40)) 40 4 row u7 N (insV (List.replicate k spI ++ List.replicate q wkI)) := by rw [hN]; exact HR.out.1.alloc _
          have HRN := Lib.hid hrN
          have HN := Lib.hid hN
          clear hrN hN
          go_wp2_with (at_builtin; refine wpList_append_rowN rfl (.tmp 50) (.tmp 52) 42 rfl 40 i0 _ 4 32 Try.underlying42 hi hz0 hz1 hz2 rfl (by decide) _ rfl row N _ HRN.out ⟨wr.heap.size, 0, none⟩ 1 1 (insV [blI]) rfl rfl (news_blk (t := 40) (Blk.new _ _ _)) (insV_one _) (by omega) (by unfold maxLen; omega) (by omega) ?_; intro g3 cap4 w3 hrow3 hg3 hat3 hlt3)
          have hcr := add_one HR.out HN.out hrow3 hg3 hat3
          have HC := Lib.hid hcr
          clear hcr hrow3 hg3 hat3 HR HRN
          have hun : Upd (fun _ => False) w3 ((w3.alloc (.cells #[.int .i64 11, .int .i64 3, .int .i64 0, .int .i64 0] 40)).alloc (.cells #[.slice (some ⟨g3, 0, none⟩) (N + 1) cap4, .slice (some ⟨w3.heap.size, 0, none⟩) 1 1] 42)) := ((Upd.refl _ _).al _).al _
          refine (law_build (w0 := w) (HC.out.2.2.tr hun) (prog_vs (HC.out.code.upd hun) (CodeIn.of_blk (l := [blI]) (g := w3.heap.size) ((Blk.new _ _ _).alloc _) (by show (1 : Nat) ≤ maxLen; unfold maxLen; omega)) (Blk.new' _ _ _ (by first | rfl | simp))) HP.out).mono ?_
          rintro e w4 ⟨m, rfl, hm, _⟩
          have HM := Lib.hid hm
          clear hm HC hun
          go_wp2_with fail
          go_loopw [11] (fun v wr => ∃ i : Nat, i ≤ k ∧ v = .int .i64 i ∧ LawM w (fun _ => False) wr m (st3 k q i) (4 * i)) (fun v _ => k - (intOf v).toNat)
          case atStart => exact ⟨0, by omega, rfl, HM.out⟩
          case round =>
            clear HM
            obtain ⟨i, hik, rfl, hm⟩ := hrel
            have HM := Lib.hid hm
            clear hm
            by_cases hlt : i < k
            · have hltI : (i : Int) < (k : Int) := by omega
              have F := Lib.hid (FA.out.e3 i hlt)
              go_wp2_with fail
              refine (HM.out.doesV (by omega) (g := 0) F.out.1 F.out.2.1 rfl).mono ?_
              rintro e w5 ⟨a1, a2, a3, a4, rfl, hm, _⟩
              obtain ⟨bf, hbf⟩ : ∃ b, b = (stepM (st3 k q i) 0).2.1.fault := ⟨_, rfl⟩
              rw [← hbf]
              have HM5 := Lib.hid (hm.up (Upd.allocF (.cells #[.int .i64 a1, .int .i64 a2, .int .i64 a3, .int .i64 a4, .int .i64 ((i : Int) + 1), .bool bf] 34)))
              clear hm hbf
              go_wp2_with fail
              refine (HM5.out.doesV (by omega) (g := (i : Int) + 1) (show (stepM (stepM (st3 k q i) 0).1 ((i : Int) + 1)).2.2 = 0 from F.out.2.2) rfl rfl).mono ?_
              rintro e w6 ⟨b1, b2, b3, b4, rfl, hm, _⟩
              obtain ⟨v6, hv6⟩ : ∃ b, b = (stepM (stepM (st3 k q i) 0).1 ((i : Int) + 1)).2.1.v := ⟨_, rfl⟩
              obtain ⟨f6, hf6⟩ : ∃ b, b = (stepM (stepM (st3 k q i) 0).1 ((i : Int) + 1)).2.1.fault := ⟨_, rfl⟩
              rw [← hv6, ← hf6]
              have HM6 := Lib.hid (show LawM w (fun _ => False) _ m (st3 k q (i + 1)) _ from hm.up (Upd.allocF (.cells #[.int .i64 b1, .int .i64 b2, .int .i64 b3, .int .i64 b4, .int .i64 v6, .bool f6] 34)))
              clear hm hv6 hf6
              go_wp2_with fail
              go_roundw
              case rel => exact ⟨i + 1, by omega, by go_num, HM6.out⟩
              case measure => simp [intOf]; omega
            · obtain rfl : k = i := by omega
              clear hlt
              go_wp2_with fail
              go_loopw [16] (fun v wr => ∃ i : Nat, i ≤ q ∧ v = .int .i64 i ∧ LawM w (fun _ => False) wr m (st4 k q i) (4 * k + 2 * i)) (fun v _ => q - (intOf v).toNat)
              case atStart => exact ⟨0, by omega, rfl, HM.out⟩
              case round =>
                clear HM
                obtain ⟨i, hik, rfl, hm⟩ := hrel
                have HM := Lib.hid hm
                clear hm
                by_cases hlt : i < q
                · have hltI : (i : Int) < (q : Int) := by omega
                  have F := Lib.hid (FA.out.e4 i hlt)
                  by_cases hik2 : i < k
                  · have hikI : (i : Int) < (k : Int) := by omega
                    have hst1 : stateM (st4 k q (i + 1)) ((i : Int) + 1) = 1 := by
                      have h9 := F.out.2.2 hik2
                      rwa [show ((i + 1 : Nat) : Int) = (i : Int) + 1 by omega] at h9
                    have HST1 := Lib.hid hst1
                    clear hst1
                    have hFv : (stepM (st4 k q i) 0).2.1.v = (i : Int) + 1 := by rw [F.out.2.1, if_pos hik2]
                    have HFV := Lib.hid hFv
                    clear hFv
                    go_wp2_with fail
                    refine (HM.out.doesV (by omega) (g := 0) F.out.1 HFV.out rfl).mono ?_
                    rintro e w5 ⟨a1, a2, a3, a4, rfl, hm, _⟩
                    obtain ⟨bf, hbf⟩ : ∃ b, b = (stepM (st4 k q i) 0).2.1.fault := ⟨_, rfl⟩
                    rw [← hbf]
                    have HM5 := Lib.hid (show LawM w (fun _ => False) _ m (st4 k q (i + 1)) _ from hm.up (Upd.allocF (.cells #[.int .i64 a1, .int .i64 a2, .int .i64 a3, .int .i64 a4, .int .i64 ((i : Int) + 1), .bool bf] 34)))
                    have Hst := Lib.hid (HM5.out.state_ (g := (i : Int) + 1) (s := 1) HST1.out)
                    clear hm hbf
                    go_wp2_with fail
                    refine Hst.out.mono ?_
                    rintro e w6 ⟨rfl, rfl⟩
                    go_wp2_with fail
                    go_roundw
                    case rel => exact ⟨i + 1, by omega, by go_num, HM5.out⟩
                    case measure => simp [intOf]; omega
                  · have hikI : ¬ (i : Int) < (k : Int) := by omega
                    have hikD : decide (i < k) = false := by simpa using hik2
                    have hFv : (stepM (st4 k q i) 0).2.1.v = -1 := by rw [F.out.2.1, if_neg hik2]
                    have HFV := Lib.hid hFv
                    clear hFv
                    go_wp2_with fail
                    refine (HM.out.doesV (by omega) (g := 0) F.out.1 HFV.out rfl).mono ?_
                    rintro e w5 ⟨a1, a2, a3, a4, rfl, hm, _⟩
                    obtain ⟨bf, hbf⟩ : ∃ b, b = (stepM (st4 k q i) 0).2.1.fault := ⟨_, rfl⟩
                    rw [← hbf]
                    have HM5 := Lib.hid (show LawM w (fun _ => False) _ m (st4 k q (i + 1)) _ from hm.up (Upd.allocF (.cells #[.int .i64 a1, .int .i64 a2, .int .i64 a3, .int .i64 a4, .int .i64 (-1), .bool bf] 34)))
                    clear hm hbf
                    go_wp2_with fail
                    go_roundw
                    case rel => exact ⟨i + 1, by omega, by go_num, HM5.out⟩
                    case measure => simp [intOf]; omega
                · obtain rfl : q = i := by omega
                  clear hlt
                  have F := Lib.hid FA.out.e5
                  go_wp2_with fail
                  refine (HM.out.doesV (by omega) (g := 0) F.out rfl rfl).mono ?_
                  rintro e w5 ⟨a1, a2, a3, a4, rfl, hm, _⟩
                  obtain ⟨bv, hbv⟩ : ∃ b, b = (stepM (st4 k q q) 0).2.1.v := ⟨_, rfl⟩
                  obtain ⟨bf, hbf⟩ : ∃ b, b = (stepM (st4 k q q) 0).2.1.fault := ⟨_, rfl⟩
                  rw [← hbv, ← hbf]
                  have HM5 := Lib.hid (show LawM w (fun _ => False) _ m (st6 k q 0) (4 * k + 2 * q + 2) from hm.up (Upd.allocF (.cells #[.int .i64 a1, .int .i64 a2, .int .i64 a3, .int .i64 a4, .int .i64 bv, .bool bf] 34)))
                  clear hm hbv hbf
                  go_wp2_with fail
                  go_loopw [22] (fun v wr => ∃ i : Nat, i ≤ min q k ∧ v = .int .i64 ((i : Int) + 1) ∧ LawM w (fun _ => False) wr m (st6 k q i) (4 * k + 2 * q + 2 + 2 * i)) (fun v _ => min q k + 1 - (intOf v).toNat)
                  case atStart => exact ⟨0, by omega, rfl, HM5.out⟩
                  case round =>
                    clear HM5
                    obtain ⟨i, hik, rfl, hm⟩ := hrel
                    have HM5 := Lib.hid hm
                    clear hm
                    have hmn : ((min (q : Int) (k : Int)) : Int) = ((min q k : Nat) : Int) := by omega
                    by_cases hlt : i < min q k
                    · have hltI : (i : Int) + 1 ≤ min (q : Int) (k : Int) := by omega
                      go_wp2_with fail
                      refine (HM5.out.do_ (by omega) ((i : Int) + 1)).mono ?_
                      rintro e w6 ⟨rfl, hm, _⟩
                      have HM6 := Lib.hid (show LawM w (fun _ => False) _ m (st6 k q (i + 1)) _ from hm)
                      clear hm
                      go_wp2_with fail
                      go_roundw
                      case rel => exact ⟨i + 1, by omega, by go_num, HM6.out⟩
                      case measure => simp [intOf]; omega
                    · have hie : i = min q k := by omega
                      subst hie
                      have hltI : ¬ (((min q k : Nat) : Int)) + 1 ≤ min (q : Int) (k : Int) := by omega
                      have hnI : min (q : Int) (k : Int) < (((min q k : Nat) : Int)) + 1 := by omega
                      clear hlt
                      go_wp2_with fail
                      refine HM5.out.told_.mono ?_
                      rintro e w6 ⟨rfl, hm, _⟩
                      have HM6 := Lib.hid hm
                      have Hs := Lib.hid (stuck_i hm.mod (by omega))
                      rw [FA.out.e6] at Hs
                      clear hm
                      go_wp2_with fail
                      refine Hs.out.mono ?_
                      rintro e w7 ⟨rfl, rfl⟩
                      go_wp2_with fail
                      go_ret
                      exact ⟨rfl, HM6.out.u.below'⟩

set_option maxRecDepth 100000 in
theorem lifted (os : Os) (started : os.Started) (H : Type) (enc : TypeId × Value → H) :
    ReturnsInHanded {} Try.checked os 7 .any (Rows.modelWakesSpec.pre6 enc Try.prog Try.f7 Rows.modelWakesRow.domain false) (Rows.modelWakesSpec.post enc Try.prog Try.f7 false true false false) := by
  refine returnsInHanded_of_change (C := Try.checked) Try.ownK started (by kernel_rfl) Try.func7
    (ChangeSpec.witness6 (enc := enc) (C := Try.checked) false ⟨#[], #[.int .i64 0, .int .i64 0], []⟩ 8 (by kernel_rfl) (by kernel_rfl) (by kernel_rfl) (by kernel_rfl)) ?_
  intro W base args ds gs before hval0 hW hcnd _
  have hval : ∀ (j : Nat) t v, Try.f7.params[j]? = some t → args[j]? = some v → Value.okWide Try.prog W .any base t v := hval0
  have hW' := hW
  obtain ⟨p, q, hA0, hV, rfl, hfz, hnd⟩ := hW
  have hA : DataW.TrodAll enc Try.prog W 0 (fun _ => true) true Try.f7.params.toList args.toList ds p := hA0
  rw [Try.params7] at hA hval
  obtain ⟨v0, vs0, d0, ds0, p0, q0, hargs, rfl, rfl, h0, r0⟩ := trodAll_cons hA
  obtain ⟨v1, vs1, d1, ds1, p1, q1, rfl, rfl, rfl, h1, r1⟩ := trodAll_cons r0
  obtain ⟨rfl, rfl, rfl⟩ := trodAll_nil r1
  obtain rfl : args = #[v0, v1] := by cases args; simp_all
  obtain ⟨rfl, rfl⟩ := trodVars_none hV
  obtain ⟨a0, rfl, rfl, rfl, _⟩ := open_int Try.underlying3 (hval 0 3 v0 rfl rfl) h0
  obtain ⟨a1, rfl, rfl, rfl, _⟩ := open_int Try.underlying3 (hval 1 3 v1 rfl rfl) h1
  clear hA0 hval0
  refine (walk a0 a1 W).mono fun e W' ⟨he, hb⟩ => ?_
  subst he
  exact ⟨_, rfl, law_post Try.laidB rfl rfl rfl Try.underlying4 (by kernel_rfl) hW' hb⟩

theorem proved : Rows.ModelWakesSaid :=
  OpenClaim.holds_of_wide 7 Try.f7 rfl rfl rfl rfl rfl rfl rfl ⟨rfl, rfl, rfl, rfl, rfl⟩ rfl rfl rfl rfl rfl (by kernel_rfl) Try.func7 (by kernel_rfl)
    (of_decide_eq_true (by kernel_rfl)) (by unfold Func.isWrapper; first | (rw [if_pos (by decide +kernel)]; kernel_rfl) | (rw [if_neg (by decide +kernel)]; exact ⟨rfl, rfl⟩))
    (fun os started H enc _ => lifted os started H enc)
#print axioms proved
end Go.Proofs.Ytndldoamadmphaa.modelWakes
