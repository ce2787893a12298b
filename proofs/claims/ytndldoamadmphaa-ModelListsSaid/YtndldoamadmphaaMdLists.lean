/- 'Rows.ModelListsSaid': treadmilllaw16.ModelLists returns true for any integer. No condition. -/
import Derived.Test.YtndldoamadmphaaLs
import Derived.Test.YtndldoamadmphaaInts
namespace Go.Proofs.Ytndldoamadmphaa
open Go.RowKit
theorem prog_v1 {w : World} {c : Nat} {v1 : Value} {l1 : List In} (h1 : CodeIn w v1 l1) (h3 : Blk w c 42 #[v1]) : ProgIn w (.slice (some ⟨c, 0, none⟩) 1 1) [l1] :=
  ProgIn.of_blk (vs := [v1]) (P := [l1]) h3 rfl (by show (1 : Nat) ≤ maxLen; unfold maxLen; omega) (fun k v l hv hl => by
    rcases k with _ | k
    · injection hv with hv
      injection hl with hl
      subst hv
      subst hl
      exact h1
    · simp at hl)
theorem rd_two {w : World} {b : Nat} {x y : Int} {f : Nat → Nat → Int} (h : Blk w b 3 #[.int .i64 x, .int .i64 y]) (hx : f 0 0 = x) (hy : f 1 0 = y) : RdF w (some ⟨b, 0, none⟩) 2 1 f :=
  ⟨by unfold maxLen; omega, fun _ => ⟨b, 0, rfl, h.lt, fun i hi j hj => by
    obtain rfl : j = 0 := by omega
    have : i = 0 ∨ i = 1 := by omega
    rcases this with rfl | rfl
    · rw [hx]; exact h.cell 0
    · rw [hy]; exact h.cell 1⟩⟩
theorem LawM.slots_ {W : Nat → Prop} {w0 w : World} {m n : Nat} {M : Mo} (h : LawM w0 W w m M n) {id : Int} {l : List Int} (hl : slotsL M id = l) : Calls Try.prog 23 #[.pointer (some ⟨m, 0, none⟩), .int .i64 id] w fun e w' => ∃ A cap, e = .returned (.slice A l.length cap) ∧ RdF w' A l.length 1 (fun i _ => l.getD i 0) ∧ Upd (fun _ => False) w w' := by
  subst hl
  refine (slots_i h.mod id).mono ?_
  rintro e w' ⟨v, rfl, hv, hu⟩
  obtain ⟨A, cap, rfl, hr⟩ := hv.out
  exact ⟨A, cap, rfl, hr, hu⟩
end Go.Proofs.Ytndldoamadmphaa
namespace Go.Proofs.Ytndldoamadmphaa.modelLists
open Go.ChangeShapes Go.WideShapes Go.ChangeAt Go.RowKit
structure Facts (k : Nat) : Prop where
  s : ∀ i, i < 3 * k + 1 → (stepM (st k i) 0).2.2 = 0 ∧ (stepM (st k i) 0).2.1.fault = false
  r1 : ∀ n0, Good (st k (3 * k + 1)) n0 → (reachL (st k (3 * k + 1))).length = k
  r2 : ∀ n0, Good (st k (3 * k + 2)) n0 → reachL (st k (3 * k + 2)) = []
  ids : (st k (3 * k + 2)).sl.length = k + 1
  sl : ∀ j, j < k → slotsL (st k (3 * k + 2)) ((j : Int) + 1) = [(j : Int), 0]
theorem facts {k : Nat} (h1 : 1 ≤ k) (h2 : k ≤ 20) : Facts k := by
  obtain ⟨j, rfl⟩ : ∃ j, k = j + 1 := ⟨k - 1, by omega⟩
  have h := List.all_eq_true.1 ok_all j (by simp; omega)
  unfold okL at h
  simp only [Bool.and_eq_true, decide_eq_true_eq] at h
  obtain ⟨⟨⟨⟨a, b⟩, c⟩, d⟩, e⟩ := h
  refine ⟨fun i hi => ?_, fun n0 hg => ?_, fun n0 hg => reachC_ok hg c, d, fun i hi => ?_⟩
  · have := List.all_eq_true.1 a i (by simpa using hi)
    unfold okS at this
    simp only [Bool.and_eq_true, decide_eq_true_eq] at this
    exact ⟨this.1, by simpa using this.2⟩
  · obtain ⟨l, e1, e2⟩ := Option.map_eq_some_iff.1 b
    rw [reachC_ok hg e1]
    exact e2
  · have := List.all_eq_true.1 e i (by simpa using hi)
    simp only [decide_eq_true_eq] at this
    rwa [show ((i + 1 : Nat) : Int) = (i : Int) + 1 by omega] at this
theorem node_succ (k : Nat) : node (k + 1) = node k ++ [alI, soI, mvI] := by
  unfold node
  rw [List.replicate_succ', List.flatten_append]
  rfl
theorem node_len (k : Nat) : (node k).length = 3 * k := by
  induction k with
  | zero => rfl
  | succ k ih => rw [node_succ, List.length_append, ih]; simp; omega
theorem mem_node {k : Nat} {x : In} (h : x ∈ node k) : x = alI ∨ x = soI ∨ x = mvI := by
  unfold node at h
  obtain ⟨l, hl, hx⟩ := List.mem_flatten.1 h
  rw [List.mem_replicate] at hl
  rw [hl.2] at hx
  simpa using hx
theorem px_ok {k : Nat} (h2 : k ≤ 20) : progOK 0 (px k) := by
  refine ⟨⟨by simp [px], by simp [px]⟩, by decide, fun l hl => ?_⟩
  simp only [px, List.mem_cons, List.not_mem_nil, or_false] at hl
  subst hl
  refine ⟨by rw [List.length_append, node_len]; simp; omega, fun x hx => ?_⟩
  rw [List.mem_append] at hx
  rcases hx with hx | hx
  · rcases mem_node hx with rfl | rfl | rfl
    · simp [instOK, partOK, kindsOf, partsL, most, alI]
    · simp [instOK, partOK, kindsOf, partsL, most, soI]
    · simp [instOK, partOK, kindsOf, partsL, most, mvI]
  · simp only [List.mem_cons, List.not_mem_nil, or_false] at hx
    rcases hx with rfl | rfl
    · simp [instOK, partOK, kindsOf, partsL, most, n1I]
    · simp [instOK, partOK, kindsOf, partsL, most, n0I]
set_option maxRecDepth 100000 in
set_option maxHeartbeats 8000000 in
theorem walk (n : Int) (w : World) : Calls Try.prog 6 #[.int .i64 n] w fun e w' => e = .returned (.bool true) ∧ Below w.heap.size w w' := by
  obtain ⟨i0, hi, hz0, hz1, hz2⟩ := info_parts Try.inst_info
  obtain ⟨k, hk⟩ : ∃ k : Nat, k = 1 + umod n 20 := ⟨_, rfl⟩
  have hu := umod_w64 n 20 20 rfl (by omega) (by omega)
  have hul := umod_lt n 20 (by omega)
  have hk1 : 1 ≤ k := by omega
  have hk2 : k ≤ 20 := by omega
  have hwk : wrap64 (1 + (umod n 20 : Int)) = k := by unfold wrap64; omega
  have FA := Lib.hid (facts hk1 hk2)
  have HP := Lib.hid (px_ok hk2)
  have HWK := Lib.hid hwk
  have hkI : (k : Int) ≤ 20 := by omega
  have hk1I : (1 : Int) ≤ (k : Int) := by omega
  clear hk hwk hul
  go_enter Try.func6, Try.ntmps6
  go_wp2_with fail
  rw [hu, HWK.out]
  clear hu HWK
  go_loopw [4, 5] (fun t v wr => ∃ i : Nat, i ≤ k ∧ v = .int .i64 i ∧ ∃ row, CodeRow w wr row t (node i)) (fun _ v _ => k - (intOf v).toNat)
  case atStart => exact ⟨0, by omega, rfl, none, CodeRow.nil w⟩
  case round =>
    obtain ⟨i, hik, rfl, row, hrow⟩ := hrel
    have HR := Lib.hid hrow
    clear hrow
    by_cases hlt : i < k
    · have hltI : (i : Int) < (k : Int) := by omega
      obtain ⟨N, hN⟩ : ∃ N, N = (node i).length := ⟨_, rfl⟩
      have hN100 : N ≤ 100 := by rw [hN, node_len]; omega
      have hrN : RowN (wr.alloc (.cells #[.int .i64 1, .int .i64 1, .int .i64 1, .int .i64 0, .int .i64 3, .int .i64 1, .int .i64 0, .int .i64 0, .int .i64 4, .int .i64 0, .int .i64 1, .int .i64 0] 40)) 40 4 row u4 N (insV (node i)) := by rw [hN]; exact HR.out.1.alloc _
      have HRN := Lib.hid hrN
      have HN := Lib.hid hN
      clear hrN hN
      go_wp2_with (at_builtin; refine wpList_append_rowN rfl (.tmp 22) (.tmp 26) 42 rfl 40 i0 _ 4 32 Try.underlying42 hi hz0 hz1 hz2 rfl (by decide) _ rfl row N _ HRN.out ⟨wr.heap.size, 0, none⟩ 3 3 (insV [alI, soI, mvI]) rfl rfl (news_blk (t := 40) (Blk.new _ _ _)) (insV_one _) (by omega) (by unfold maxLen; omega) (by omega) ?_; intro g3 cap4 w3 hrow3 hg3 hat3 hlt3)
      refine ⟨⟨i + 1, by omega, by go_num, some g3, ?_⟩, by simp [intOf]; omega⟩
      rw [node_succ]
      exact HR.out.grow (by rw [HN.out]; simp) hrow3 hg3 hat3
    · obtain rfl : k = i := by omega
      clear hlt
      obtain ⟨N, hN⟩ : ∃ N, N = (node k).length := ⟨_, rfl⟩
      have hN100 : N ≤ 100 := by rw [hN, node_len]; omega
      have hrN : RowN (wr.alloc (.cells #[.int .i64 5, .int .i64 1, .int .i64 0, .int .i64 0, .int .i64 5, .int .i64 0, .int .i64 0, .int .i64 0] 40)) 40 4 row u4 N (insV (node k)) := by rw [hN]; exact HR.out.1.alloc _
      have HRN := Lib.hid hrN
      have HN := Lib.hid hN
      clear hrN hN
      go_wp2_with (at_builtin; refine wpList_append_rowN rfl (.tmp 28) (.tmp 31) 42 rfl 40 i0 _ 4 32 Try.underlying42 hi hz0 hz1 hz2 rfl (by decide) _ rfl row N _ HRN.out ⟨wr.heap.size, 0, none⟩ 2 2 (insV [n1I, n0I]) rfl rfl (news_blk (t := 40) (Blk.new _ _ _)) (insV_one _) (by omega) (by unfold maxLen; omega) (by omega) ?_; intro g3 cap4 w3 hrow3 hg3 hat3 hlt3)
      have hcr := HR.out.grow (l2 := [n1I, n0I]) (by rw [HN.out]; simp) hrow3 hg3 hat3
      have HC := Lib.hid hcr
      clear hcr hrow3 hg3 hat3 HR HRN
      have hun : Upd (fun _ => False) w3 (w3.alloc (.cells #[.slice (some ⟨g3, 0, none⟩) (N + 2) cap4] 42)) := (Upd.refl _ _).al _
      refine (law_build (w0 := w) (HC.out.2.2.tr hun) (prog_v1 (HC.out.code.upd hun) (Blk.new' _ _ _ (by first | rfl | simp))) HP.out).mono ?_
      rintro e w4 ⟨m, rfl, hm, _⟩
      have HM := Lib.hid hm
      clear hm HC hun
      go_wp2_with fail
      go_loopw [7] (fun v wr => ∃ i : Nat, i ≤ 3 * k + 1 ∧ v = .int .i64 i ∧ LawM w (fun _ => False) wr m (st k i) (2 * i)) (fun v _ => 3 * k + 1 - (intOf v).toNat)
      case atStart => exact ⟨0, by omega, rfl, HM.out⟩
      case round =>
        clear HM
        obtain ⟨i, hik, rfl, hm⟩ := hrel
        have HM := Lib.hid hm
        clear hm
        by_cases hlt : i < 3 * k + 1
        · have hltI : (i : Int) < 3 * (k : Int) + 1 := by omega
          have F := Lib.hid (FA.out.s i hlt)
          go_wp2_with fail
          refine (HM.out.doesV (by omega) (g := 0) F.out.1 rfl F.out.2).mono ?_
          rintro e w5 ⟨a1, a2, a3, a4, rfl, hm, _⟩
          obtain ⟨bv, hbv⟩ : ∃ b, b = (stepM (st k i) 0).2.1.v := ⟨_, rfl⟩
          rw [← hbv]
          have HM5 := Lib.hid (show LawM w (fun _ => False) _ m (st k (i + 1)) _ from hm.up (Upd.allocF (.cells #[.int .i64 a1, .int .i64 a2, .int .i64 a3, .int .i64 a4, .int .i64 bv, .bool false] 34)))
          clear hm hbv
          go_wp2_with fail
          go_roundw
          case rel => exact ⟨i + 1, by omega, by go_num, HM5.out⟩
          case measure => simp [intOf]; omega
        · obtain rfl : i = 3 * k + 1 := by omega
          have hltI : ¬ (((3 * k + 1 : Nat) : Int)) < 3 * (k : Int) + 1 := by omega
          have hltI2 : 3 * (k : Int) + 1 ≤ (((3 * k + 1 : Nat) : Int)) := by omega
          have F1 := Lib.hid (FA.out.r1 _ HM.out.mod.good)
          clear hlt
          go_wp2_with fail
          refine (HM.out.reach_ (by omega)).mono ?_
          rintro e w5 ⟨A5, cap5, rfl, _, hu5⟩
          rw [F1.out]
          have HM5 := Lib.hid (HM.out.up hu5)
          clear hu5 HM
          go_wp2_with fail
          refine (HM5.out.do_ (by omega) 0).mono ?_
          rintro e w6 ⟨rfl, hm, _⟩
          have HM6 := Lib.hid (show LawM w (fun _ => False) w6 m (st k (3 * k + 2)) _ from hm)
          have F2 := Lib.hid (FA.out.r2 _ HM6.out.mod.good)
          clear hm
          go_wp2_with fail
          refine (HM6.out.reach_ (by omega)).mono ?_
          rintro e w7 ⟨A7, cap7, rfl, _, hu7⟩
          rw [F2.out, List.length_nil]
          have HM7 := Lib.hid (HM6.out.up hu7)
          clear hu7 HM6
          go_wp2_with fail
          refine (HM7.out.ids_ FA.out.ids).mono ?_
          rintro e w8 ⟨rfl, rfl⟩
          go_wp2_with fail
          go_loopw [11] (fun v wr => ∃ i : Nat, i ≤ k ∧ v = .int .i64 ((i : Int) + 1) ∧ LawM w (fun _ => False) wr m (st k (3 * k + 2)) (2 * (3 * k + 1) + 2)) (fun v _ => k + 1 - (intOf v).toNat)
          case atStart => exact ⟨0, by omega, rfl, HM7.out⟩
          case round =>
            clear HM7
            obtain ⟨i, hik, rfl, hm⟩ := hrel
            have HM7 := Lib.hid hm
            clear hm
            by_cases hlt2 : i < k
            · have hltI3 : (i : Int) + 1 ≤ (k : Int) := by omega
              have Hs := Lib.hid (HM7.out.slots_ (FA.out.sl i hlt2))
              go_wp2_with fail
              refine Hs.out.mono ?_
              rintro e w8 ⟨A8, cap8, rfl, hr8, hu8⟩
              have HR8 := Lib.hid hr8
              have HM8 := Lib.hid (HM7.out.up hu8)
              clear hr8 hu8
              rw [show ([(i : Int), 0] : List Int).length = 2 from rfl]
              go_wp2_with fail
              refine (ints_c (HR8.out.upd ((Upd.refl (fun _ => False) w8).alloc (.cells #[.int .i64 (i : Int), .int .i64 0] 3)) (fun _ e => e.elim)) (rd_two (Blk.new' _ _ _ rfl) rfl rfl)).mono ?_
              rintro e w9 ⟨rfl, nd, rfl⟩
              have HM9 := Lib.hid (HM8.out.up (((Upd.refl (fun _ => False) w8).al (.cells #[.int .i64 (i : Int), .int .i64 0] 3)).drewN nd))
              go_wp2_with fail
              go_roundw
              case rel => exact ⟨i + 1, by omega, by go_num, HM9.out⟩
              case measure => simp [intOf]; omega
            · obtain rfl : k = i := by omega
              have hltI3 : ¬ (k : Int) + 1 ≤ (k : Int) := by omega
              clear hlt2
              go_wp2_with fail
              refine HM7.out.told_.mono ?_
              rintro e w9 ⟨rfl, hm, _⟩
              have HM9 := Lib.hid hm
              clear hm
              go_wp2_with fail
              go_ret
              exact ⟨rfl, HM9.out.u.below'⟩

set_option maxRecDepth 100000 in
theorem lifted (os : Os) (started : os.Started) (H : Type) (enc : TypeId × Value → H) :
    ReturnsInHanded {} Try.checked os 6 .any (Rows.modelListsSpec.pre6 enc Try.prog Try.f6 Rows.modelListsRow.domain false) (Rows.modelListsSpec.post enc Try.prog Try.f6 false true false false) := by
  refine returnsInHanded_of_change (C := Try.checked) Try.ownK started (by kernel_rfl) Try.func6
    (ChangeSpec.witness6 (enc := enc) (C := Try.checked) false ⟨#[], #[.int .i64 0], []⟩ 8 (by kernel_rfl) (by kernel_rfl) (by kernel_rfl) (by kernel_rfl)) ?_
  intro W base args ds gs before hval0 hW hcnd _
  have hval : ∀ (j : Nat) t v, Try.f6.params[j]? = some t → args[j]? = some v → Value.okWide Try.prog W .any base t v := hval0
  have hW' := hW
  obtain ⟨p, q, hA0, hV, rfl, hfz, hnd⟩ := hW
  have hA : DataW.TrodAll enc Try.prog W 0 (fun _ => true) true Try.f6.params.toList args.toList ds p := hA0
  rw [Try.params6] at hA hval
  obtain ⟨v0, vs0, d0, ds0, p0, q0, hargs, rfl, rfl, h0, r0⟩ := trodAll_cons hA
  obtain ⟨rfl, rfl, rfl⟩ := trodAll_nil r0
  obtain rfl : args = #[v0] := by cases args; simp_all
  obtain ⟨rfl, rfl⟩ := trodVars_none hV
  obtain ⟨a0, rfl, rfl, rfl, _⟩ := open_int Try.underlying3 (hval 0 3 v0 rfl rfl) h0
  clear hA0 hval0
  refine (walk a0 W).mono fun e W' ⟨he, hb⟩ => ?_
  subst he
  exact ⟨_, rfl, law_post Try.laidB rfl rfl rfl Try.underlying4 (by kernel_rfl) hW' hb⟩

theorem proved : Rows.ModelListsSaid :=
  OpenClaim.holds_of_wide 6 Try.f6 rfl rfl rfl rfl rfl rfl rfl ⟨rfl, rfl, rfl, rfl, rfl⟩ rfl rfl rfl rfl rfl (by kernel_rfl) Try.func6 (by kernel_rfl)
    (of_decide_eq_true (by kernel_rfl)) (by unfold Func.isWrapper; first | (rw [if_pos (by decide +kernel)]; kernel_rfl) | (rw [if_neg (by decide +kernel)]; exact ⟨rfl, rfl⟩))
    (fun os started H enc _ => lifted os started H enc)
#print axioms proved
end Go.Proofs.Ytndldoamadmphaa.modelLists
