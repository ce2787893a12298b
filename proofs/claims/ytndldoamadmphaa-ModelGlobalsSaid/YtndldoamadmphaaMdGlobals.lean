/- 'Rows.ModelGlobalsSaid': treadmilllaw16.ModelGlobals returns true for any list and number. No condition. -/
import Derived.Test.YtndldoamadmphaaGl
import Derived.Deep.CutBlock
import Derived.Deep.DeepCutAuto
namespace Go.Proofs.Ytndldoamadmphaa
open Go.RowKit
/-- A prefix of one's own list. -/
theorem CodeRow.cut {w0 wr : World} {g cap n : Nat} {l l2 : List In} (h : CodeRow w0 wr (some g) (.slice (some ⟨g, 0, none⟩) n cap) (l ++ l2)) : CodeRow w0 wr (some g) (.slice (some ⟨g, 0, none⟩) l.length cap) l ∧ l.length ≤ cap := by
  obtain ⟨h1, h2, h3⟩ := h
  rcases h1.1.2 with ⟨hv, _⟩ | ⟨g', cap', cur, hv, hg', hh, hc, hm, hs, ht⟩
  · cases hv
  · injection hv with hA hn hcp
    injection hA with hA
    injection hA with hA
    subst hA
    subst hcp
    have hle : l.length ≤ cap := by rw [List.length_append] at hc; omega
    refine ⟨⟨⟨⟨insV_len l, .inr ⟨g, cap, cur, rfl, hg', hh, hle, hm, hs, ?_⟩⟩, rfl⟩, h2, h3⟩, hle⟩
    have e := congrArg (List.take (l.length * 4)) ht
    rw [List.take_take, insV_app] at e
    rw [Nat.min_eq_left (by rw [List.length_append]; omega)] at e
    rw [e, List.take_left' (insV_len l)]
theorem prog_v1 {w : World} {c : Nat} {v1 : Value} {l1 : List In} (h1 : CodeIn w v1 l1) (h3 : Blk w c 42 #[v1]) : ProgIn w (.slice (some ⟨c, 0, none⟩) 1 1) [l1] :=
  ProgIn.of_blk (vs := [v1]) (P := [l1]) h3 rfl (by show (1 : Nat) ≤ maxLen; unfold maxLen; omega) (fun k v l hv hl => by
    rcases k with _ | k
    · injection hv with hv
      injection hl with hl
      subst hv
      subst hl
      exact h1
    · simp at hl)
theorem LawM.globals_ {W : Nat → Prop} {w0 w : World} {m n : Nat} {M : Mo} (h : LawM w0 W w m M n) {l : List Int} (hl : M.gl = l) : Calls Try.prog 22 #[.pointer (some ⟨m, 0, none⟩)] w fun e w' => ∃ A cap, e = .returned (.slice A l.length cap) ∧ RdF w' A l.length 1 (fun i _ => l.getD i 0) ∧ Upd (fun _ => False) w w' := by
  subst hl
  refine (globals_i h.mod).mono ?_
  rintro e w' ⟨v, rfl, hv, hu⟩
  obtain ⟨A, cap, rfl, hr⟩ := hv.out
  exact ⟨A, cap, rfl, hr, hu⟩
theorem RowN.cap_ {w : World} {e : TypeId} {size g n cap : Nat} {xs : List Value} (h : RowN w e size (some g) (.slice (some ⟨g, 0, none⟩) n cap) n xs) : n ≤ cap := by
  rcases h.1.2 with ⟨hv, _⟩ | ⟨g', cap', cur, hv, hg', hh, hc, _⟩
  · cases hv
  · injection hv with _ _ hcp
    omega
end Go.Proofs.Ytndldoamadmphaa
namespace Go.Proofs.Ytndldoamadmphaa.modelGlobals
open Go.ChangeShapes Go.WideShapes Go.ChangeAt Go.RowKit
theorem told_all {A : Option Addr} {n cap : Nat} {gs : Int} {w : World} (hn : 55 < n) (hm : n ≤ 9223372036854775807) : Calls Try.prog 5 #[.slice A n cap, .int .i64 gs] w fun e w' => e = .returned (.bool true) ∧ Below w.heap.size w w' := by
  have hnI : (55 : Int) < (n : Int) := by omega
  go_enter Try.func5, Try.ntmps5
  go_wp2_with fail
  refine (told_c _).mono ?_
  rintro e w1 ⟨rfl, hu⟩
  go_wp2_with fail
  go_ret
  exact ⟨rfl, hu.below'⟩
def Made (w : World) (g : Nat → Nat) (t : Value) (wx : World) : Prop := ∃ j row, j ≤ 30 ∧ CodeRow w wx row t (pairs g j)
set_option maxRecDepth 100000 in
set_option maxHeartbeats 8000000 in
theorem walk (A : Option Addr) (n cap : Nat) (f : Nat → Int) (gs : Int) (w : World) (hr : RdF w A n 1 (fun i _ => f i)) :
    Calls Try.prog 5 #[.slice A n cap, .int .i64 gs] w fun e w' => e = .returned (.bool true) ∧ Below w.heap.size w w' := by
  have hm := hr.1
  unfold maxLen at hm
  by_cases h55 : 55 < n
  · exact told_all h55 (by omega)
  obtain ⟨i0, hi, hz0, hz1, hz2⟩ := info_parts Try.inst_info
  obtain ⟨k, hk⟩ : ∃ k : Nat, k = 1 + umod gs 8 := ⟨_, rfl⟩
  have hu := umod_w64 gs 8 8 rfl (by omega) (by omega)
  have hul := umod_lt gs 8 (by omega)
  have hk1 : 1 ≤ k := by omega
  have hk2 : k ≤ 8 := by omega
  have hwk : wrap64 (1 + (umod gs 8 : Int)) = k := by unfold wrap64; omega
  have hku : IntKind.u64.wrap (k : Int) = k := by rw [IntKind.wrap_u64]; omega
  obtain ⟨g, hg⟩ : ∃ g : Nat → Nat, g = fun i => umod (f i) k := ⟨_, rfl⟩
  have hgk : ∀ i, g i < k := fun i => by rw [hg]; exact umod_lt _ _ (by omega)
  have hgw : ∀ i, wrap64 ((IntKind.u64.wrap (f i)).tmod (k : Int)) = (g i : Int) := fun i => by rw [hg]; exact umod_w64 (f i) k k rfl (by omega) (by omega)
  have HGK := Lib.hid hgk
  have HGW := Lib.hid hgw
  have HR := Lib.hid hr
  have HWK := Lib.hid hwk
  have hkI : (k : Int) ≤ 8 := by omega
  have hk1I : (1 : Int) ≤ (k : Int) := by omega
  have hnI : (n : Int) ≤ 55 := by omega
  have d55 : decide ((55 : Int) < (n : Int)) = false := by simp; omega
  clear hk hwk hul hg hgk hgw hr hm h55
  go_enter Try.func5, Try.ntmps5
  go_upto_block 0 with (fail)
  rw [hu, HWK.out]
  clear hu HWK
  go_cut [6] (fun t wx => Made w g t wx)
  case first =>
    go_wp2_with fail
    go_loopw [6, 7] (fun t v wr => ∃ i : Nat, i ≤ n ∧ i ≤ 30 ∧ v = .int .i64 i ∧ ∃ row, CodeRow w wr row t (pairs g i)) (fun _ v _ => n - (intOf v).toNat)
    case atStart => exact ⟨0, by omega, by omega, rfl, none, CodeRow.nil w⟩
    case round =>
      obtain ⟨i, hin, hi30, rfl, row, hrow⟩ := hrel
      have HC := Lib.hid hrow
      clear hrow
      by_cases hlt : i < n
      · have hltI : (i : Int) < (n : Int) := by omega
        obtain ⟨b, off, rfl, _, hcells⟩ := (HR.out.upd HC.out.2.2 (fun _ e => e.elim)).2 (by omega)
        have hcell : wr.cell? ⟨b, off + i, none⟩ = some (.int .i64 (f i)) := by
          have := hcells i hlt 0 (by omega)
          simpa using this
        clear hcells
        have hgi : wrap64 ((IntKind.u64.wrap (f i)).tmod (k : Int)) = (g i : Int) := HGW.out i
        obtain ⟨N, hN⟩ : ∃ N, N = (pairs g i).length := ⟨_, rfl⟩
        have hN2 : N = 2 * i := by rw [hN, pairs_len]
        have HN2 := Lib.hid hN2
        have hN100 : N ≤ 100 := by omega
        have hNI : (N : Int) ≤ 60 := by omega
        have hrN : RowN (wr.alloc (.cells #[.int .i64 1, .int .i64 1, .int .i64 0, .int .i64 0, .int .i64 7, .int .i64 (g i), .int .i64 1, .int .i64 0] 40)) 40 4 row u6 N (insV (pairs g i)) := by rw [hN]; exact HC.out.1.alloc _
        have HRN := Lib.hid hrN
        have HN := Lib.hid hN
        clear hrN hN hN2
        by_cases hi29 : i < 30
        · have hN58 : (N : Int) ≤ 58 := by have := HN2.out; omega
          go_wp2_with (at_builtin; refine wpList_append_rowN rfl (.tmp 43) (.tmp 47) 42 rfl 40 i0 _ 4 32 Try.underlying42 hi hz0 hz1 hz2 rfl (by decide) _ rfl row N _ HRN.out ⟨wr.heap.size, 0, none⟩ 2 2 (insV [alI, puI (g i)]) rfl rfl (news_blk (t := 40) (Blk.new _ _ _)) (insV_one _) (by omega) (by unfold maxLen; omega) (by omega) ?_; intro g3 cap4 w3 hrow3 hg3 hat3 hlt3)
          refine ⟨⟨i + 1, by omega, by omega, by go_num, some g3, ?_⟩, by simp [intOf]; omega⟩
          rw [pairs_succ]
          exact HC.out.grow (by rw [HN.out]; simp) hrow3 hg3 hat3
        · obtain rfl : i = 30 := by omega
          obtain rfl : N = 60 := by have := HN2.out; omega
          go_wp2_with (at_builtin; refine wpList_append_rowN rfl (.tmp 43) (.tmp 47) 42 rfl 40 i0 _ 4 32 Try.underlying42 hi hz0 hz1 hz2 rfl (by decide) _ rfl row 60 _ HRN.out ⟨wr.heap.size, 0, none⟩ 2 2 (insV [alI, puI (g 30)]) rfl rfl (news_blk (t := 40) (Blk.new _ _ _)) (insV_one _) (by omega) (by unfold maxLen; omega) (by omega) ?_; intro g3 cap4 w3 hrow3 hg3 hat3 hlt3; have hcp := hrow3.cap_; have hcpI : (62 : Int) ≤ (cap4 : Int) := by omega)
          have hcr := HC.out.grow (l2 := [alI, puI (g 30)]) (by rw [HN.out]; simp) hrow3 hg3 hat3
          have hcut2 := hcr.cut.1
          rw [pairs_len] at hcut2
          go_meet
          case rel => exact ⟨30, some g3, Nat.le_refl _, hcut2⟩
      · obtain rfl : n = i := by omega
        have hnn : ¬ (n : Int) < (n : Int) := by omega
        clear hlt
        go_wp2_with fail
        go_meet
        case rel => exact ⟨n, row, hi30, HC.out⟩
  case rest =>
    obtain ⟨j, row, hj, hrow⟩ := hcut
    have HC := Lib.hid hrow
    clear hrow
    obtain ⟨N, hN⟩ : ∃ N, N = (pairs g j).length := ⟨_, rfl⟩
    have hN2 : N = 2 * j := by rw [hN, pairs_len]
    have hN100 : N ≤ 100 := by omega
    have hrN : RowN (wc.alloc (.cells #[.int .i64 0, .int .i64 0, .int .i64 0, .int .i64 0] 40)) 40 4 row u6 N (insV (pairs g j)) := by rw [hN]; exact HC.out.1.alloc _
    have HRN := Lib.hid hrN
    have HN := Lib.hid hN
    have HN2 := Lib.hid hN2
    have hmk := fun w => run_make_row' (P := Try.prog) 44 3 (.int .i64 0) 8 Try.underlying44 (by kernel_rfl) rfl .i64 .i64 k (by omega) (by omega) w
    clear hrN hN hN2
    go_wp2_with (at_builtin; refine wpList_append_rowN rfl (.tmp 54) (.tmp 56) 42 rfl 40 i0 _ 4 32 Try.underlying42 hi hz0 hz1 hz2 rfl (by decide) _ rfl row N _ HRN.out ⟨wc.heap.size, 0, none⟩ 1 1 (insV [exI]) rfl rfl (news_blk (t := 40) (Blk.new _ _ _)) (insV_one _) (by omega) (by unfold maxLen; omega) (by omega) ?_; intro g3 cap4 w3 hrow3 hg3 hat3 hlt3)
    have hcr := HC.out.grow (l2 := [exI]) (by rw [HN.out]; simp) hrow3 hg3 hat3
    have HC3 := Lib.hid hcr
    clear hcr hrow3 hg3 hat3 HC HRN
    have hun : Upd (fun _ => False) w3 (w3.alloc (.cells #[.slice (some ⟨g3, 0, none⟩) (N + 1) cap4] 42)) := (Upd.refl _ _).al _
    obtain ⟨w4, hw4⟩ : ∃ w4, w4 = w3.alloc (.cells #[.slice (some ⟨g3, 0, none⟩) (N + 1) cap4] 42) := ⟨_, rfl⟩
    have hpr : ProgIn w4 (.slice (some ⟨w3.heap.size, 0, none⟩) 1 1) (px g j) := by rw [hw4]; exact prog_v1 (HC3.out.code.upd hun) (Blk.new _ _ _)
    have HPR := Lib.hid hpr
    have hcode : CodeIn w4 (.slice (some ⟨g3, 0, none⟩) (N + 1) cap4) (code g j) := by rw [hw4]; exact HC3.out.code.upd hun
    have HCO := Lib.hid hcode
    have HU4 := Lib.hid (show Upd (fun _ => False) w w4 by rw [hw4]; exact HC3.out.2.2.tr hun)
    rw [← hw4]
    clear hw4 hpr hcode hun HC3
    refine (law_build (w0 := w4) (Upd.refl _ _) HPR.out (px_ok (by omega) HGK.out hj)).mono ?_
    rintro e w5 ⟨m, rfl, hm, _⟩
    rw [start] at hm
    have HM5 := Lib.hid hm
    clear hm
    go_wp2_with fail
    obtain ⟨w6, hw6⟩ : ∃ w6, w6 = w5.alloc (.cells (madeCells #[.int .i64 0] k) 3) := ⟨_, rfl⟩
    have hwb : Blk w6 w5.heap.size 3 (ints (glT k g 0)).toArray := by
      have e : (ints (glT k g 0)).toArray = madeCells #[.int .i64 0] k := by
        apply Array.ext'
        rw [made_zeros]
        rfl
      rw [e, hw6]
      exact Blk.new _ _ _
    have hm6 : LawM w4 (fun b => b = w5.heap.size) w6 m (sM k g j 0) 0 := by
      have := HM5.out.own (w' := w6) (by rw [hw6]; exact Upd.allocF _)
      exact this.mono (fun b hb => .inr (by rw [hb, hw6]; simp))
    have HM6 := Lib.hid hm6
    have HB6 := Lib.hid hwb
    rw [← hw6]
    obtain ⟨wb, hwbe⟩ : ∃ wb, wb = w5.heap.size := ⟨_, rfl⟩
    rw [← hwbe] at HM6 HB6 ⊢
    clear hw6 hwb hm6 HM5 hwbe hmk
    have hN2I : (N : Int) = 2 * (j : Int) := by have := HN2.out; omega
    have HNI := Lib.hid hN2I
    have hcells : ∀ t, t < j → w4.cell? ⟨g3, (2 * t + 1) * 4 + 1, none⟩ = some (.int .i64 (g t)) ∧ g3 < w4.heap.size := by
      intro t htj
      have hget : (code g j)[2 * t + 1]? = some (puI (g t)) := by
        unfold code
        rw [List.getElem?_append_left (by rw [pairs_len]; omega)]
        exact (pairs_at g htj).2
      obtain ⟨A5, cap5, e5, _, hcell5⟩ := HCO.out
      obtain ⟨b5, off5, eA5, hb5l, _, hcs⟩ := hcell5 (by unfold code; simp)
      injection e5 with e5 _ _
      rw [eA5] at e5
      injection e5 with e5
      injection e5 with e51 e52
      subst e51
      subst e52
      have := (hcs _ _ hget).2.1
      rw [Nat.zero_add] at this
      exact ⟨this, hb5l⟩
    have HCE := Lib.hid hcells
    clear hN2I hcells
    go_loopw [11, 12] (fun l v wr => ∃ i : Nat, i ≤ 2 * j + 1 ∧ v = .int .i64 i ∧ l = .int .i64 (min ((i + 1) / 2) j : Nat) ∧ LawM w4 (fun b => b = wb) wr m (if i ≤ 2 * j then sM k g j i else eM k g j) (2 * i) ∧ Blk wr wb 3 (ints (glT k g (i / 2))).toArray) (fun _ v _ => 2 * j + 1 - (intOf v).toNat)
    case atStart => exact ⟨0, by omega, rfl, by simp, by rw [if_pos (by omega)]; exact HM6.out, HB6.out⟩
    case round =>
      clear HM6 HB6
      obtain ⟨i, hij, rfl, rfl, hm, hwb⟩ := hrel
      have HB := Lib.hid hwb
      by_cases hlt : i < 2 * j + 1
      · rw [if_pos (by omega)] at hm
        have HM := Lib.hid hm
        clear hm hwb
        have hltI : (i : Int) < (N : Int) + 1 := by have := HNI.out; omega
        obtain ⟨G, hG⟩ : ∃ G, G = glT k g ((i + 1) / 2) := ⟨_, rfl⟩
        have hGl : (if i + 1 ≤ 2 * j then sM k g j (i + 1) else eM k g j).gl = G := by
          split
          · rw [hG]; rfl
          · rw [hG, show (i + 1) / 2 = j by omega]; rfl
        have hGk : G.length = k := by rw [hG, glT_len]
        have HGL := Lib.hid hGl
        have HGK2 := Lib.hid hGk
        have HG := Lib.hid hG
        clear hGl hGk hG
        obtain ⟨t, ht⟩ : ∃ t, t = i / 2 := ⟨_, rfl⟩
        by_cases he : i = 2 * j
        · subst he
          have hll : min ((2 * j + 1) / 2) j = j := by omega
          rw [hll]
          clear hll ht t
          go_wp2_with fail
          refine (HM.out.does (by omega) (g := 0) (sM_end k g j)).mono ?_
          rintro e w7 ⟨rfl, hm, hu7⟩
          have hb7 := HM.out.blk HB.out rfl hu7
          have HB8 := Lib.hid (show Blk _ wb 3 (ints G).toArray by
            rw [HG.out, show (2 * j + 1) / 2 = 2 * j / 2 by omega]
            exact hb7.updF (Upd.allocF (.cells #[.int .i64 0, .int .i64 0, .int .i64 (2 * (j : Int)), .int .i64 0, .int .i64 0, .bool false] 34)))
          have HM8 := Lib.hid (show LawM w4 (fun b => b = wb) _ m (if 2 * j + 1 ≤ 2 * j then sM k g j (2 * j + 1) else eM k g j) _ by
            rw [if_neg (by omega)]
            exact hm.up (Upd.allocF (.cells #[.int .i64 0, .int .i64 0, .int .i64 (2 * (j : Int)), .int .i64 0, .int .i64 0, .bool false] 34)))
          have hmn : (min ((2 * j + 1 + 1) / 2) j : Nat) = j := by omega
          have HMN := Lib.hid hmn
          clear hm hu7 hb7 hmn
          go_wp2_with fail
          refine (HM8.out.globals_ HGL.out).mono ?_
          rintro e w9 ⟨A9, cap9, rfl, hr9, hu9⟩
          rw [HGK2.out] at hr9 ⊢
          obtain ⟨b9, off9, rfl, hb9l, hc9⟩ := hr9.2 (by omega)
          have HC9 := Lib.hid hc9
          have HM9 := Lib.hid (HM8.out.up hu9)
          have HB9 := Lib.hid (HB8.out.updF hu9)
          have HRES := Lib.hid (show ∀ nd, LawM w4 (fun b => b = wb) (w9.drewN nd) m (if 2 * j + 1 ≤ 2 * j then sM k g j (2 * j + 1) else eM k g j) (2 * (2 * j + 1)) ∧ Blk (w9.drewN nd) wb 3 (ints (glT k g ((2 * j + 1) / 2))).toArray from
            fun nd => ⟨HM9.out.up ((Upd.refl _ _).drewN nd), by rw [← HG.out]; exact HB9.out.drewN nd⟩)
          have hlb := HB9.out.lt
          clear hr9 hu9 hc9 HM8 HB8
          go_wp2_with fail
          go_loopw [16] (fun v wq => ∃ q : Nat, q ≤ k ∧ v = .int .i64 q ∧ ∃ nd, wq = w9.drewN nd) (fun v _ => k - (intOf v).toNat)
          case atStart => exact ⟨0, by omega, rfl, 0, rfl⟩
          case round =>
            obtain ⟨q, hq, rfl, nd, rfl⟩ := hrel
            by_cases hqk : q < k
            · have hqI : (q : Int) < (k : Int) := by omega
              have hq0 : (0 : Int) ≤ (q : Int) := by omega
              have c1 : w9.cell? ⟨b9, off9 + q, none⟩ = some (.int .i64 (G.getD q 0)) := by
                have := HC9.out q hqk 0 (by omega)
                rw [Nat.mul_one, Nat.add_zero] at this
                exact this
              have c2 : w9.cell? ⟨wb, q, none⟩ = some (.int .i64 (G.getD q 0)) := by
                have := HB9.out.cell q
                rw [List.getElem?_toArray, ints_get (by rw [HGK2.out]; exact hqk)] at this
                exact this
              generalize G.getD q 0 = y at c1 c2
              go_wp2_with fail
              refine wp_still (by kernel_rfl) (by kernel_rfl) ?_
              repeat still_step
              refine wpStill_nil ?_
              go_wp2_with fail
              go_roundw
              case rel => exact ⟨q + 1, by omega, by go_num, nd + 1, rfl⟩
              case measure => simp [intOf]; omega
            · obtain rfl : k = q := by omega
              have hqI : ¬ (k : Int) < (k : Int) := by omega
              clear hqk
              go_wp2_with fail
              go_roundw
              case rel => exact ⟨2 * j + 1, by omega, by go_num, congrArg (Value.int .i64) (by have := HMN.out; omega), (HRES.out nd).1, (HRES.out nd).2⟩
              case measure => simp [intOf]; omega
        by_cases hpar : i = 2 * t
        · have htj : t < j := by omega
          subst hpar
          have hll : min ((2 * t + 1) / 2) j = t := by omega
          rw [hll]
          clear hll ht he
          go_wp2_with fail
          refine (HM.out.does (by omega) (g := 0) (sM_even htj)).mono ?_
          rintro e w7 ⟨rfl, hm, hu7⟩
          have hb7 := HM.out.blk HB.out rfl hu7
          have HB8 := Lib.hid (show Blk _ wb 3 (ints G).toArray by
            rw [HG.out, show (2 * t + 1) / 2 = 2 * t / 2 by omega]
            exact hb7.updF (Upd.allocF (.cells #[.int .i64 0, .int .i64 0, .int .i64 (2 * (t : Int)), .int .i64 1, .int .i64 ((t : Int) + 1), .bool false] 34)))
          have HM8 := Lib.hid (show LawM w4 (fun b => b = wb) _ m (if 2 * t + 1 ≤ 2 * j then sM k g j (2 * t + 1) else eM k g j) _ by
            rw [if_pos (by omega)]
            exact hm.up (Upd.allocF (.cells #[.int .i64 0, .int .i64 0, .int .i64 (2 * (t : Int)), .int .i64 1, .int .i64 ((t : Int) + 1), .bool false] 34)))
          have hmn : (min ((2 * t + 1 + 1) / 2) j : Nat) = t + 1 := by omega
          have HMN := Lib.hid hmn
          clear hm hu7 hb7 hmn
          go_wp2_with fail
          refine (HM8.out.globals_ HGL.out).mono ?_
          rintro e w9 ⟨A9, cap9, rfl, hr9, hu9⟩
          rw [HGK2.out] at hr9 ⊢
          obtain ⟨b9, off9, rfl, hb9l, hc9⟩ := hr9.2 (by omega)
          have HC9 := Lib.hid hc9
          have HM9 := Lib.hid (HM8.out.up hu9)
          have HB9 := Lib.hid (HB8.out.updF hu9)
          have HRES := Lib.hid (show ∀ nd, LawM w4 (fun b => b = wb) (w9.drewN nd) m (if 2 * t + 1 ≤ 2 * j then sM k g j (2 * t + 1) else eM k g j) (2 * (2 * t + 1)) ∧ Blk (w9.drewN nd) wb 3 (ints (glT k g ((2 * t + 1) / 2))).toArray from
            fun nd => ⟨HM9.out.up ((Upd.refl _ _).drewN nd), by rw [← HG.out]; exact HB9.out.drewN nd⟩)
          have hlb := HB9.out.lt
          clear hr9 hu9 hc9 HM8 HB8
          go_wp2_with fail
          go_loopw [16] (fun v wq => ∃ q : Nat, q ≤ k ∧ v = .int .i64 q ∧ ∃ nd, wq = w9.drewN nd) (fun v _ => k - (intOf v).toNat)
          case atStart => exact ⟨0, by omega, rfl, 0, rfl⟩
          case round =>
            obtain ⟨q, hq, rfl, nd, rfl⟩ := hrel
            by_cases hqk : q < k
            · have hqI : (q : Int) < (k : Int) := by omega
              have hq0 : (0 : Int) ≤ (q : Int) := by omega
              have c1 : w9.cell? ⟨b9, off9 + q, none⟩ = some (.int .i64 (G.getD q 0)) := by
                have := HC9.out q hqk 0 (by omega)
                rw [Nat.mul_one, Nat.add_zero] at this
                exact this
              have c2 : w9.cell? ⟨wb, q, none⟩ = some (.int .i64 (G.getD q 0)) := by
                have := HB9.out.cell q
                rw [List.getElem?_toArray, ints_get (by rw [HGK2.out]; exact hqk)] at this
                exact this
              generalize G.getD q 0 = y at c1 c2
              go_wp2_with fail
              refine wp_still (by kernel_rfl) (by kernel_rfl) ?_
              repeat still_step
              refine wpStill_nil ?_
              go_wp2_with fail
              go_roundw
              case rel => exact ⟨q + 1, by omega, by go_num, nd + 1, rfl⟩
              case measure => simp [intOf]; omega
            · obtain rfl : k = q := by omega
              have hqI : ¬ (k : Int) < (k : Int) := by omega
              clear hqk
              go_wp2_with fail
              go_roundw
              case rel => exact ⟨2 * t + 1, by omega, by go_num, congrArg (Value.int .i64) (by have := HMN.out; omega), (HRES.out nd).1, (HRES.out nd).2⟩
              case measure => simp [intOf]; omega
        · have hpar2 : i = 2 * t + 1 := by omega
          have htj : t < j := by omega
          subst hpar2
          have hll : min ((2 * t + 1 + 1) / 2) j = t + 1 := by omega
          rw [hll]
          clear hll ht he hpar
          have hgt := HGK.out t
          have hgtI : (g t : Int) < (k : Int) := by omega
          have hlen5 : (glT k g ((2 * t + 1) / 2)).length = k := glT_len _ _ _
          go_wp2_with fail
          refine (HM.out.does (by omega) (g := 0) (sM_odd htj)).mono ?_
          rintro e w7 ⟨rfl, hm, hu7⟩
          have hb7 := HM.out.blk HB.out rfl hu7
          have hb8 := hb7.updF (Upd.allocF (.cells #[.int .i64 0, .int .i64 0, .int .i64 (2 * (t : Int) + 1), .int .i64 7, .int .i64 0, .bool false] 34))
          have hm8 := hm.up (Upd.allocF (.cells #[.int .i64 0, .int .i64 0, .int .i64 (2 * (t : Int) + 1), .int .i64 7, .int .i64 0, .bool false] 34))
          have hcA : (w7.alloc (.cells #[.int .i64 0, .int .i64 0, .int .i64 (2 * (t : Int) + 1), .int .i64 7, .int .i64 0, .bool false] 34)).cell? ⟨g3, (2 * t + 1) * 4 + 1, none⟩ = some (.int .i64 (g t)) := by
            rw [hm8.u.cell (HCE.out t htj).2 (fun e => e)]
            exact (HCE.out t htj).1
          have hg3l : g3 < (w7.alloc (.cells #[.int .i64 0, .int .i64 0, .int .i64 (2 * (t : Int) + 1), .int .i64 7, .int .i64 0, .bool false] 34)).heap.size := Nat.lt_of_lt_of_le (HCE.out t htj).2 hm8.u.size
          have hcW := hb8.cell (g t)
          rw [List.getElem?_toArray, ints_get (by rw [hlen5]; exact hgt)] at hcW
          have hfW := hb8.frozen (g t)
          have hlW := hb8.lt
          have HB8 := Lib.hid (show Blk ((w7.alloc (.cells #[.int .i64 0, .int .i64 0, .int .i64 (2 * (t : Int) + 1), .int .i64 7, .int .i64 0, .bool false] 34)).setCell ⟨wb, g t, none⟩ (.int .i64 ((t : Int) + 1))) wb 3 (ints G).toArray by
            have h9 := hb8.set_ (g t) (.int .i64 ((t : Int) + 1))
            rw [show (2 * t + 1) / 2 = t by omega] at h9
            rw [HG.out, show (2 * t + 1 + 1) / 2 = t + 1 by omega]
            have e9 : (ints (glT k g t)).toArray.setIfInBounds (g t) (.int .i64 ((t : Int) + 1)) = (ints (glT k g (t + 1))).toArray := by
              simp [ints, glT, List.map_set]
            rwa [e9] at h9)
          have HM8 := Lib.hid (show LawM w4 (fun b => b = wb) ((w7.alloc (.cells #[.int .i64 0, .int .i64 0, .int .i64 (2 * (t : Int) + 1), .int .i64 7, .int .i64 0, .bool false] 34)).setCell ⟨wb, g t, none⟩ (.int .i64 ((t : Int) + 1))) m (if 2 * t + 1 + 1 ≤ 2 * j then sM k g j (2 * t + 1 + 1) else eM k g j) _ by
            rw [if_pos (by omega)]
            exact hm8.write (S := fun b => b = wb) ((Upd.refl (fun b => b = wb) _).setCell (p := ⟨wb, g t, none⟩) (.inl rfl) _) (fun _ e => e))
          have hmn : (min ((2 * t + 1 + 1 + 1) / 2) j : Nat) = t + 1 := by omega
          have HMN := Lib.hid hmn
          have hNt : (2 * (t : Int) + 1) < (N : Int) + 1 := by have := HNI.out; omega
          have hn1 : g3 ≠ wb := fun e => by
            have := (HCE.out t htj).2
            have := HM.out.new wb rfl
            omega
          clear hm hu7 hb7 hmn hb8 hm8 hlen5
          go_wp2_with fail
          refine (HM8.out.globals_ HGL.out).mono ?_
          rintro e w9 ⟨A9, cap9, rfl, hr9, hu9⟩
          rw [HGK2.out] at hr9 ⊢
          obtain ⟨b9, off9, rfl, hb9l, hc9⟩ := hr9.2 (by omega)
          have HC9 := Lib.hid hc9
          have HM9 := Lib.hid (HM8.out.up hu9)
          have HB9 := Lib.hid (HB8.out.updF hu9)
          have HRES := Lib.hid (show ∀ nd, LawM w4 (fun b => b = wb) (w9.drewN nd) m (if (2 * t + 1) + 1 ≤ 2 * j then sM k g j ((2 * t + 1) + 1) else eM k g j) (2 * ((2 * t + 1) + 1)) ∧ Blk (w9.drewN nd) wb 3 (ints (glT k g (((2 * t + 1) + 1) / 2))).toArray from
            fun nd => ⟨HM9.out.up ((Upd.refl _ _).drewN nd), by rw [← HG.out]; exact HB9.out.drewN nd⟩)
          have hlb := HB9.out.lt
          clear hr9 hu9 hc9 HM8 HB8
          go_wp2_with fail
          go_loopw [16] (fun v wq => ∃ q : Nat, q ≤ k ∧ v = .int .i64 q ∧ ∃ nd, wq = w9.drewN nd) (fun v _ => k - (intOf v).toNat)
          case atStart => exact ⟨0, by omega, rfl, 0, rfl⟩
          case round =>
            obtain ⟨q, hq, rfl, nd, rfl⟩ := hrel
            by_cases hqk : q < k
            · have hqI : (q : Int) < (k : Int) := by omega
              have hq0 : (0 : Int) ≤ (q : Int) := by omega
              have c1 : w9.cell? ⟨b9, off9 + q, none⟩ = some (.int .i64 (G.getD q 0)) := by
                have := HC9.out q hqk 0 (by omega)
                rw [Nat.mul_one, Nat.add_zero] at this
                exact this
              have c2 : w9.cell? ⟨wb, q, none⟩ = some (.int .i64 (G.getD q 0)) := by
                have := HB9.out.cell q
                rw [List.getElem?_toArray, ints_get (by rw [HGK2.out]; exact hqk)] at this
                exact this
              generalize G.getD q 0 = y at c1 c2
              go_wp2_with fail
              refine wp_still (by kernel_rfl) (by kernel_rfl) ?_
              repeat still_step
              refine wpStill_nil ?_
              go_wp2_with fail
              go_roundw
              case rel => exact ⟨q + 1, by omega, by go_num, nd + 1, rfl⟩
              case measure => simp [intOf]; omega
            · obtain rfl : k = q := by omega
              have hqI : ¬ (k : Int) < (k : Int) := by omega
              clear hqk
              go_wp2_with fail
              go_roundw
              case rel => exact ⟨(2 * t + 1) + 1, by omega, by go_num, congrArg (Value.int .i64) (by have := HMN.out; omega), (HRES.out nd).1, (HRES.out nd).2⟩
              case measure => simp [intOf]; omega
      · obtain rfl : i = 2 * j + 1 := by omega
        rw [if_neg (by omega)] at hm
        have HM := Lib.hid hm
        have hltI : ¬ (((2 * j + 1 : Nat) : Int)) < (N : Int) + 1 := by have := HNI.out; omega
        have hltI2 : (N : Int) + 1 ≤ (((2 * j + 1 : Nat) : Int)) := by have := HNI.out; omega
        have HL := Lib.hid (eM_len hm.mod.good)
        rw [show (2 * j + 1) / 2 = j by omega] at HB
        obtain ⟨G, hG⟩ : ∃ G, G = glT k g j := ⟨_, rfl⟩
        have hGk : G.length = k := by rw [hG, glT_len]
        rw [← hG] at HB HL
        have HGK2 := Lib.hid hGk
        clear hm hwb hlt hG hGk
        go_wp2_with fail
        go_loopw [17, 18] (fun c v wq => ∃ q : Nat, q ≤ k ∧ v = .int .i64 q ∧ c = .int .i64 ((G.take q).filter nz).length ∧ wq = wr) (fun _ v _ => k - (intOf v).toNat)
        case atStart => exact ⟨0, by omega, rfl, rfl, rfl⟩
        case round =>
          obtain ⟨q, hq, rfl, rfl, rfl⟩ := hrel
          have hlb := HB.out.lt
          by_cases hqk : q < k
          · have hqI : (q : Int) < (k : Int) := by omega
            have hq0 : (0 : Int) ≤ (q : Int) := by omega
            have hqG : q < G.length := by rw [HGK2.out]; exact hqk
            obtain ⟨y, hy⟩ : ∃ y, y = G.getD q 0 := ⟨_, rfl⟩
            have c2 : wr.cell? ⟨wb, q, none⟩ = some (.int .i64 y) := by
              have := HB.out.cell q
              rw [List.getElem?_toArray, ints_get hqG] at this
              rw [hy]
              exact this
            have hyq : G.take (q + 1) = G.take q ++ [y] := by
              rw [List.take_succ_eq_append_getElem hqG, hy]
              simp [List.getD, hqG]
            have HYQ := Lib.hid hyq
            have hcl : ((G.take q).filter nz).length ≤ 8 := by
              have h1 := List.length_filter_le nz (G.take q)
              rw [List.length_take] at h1
              omega
            have hclI : (((G.take q).filter nz).length : Int) ≤ 8 := by omega
            clear hy hyq hcl
            by_cases hy0 : y = 0
            · subst hy0
              go_wp2_with fail
              go_roundw
              case rel => exact ⟨q + 1, by omega, by go_num, by rw [HYQ.out, List.filter_append]; simp [nz], trivial⟩
              case measure => simp [intOf]; omega
            · have hyb : (y != 0) = true := by simpa using hy0
              have HYB := Lib.hid hyb
              have hfy : [y].filter nz = [y] := by simp [nz, hy0]
              have HFY := Lib.hid hfy
              clear hfy
              go_wp2_with fail
              go_roundw
              case rel => exact ⟨q + 1, by omega, by go_num, by rw [HYQ.out, List.filter_append, HFY.out, List.length_append]; rfl, trivial⟩
              case measure => simp [intOf]; omega
          · obtain rfl : k = q := by omega
            have hqI : ¬ (k : Int) < (k : Int) := by omega
            have htk : G.take k = G := List.take_of_length_le (by rw [HGK2.out]; exact Nat.le_refl _)
            rw [htk]
            clear hqk htk
            go_wp2_with fail
            refine HM.out.told_.mono ?_
            rintro e w9 ⟨rfl, hm, _⟩
            have HM9 := Lib.hid hm
            clear hm
            go_wp2_with fail
            refine (HM9.out.state_ (g := 0) (s := 5) (by rfl)).mono ?_
            rintro e w10 ⟨rfl, rfl⟩
            go_wp2_with fail
            refine (HM9.out.reach_ (by omega)).mono ?_
            rintro e w11 ⟨A9, cap9, rfl, _, hu⟩
            rw [HL.out]
            have HM11 := Lib.hid (HM9.out.up hu)
            clear hu
            go_wp2_with fail
            go_ret
            exact ⟨rfl, (HU4.out.tr HM11.out.u).below'⟩

set_option maxRecDepth 100000 in
theorem lifted (os : Os) (started : os.Started) (H : Type) (enc : TypeId × Value → H) :
    ReturnsInHanded {} Try.checked os 5 .any (Rows.modelGlobalsSpec.pre6 enc Try.prog Try.f5 Rows.modelGlobalsRow.domain false) (Rows.modelGlobalsSpec.post enc Try.prog Try.f5 false true false false) := by
  refine returnsInHanded_of_change (C := Try.checked) Try.ownK started (by kernel_rfl) Try.func5
    (ChangeSpec.witness6 (enc := enc) (C := Try.checked) false ⟨#[], #[.slice none 0 0, .int .i64 0], []⟩ 8 (by kernel_rfl) (by kernel_rfl) (by kernel_rfl) (by kernel_rfl)) ?_
  intro W base args ds gs before hval0 hW hcnd _
  have hval : ∀ (j : Nat) t v, Try.f5.params[j]? = some t → args[j]? = some v → Value.okWide Try.prog W .any base t v := hval0
  have hW' := hW
  obtain ⟨p, q, hA0, hV, rfl, hfz, hnd⟩ := hW
  have hA : DataW.TrodAll enc Try.prog W 0 (fun _ => true) true Try.f5.params.toList args.toList ds p := hA0
  rw [Try.params5] at hA hval
  obtain ⟨v0, vs0, d0, ds0, p0, q0, hargs, rfl, rfl, h0, r0⟩ := trodAll_cons hA
  obtain ⟨v1, vs1, d1, ds1, p1, q1, rfl, rfl, rfl, h1, r1⟩ := trodAll_cons r0
  obtain ⟨rfl, rfl, rfl⟩ := trodAll_nil r1
  obtain rfl : args = #[v0, v1] := by cases args; simp_all
  obtain ⟨rfl, rfl⟩ := trodVars_none hV
  obtain ⟨A0, n0, cap0, f0, rfl, hr0⟩ := read_ints Try.underlying44 Try.underlying3 (by kernel_rfl) (hval 0 44 v0 rfl rfl) h0
  obtain ⟨a1, rfl, rfl, rfl, _⟩ := open_int Try.underlying3 (hval 1 3 v1 rfl rfl) h1
  clear hA0 hval0
  refine (walk A0 n0 cap0 f0 a1 W hr0).mono fun e W' ⟨he, hb⟩ => ?_
  subst he
  exact ⟨_, rfl, law_post Try.laidB rfl rfl rfl Try.underlying4 (by kernel_rfl) hW' hb⟩

theorem proved : Rows.ModelGlobalsSaid :=
  OpenClaim.holds_of_wide 5 Try.f5 rfl rfl rfl rfl rfl rfl rfl ⟨rfl, rfl, rfl, rfl, rfl⟩ rfl rfl rfl rfl rfl (by kernel_rfl) Try.func5 (by kernel_rfl)
    (of_decide_eq_true (by kernel_rfl)) (by unfold Func.isWrapper; first | (rw [if_pos (by decide +kernel)]; kernel_rfl) | (rw [if_neg (by decide +kernel)]; exact ⟨rfl, rfl⟩))
    (fun os started H enc _ => lifted os started H enc)
#print axioms proved
end Go.Proofs.Ytndldoamadmphaa.modelGlobals
