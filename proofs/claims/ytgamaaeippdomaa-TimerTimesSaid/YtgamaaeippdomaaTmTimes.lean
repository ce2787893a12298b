/- 'Rows.TimerTimesSaid': treadmilllaw13.TimerTimes returns true for any list of integers and any step. No condition. -/
import Derived.Test.YtgamaaeippdomaaTmTimesP
import Derived.Test.YtgamaaeippdomaaTmAt
namespace Go.Proofs.Ytgamaaeippdomaa.timerTimes
open Go.ChangeShapes Go.WideShapes Go.ChangeAt Go.RowKit

def Adds (w : World) (t : Nat) (W : Nat → Nat) (k : Nat) (wr : World) : Prop := ∃ H, TmAt w t k wr H ∧ H.Perm (baseS W k) ∧ IsHeap H H.length
def Tell (w : World) (t n : Nat) (W : Nat → Nat) (c : Nat) (lo last was : Int) (wr : World) : Prop := ∃ D H, D.length = c ∧ TInv n W D H lo last was ∧ TmAt w t n wr H

set_option maxRecDepth 100000 in
set_option maxHeartbeats 4000000 in
theorem walk (A : Option Addr) (n cap : Nat) (f : Nat → Int) (step : Int) (w : World) (hr : RdF w A n 1 (fun i _ => f i)) :
    Calls Try.prog 3 #[.slice A n cap, .int .i64 step] w fun e w' => e = .returned (.bool true) ∧ Below w.heap.size w w' := by
  have hm := hr.1
  unfold maxLen at hm
  by_cases h60 : 60 < n
  · go_enter Try.func3, Try.ntmps3
    go_wp2_with fail
    refine (ttold_c _).mono ?_
    rintro e w1 ⟨rfl, u1⟩
    go_wp2_with fail
    go_ret
    exact ⟨rfl, u1.below'⟩
  have h60D : decide (60 < (n : Int)) = false := by simp; omega
  have hn : n ≤ 60 := by omega
  have Hr := Lib.hid hr
  obtain ⟨W, hW⟩ : ∃ W : Nat → Nat, W = fun k => umod (f k) 1000 := ⟨_, rfl⟩
  have HW := Lib.hid hW
  have hWlt : ∀ k, W k < 1000 := fun k => by rw [HW.out]; exact umod_lt _ _ (by omega)
  have HWlt := Lib.hid hWlt
  obtain ⟨s, hs⟩ : ∃ s : Int, s = 1 + (umod step 200 : Int) := ⟨_, rfl⟩
  have hs1 : 1 ≤ s := by omega
  have hs2 : s ≤ 200 := by have := umod_lt step 200 (by omega); omega
  have Hs := Lib.hid hs
  have HU := Lib.hid (umod_w64 step 200 200 rfl (by omega) (by omega))
  clear hr hW hWlt hs h60
  go_enter Try.func3, Try.ntmps3
  go_wp2_with fail
  refine (tnew_a (Upd.refl _ _)).mono ?_
  rintro e w1 ⟨rfl, h1⟩
  obtain ⟨t, ht⟩ : ∃ t, t = w.heap.size := ⟨_, rfl⟩
  rw [← ht] at h1 ⊢
  have hA0 : Adds w t W 0 w1 := ⟨[], h1, List.Perm.refl _, fun k _ h => absurd h (by simp)⟩
  have HA0 := Lib.hid hA0
  clear ht h1 hA0
  go_wp2_with fail
  go_loopw [6] (fun i wr => ∃ k : Nat, k ≤ n ∧ i = .int .i64 k ∧ Adds w t W k wr) (fun i _ => n - (intOf i).toNat)
  case atStart => exact ⟨0, by omega, rfl, HA0.out⟩
  case round =>
    clear HA0
    obtain ⟨k, hk, rfl, H, h1, hp, hh⟩ := hrel
    by_cases hlt : k < n
    · obtain ⟨b, off, rfl, _, hcells⟩ := (Hr.out.upd h1.u (fun _ e => e.elim)).2 (by omega)
      have hcell : wr.cell? ⟨b, off + k, none⟩ = some (.int .i64 (f k)) := by
        have := hcells k hlt 0 (by omega)
        simpa using this
      have hlen : H.length = k := by have := hp.length_eq; rwa [baseS_len] at this
      have e0 := umod_w64 (f k) 1000 1000 rfl (by omega) (by omega)
      have Hc := Lib.hid (tadd_a h1 (by omega) (by omega) (umod (f k) 1000 : Int) k)
      have Hp := Lib.hid hp
      have Hh := Lib.hid hh
      have Hlen := Lib.hid hlen
      have E0 := Lib.hid e0
      clear hcells h1 hp hh hlen e0
      go_wp2_with fail
      rw [E0.out]
      refine Hc.out.mono ?_
      rintro e w2 ⟨rfl, h2⟩
      have hA2 : Adds w t W (k + 1) w2 := by
        refine ⟨_, by simpa using h2, ?_, ?_⟩
        · rw [baseS_succ, HW.out]
          exact (push_perm _ _).trans (List.Perm.append_right _ (HW.out ▸ Hp.out))
        · rw [pushL_len]
          exact push_heap Hh.out _
      have HA2 := Lib.hid hA2
      clear h2 hA2
      go_wp2_with fail
      go_roundw
      case rel => exact ⟨k + 1, by omega, by go_num, HA2.out⟩
      case measure => simp [intOf]; omega
    · have hkn : k = n := by omega
      subst hkn
      have ht0 : Tell w t k W 0 (0 - s) (-1) (-1) wr := ⟨[], H, rfl, tinv_start hp (by have := hp.length_eq; rw [baseS_len] at this; rw [← this]; exact hh) (by omega), h1⟩
      have HT0 := Lib.hid ht0
      clear hlt h1 hp hh ht0
      go_wp2_with fail
      have HU' := HU.out
      have hws : wrap64 s = s := by unfold wrap64; omega
      rw [HU', ← Hs.out, hws]
      clear hws
      clear HU' HU
      go_loopw [8, 9, 10, 11] (fun v8 v9 v10 v11 wr => ∃ (c : Nat) (last was now : Int), v8 = .int .i64 c ∧ v9 = .int .i64 last ∧ v10 = .int .i64 was ∧ v11 = .int .i64 now ∧ 0 ≤ now ∧ now < 1400 ∧ c ≤ k ∧ Tell w t k W c (now - s) last was wr) (fun _ _ _ v11 _ => (1400 - intOf v11).toNat)
      case atStart => exact ⟨0, -1, -1, 0, rfl, rfl, rfl, rfl, by omega, by omega, by omega, HT0.out⟩
      case round =>
        clear HT0
        obtain ⟨c, last, was, now, rfl, rfl, rfl, rfl, hn0, hn1, hck, D, H, hD, hT, h1⟩ := hrel
        by_cases hnow : now < 1200
        · have hlH : D.length + H.length = k := by
            have := hT.perm.length_eq
            rw [List.length_append, baseS_len] at this
            omega
          obtain ⟨xs, x1, x2, x3, x4⟩ := tstep hT now
          have hx3 := fun j hj => x3.it j hj
          have Hdue := Lib.hid (tdue_a h1 (by omega) now)
          rw [x1] at Hdue
          have Hx3 := Lib.hid hx3
          have Hx4 := Lib.hid x4
          have HlH := Lib.hid hlH
          have Hx2 := Lib.hid x2
          have HD := Lib.hid hD
          generalize hH2 : (dueL now H.length H).2 = H2 at *
          clear x1 x2 x3 x4 hx3 hlH hD hT h1 hH2
          go_wp2_with fail
          refine Hdue.out.mono ?_
          rintro e w2 ⟨o, rfl, ⟨r2, hr2, hf2⟩, h2⟩
          clear Hdue
          have hr2' : Row w2 3 r2 o ((xs.map (·.g)).map (Value.int .i64)) := hr2
          obtain ⟨B, capB, rfl, hB⟩ := hr2'.rdf
          rw [List.length_map] at hB ⊢
          have hxk : c + xs.length ≤ k := by have := HlH.out; have := Hx2.out; have := HD.out; omega
          have HB := Lib.hid hB
          have HT := Lib.hid h2
          clear hB h2 hr2 hr2' hf2
          go_wp2_with fail
          go_loopw [8, 9, 10, 13] (fun v8 v9 v10 v13 wr => ∃ (j : Nat) (la wa : Int), j ≤ xs.length ∧ v13 = .int .i64 j ∧ v8 = .int .i64 ((c : Int) + j) ∧ v9 = .int .i64 la ∧ v10 = .int .i64 wa ∧ lastT xs j was last = (wa, la) ∧ ∃ m, wr = w2.drewN m) (fun _ _ _ v13 _ => xs.length - (intOf v13).toNat)
          case atStart => exact ⟨0, last, was, by omega, rfl, by simp, rfl, rfl, rfl, 0, rfl⟩
          case round =>
            obtain ⟨j, la, wa, hj, rfl, rfl, rfl, rfl, hlast, m, rfl⟩ := hrel
            by_cases hjx : j < xs.length
            · obtain ⟨g, hgn, hg1, hg2, hg3, hg4, hg5, hg6⟩ := Hx3.out j hjx
              rw [hlast] at hg5 hg6
              simp only at hg5 hg6
              obtain ⟨b, off, rfl, _, hcells⟩ := (Hr.out.upd HT.out.u (fun _ e => e.elim)).2 (by omega)
              have hcell : w2.cell? ⟨b, off + g, none⟩ = some (.int .i64 (f g)) := by
                have := hcells g hgn 0 (by omega)
                simpa using this
              obtain ⟨b', off', rfl, _, hcells'⟩ := HB.out.2 (by omega)
              have hcell' : w2.cell? ⟨b', off' + j, none⟩ = some (.int .i64 g) := by
                have := hcells' j hjx 0 (by omega)
                rw [Nat.mul_one, Nat.add_zero] at this
                rw [this, ← hg1]
                simp [at0, List.getD, hjx]
              have e0 : wrap64 ((IntKind.u64.wrap (f g)).tmod 1000) = (W g : Int) := by rw [HW.out]; exact umod_w64 (f g) 1000 1000 rfl (by omega) (by omega)
              have hl1 : lastT xs (j + 1) was last = ((W g : Int), (g : Int)) := by
                unfold lastT
                rw [if_neg (by omega), Nat.add_sub_cancel, hg1, hg2]
              have Hl1 := Lib.hid hl1
              have f1 : decide ((g : Int) < 0) = false := by simp
              have f2 : decide (k ≤ g) = false := by simp; omega
              have f3 : decide (now < (W g : Int)) = false := by simp; omega
              have f4 : decide ((W g : Int) ≤ now - s) = false := by simp; omega
              have f5 : decide ((W g : Int) < wa) = false := by simp; omega
              have hWg := HWlt.out g
              have hgI : (g : Int) < (k : Int) := by omega
              have hcj : (c : Int) + j < 100 := by omega
              clear hcells hcells' hg1 hg2 hg3 hg4 hl1 hlast
              by_cases hwa : wa = (W g : Int)
              · have hg7 := hg6 hwa
                have f6 : ((W g : Int) == wa) = true := by simp [hwa]
                have f7 : decide ((g : Int) ≤ la) = false := by simp; omega
                clear hwa hg5 hg6
                go_wp2_with fail
                refine wp_still (by kernel_rfl) (by kernel_rfl) ?_
                repeat still_step
                refine wpStill_nil ?_
                go_wp2_with fail
                go_roundw
                case rel => exact ⟨j + 1, _, _, by omega, by go_num, by go_num, rfl, rfl, Hl1.out, m + 1, rfl⟩
                case measure => simp [intOf]; omega
              · have f6 : ((W g : Int) == wa) = false := by simp; omega
                clear hwa hg5 hg6
                go_wp2_with fail
                refine wp_still (by kernel_rfl) (by kernel_rfl) ?_
                repeat still_step
                refine wpStill_nil ?_
                go_wp2_with fail
                go_roundw
                case rel => exact ⟨j + 1, _, _, by omega, by go_num, by go_num, rfl, rfl, Hl1.out, m + 1, rfl⟩
                case measure => simp [intOf]; omega
            · have hjx2 : j = xs.length := by omega
              subst hjx2
              have hcx : ((c : Int) + (xs.length : Int)) = ((c + xs.length : Nat) : Int) := by omega
              have Hcx := Lib.hid hcx
              have ht2 : Tell w t k W (c + xs.length) (now + s - s) la wa (w2.drewN m) := by
                have h4 := Hx4.out
                rw [hlast] at h4
                refine ⟨D ++ xs, H2, by rw [List.length_append, HD.out], ?_, HT.out.upd ((Upd.refl _ _).drewN m)⟩
                rw [show now + s - s = now by omega]
                exact h4
              have HT2 := Lib.hid ht2
              clear hcx ht2 hlast
              go_wp2_with fail
              go_roundw
              case rel => exact ⟨c + xs.length, la, wa, now + s, by rw [Hcx.out], rfl, rfl, by go_num, by omega, by omega, by omega, HT2.out⟩
              case measure => simp [intOf]; omega
        · obtain ⟨rfl, hD2⟩ := tinv_end hT (fun j _ => HWlt.out j) (by omega)
          have hck2 : c = k := by omega
          subst hck2
          clear hT hD hD2
          go_wp2_with fail
          refine (tnext_a h1).mono ?_
          rintro e w2 ⟨rfl, rfl⟩
          unfold nextL
          go_wp2_with fail
          refine (ttold_c _).mono ?_
          rintro e w2 ⟨rfl, u2⟩
          go_wp2_with fail
          refine (tlen_a (h1.upd u2)).mono ?_
          rintro e w3 ⟨rfl, rfl⟩
          go_wp2_with fail
          go_ret
          exact ⟨rfl, (h1.upd u2).u.below'⟩
set_option maxRecDepth 100000 in
theorem lifted (os : Os) (started : os.Started) (H : Type) (enc : TypeId × Value → H) :
    ReturnsInHanded {} Try.checked os 3 .any (Rows.timerTimesSpec.pre6 enc Try.prog Try.f3 Rows.timerTimesRow.domain false) (Rows.timerTimesSpec.post enc Try.prog Try.f3 false true false false) := by
  refine returnsInHanded_of_change (C := Try.checked) Try.ownK started (by kernel_rfl) Try.func3
    (ChangeSpec.witness6 (enc := enc) (C := Try.checked) false ⟨#[], #[.slice none 0 0, .int .i64 0], []⟩ 8 (by kernel_rfl) (by kernel_rfl) (by kernel_rfl) (by kernel_rfl)) ?_
  intro W base args ds gs before hval0 hW hcnd _
  have hval : ∀ (j : Nat) t v, Try.f3.params[j]? = some t → args[j]? = some v → Value.okWide Try.prog W .any base t v := hval0
  have hW' := hW
  obtain ⟨p, q, hA0, hV, rfl, hfz, hnd⟩ := hW
  have hA : DataW.TrodAll enc Try.prog W 0 (fun _ => true) true Try.f3.params.toList args.toList ds p := hA0
  rw [Try.params3] at hA hval
  obtain ⟨v0, vs0, d0, ds0, p0, q0, hargs, rfl, rfl, h0, r0⟩ := trodAll_cons hA
  obtain ⟨v1, vs1, d1, ds1, p1, q1, rfl, rfl, rfl, h1, r1⟩ := trodAll_cons r0
  obtain ⟨rfl, rfl, rfl⟩ := trodAll_nil r1
  obtain rfl : args = #[v0, v1] := by cases args; simp_all
  obtain ⟨rfl, rfl⟩ := trodVars_none hV
  obtain ⟨A0, n0, cap0, f0, rfl, hr0⟩ := read_ints Try.underlying22 Try.underlying3 (by kernel_rfl) (hval 0 22 v0 rfl rfl) h0
  obtain ⟨a1, rfl, rfl, rfl, _⟩ := open_int Try.underlying3 (hval 1 3 v1 rfl rfl) h1
  clear hA0 hval0
  refine (walk A0 n0 cap0 f0 a1 W hr0).mono fun e W' ⟨he, hb⟩ => ?_
  subst he
  exact ⟨_, rfl, law_post Try.laidB rfl rfl rfl Try.underlying4 (by kernel_rfl) hW' hb⟩

theorem proved : Rows.TimerTimesSaid :=
  OpenClaim.holds_of_wide 3 Try.f3 rfl rfl rfl rfl rfl rfl rfl ⟨rfl, rfl, rfl, rfl, rfl⟩ rfl rfl rfl rfl rfl (by kernel_rfl) Try.func3 (by kernel_rfl)
    (of_decide_eq_true (by kernel_rfl)) (by unfold Func.isWrapper; first | (rw [if_pos (by decide +kernel)]; kernel_rfl) | (rw [if_neg (by decide +kernel)]; exact ⟨rfl, rfl⟩))
    (fun os started H enc _ => lifted os started H enc)
#print axioms proved
end Go.Proofs.Ytgamaaeippdomaa.timerTimes
