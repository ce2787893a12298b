/- 'Rows.TimerOrderSaid': treadmilllaw13.TimerOrder returns true for any list of integers. No condition. -/
import Derived.Test.YtgamaaeippdomaaTmOrderP
import Derived.Deep.RegionWith
import Derived.WalkLawsBesides
namespace Go.Proofs.Ytgamaaeippdomaa.timerOrder
open Go.ChangeShapes Go.WideShapes Go.ChangeAt Go.RowKit

/-- What holds behind i rounds. -/
def Ord (w : World) (t d n : Nat) (V : Nat → Int) (i : Nat) (wr : World) : Prop := ∃ I l, TmD w t d n i wr l I ∧ l.Perm (baseF V I i) ∧ ∀ j, i ≤ j → I j = false
theorem baseF_len (V : Nat → Int) (I : Nat → Bool) (n : Nat) : (baseF V I n).length ≤ n := by
  unfold baseF
  rw [List.length_map]
  exact Nat.le_trans (List.length_filter_le _ _) (by simp)

theorem RowN.cells2 {w : World} {row : Option Nat} {v : Value} {l : List Sl} (h : RowN w 45 2 row v l.length (cells2 l)) {k : Nat} (hk : k < l.length) :
    ∃ g cap, v = .slice (some ⟨g, 0, none⟩) l.length cap ∧ w.cell? ⟨g, k * 2, none⟩ = some (.int .i64 (at0 l k).when) ∧ w.cell? ⟨g, k * 2 + 1, none⟩ = some (.int .i64 (at0 l k).g) := by
  rcases h.form with ⟨_, h0, _⟩ | ⟨g, cap, cur, hv, hr, _, _, hb, _, ht⟩
  · omega
  · obtain ⟨h1, h2⟩ := cells2_get l k hk
    exact ⟨g, cap, hv, take_cell hb ht _ _ h1, take_cell hb ht _ _ h2⟩
def cntB (I : Nat → Bool) (k : Nat) : Nat := ((List.range k).filter I).length
theorem cntB_succ (I : Nat → Bool) (k : Nat) : cntB I (k + 1) = cntB I k + if I k = true then 1 else 0 := by
  unfold cntB
  rw [List.range_succ, List.filter_append, List.length_append]
  by_cases h : I k = true <;> simp [h]
theorem cntB_le (I : Nat → Bool) (k : Nat) : cntB I k ≤ k := by
  unfold cntB
  exact Nat.le_trans (List.length_filter_le _ _) (by simp)
theorem cntB_base (V : Nat → Int) (I : Nat → Bool) (n : Nat) : (baseF V I n).length = cntB I n := by
  unfold baseF cntB
  rw [List.length_map]

set_option maxRecDepth 100000 in
set_option maxHeartbeats 6000000 in
theorem walk (A : Option Addr) (n cap : Nat) (f : Nat → Int) (w : World) (hr : RdF w A n 1 (fun i _ => f i)) :
    Calls Try.prog 7 #[.slice A n cap] w fun e w' => e = .returned (.bool true) ∧ Below w.heap.size w w' := by
  have hm := hr.1
  unfold maxLen at hm
  by_cases h60 : 60 < n
  · go_enter Try.func7, Try.ntmps7
    go_wp2_with fail
    refine (ttold_c _).mono ?_
    rintro e w1 ⟨rfl, u1⟩
    go_wp2_with fail
    go_ret
    exact ⟨rfl, u1.below'⟩
  have h60D : decide (60 < (n : Int)) = false := by simp; omega
  have hn : n ≤ 60 := by omega
  have Hr := Lib.hid hr
  obtain ⟨V, hV⟩ : ∃ V : Nat → Int, V = fun k => (f k).tmod 20 := ⟨_, rfl⟩
  have HV := Lib.hid hV
  have hmk := fun w => run_make_row' (P := Try.prog) 48 4 (.bool false) 1 Try.underlying48 (by kernel_rfl) rfl .i64 .i64 n (by omega) (by omega) w
  clear hr hV h60
  go_enter Try.func7, Try.ntmps7
  go_wp2_with fail
  refine (tnew_c _).mono ?_
  rintro e w1 ⟨rfl, h1, u1⟩
  obtain ⟨t, ht⟩ : ∃ t, t = w.heap.size := ⟨_, rfl⟩
  rw [← ht] at h1 ⊢
  have H1 := Lib.hid h1
  have Ht := Lib.hid ht
  clear ht h1
  go_wp2_with fail
  obtain ⟨d, hd⟩ : ∃ d, d = w1.heap.size := ⟨_, rfl⟩
  rw [← hd]
  have hO : Ord w t d n V 0 (w1.alloc (.cells (madeCells #[.bool false] n) 4)) := by
    have h1 := H1.out
    have hb1 := h1.blk.lt
    have hs := u1.size
    have ht : t = w.heap.size := Ht.out
    refine ⟨fun _ => false, [], ⟨none, _, h1.upd (S := fun _ => False) ((Upd.refl _ _).alloc _) (fun e => e) (fun _ _ e => e), u1.alloc _, by omega, (fun k hk => by cases hk), (fun k _ hk => absurd hk (by simp)), ?_, by omega, by omega⟩, List.Perm.refl _, fun _ _ => rfl⟩
    rw [boolsV_made]
    exact Blk.new' _ _ _ hd
  have HO := Lib.hid hO
  clear hmk hO hd u1 H1 Ht
  go_loopw [5] (fun i wr => ∃ k : Nat, k ≤ n ∧ i = .int .i64 k ∧ Ord w t d n V k wr) (fun i _ => n - (intOf i).toNat)
  case atStart => exact ⟨0, by omega, rfl, HO.out⟩
  case round =>
    clear HO
    obtain ⟨i, hi, rfl, I, l, h1, hp, hI⟩ := hrel
    by_cases hlt : i < n
    · skip
      --STUB(
      obtain ⟨b, off, rfl, _, hcells⟩ := (Hr.out.upd h1.u (fun _ e => e.elim)).2 (by omega)
      have hcell : wr.cell? ⟨b, off + i, none⟩ = some (.int .i64 (f i)) := by
        have := hcells i hlt 0 (by omega)
        simpa using this
      have hlen : l.length ≤ 60 := by have := hp.length_eq; have := baseF_len V I i; omega
      have Hc := Lib.hid (tadd_d h1 (by omega) (by omega) ((f i).tmod 20) i)
      have Hp := Lib.hid hp
      have HI := Lib.hid hI
      have Hlen := Lib.hid hlen
      clear hcells h1 hp hI hlen
      go_wp2_with fail
      refine Hc.out.mono ?_
      rintro e w2 ⟨rfl, h2⟩
      have hp2 : (pushL l ⟨(f i).tmod 20, (i : Int), (i : Int) + 1⟩).Perm (baseF V (upB I i true) (i + 1)) := by
        rw [baseF_add]
        have e : V i = (f i).tmod 20 := by rw [HV.out]
        rw [e]
        exact (push_perm _ _).trans (Hp.out.append_right _)
      have hl2 : (pushL l ⟨(f i).tmod 20, (i : Int), (i : Int) + 1⟩).length ≤ 61 := by rw [pushL_len]; have := Hlen.out; omega
      generalize pushL l ⟨(f i).tmod 20, (i : Int), (i : Int) + 1⟩ = l2 at *
      have hdc : w2.cell? ⟨d, i, none⟩ = some (.bool (I i)) := (h2.blk.cell i).trans (boolsV_get I hlt)
      have hdf := h2.blk.frozen i
      have H3 := Lib.hid (h2.set_ i true)
      have Hp2 := Lib.hid hp2
      have Hl2 := Lib.hid hl2
      clear h2 hp2 hl2 Hc
      by_cases h5 : i % 5 = 4
      · have h5I : ((i : Int) % 5 == 4) = true := by simp; omega
        obtain ⟨k, hk⟩ : ∃ k : Nat, k = i / 2 := ⟨_, rfl⟩
        have hkI : (i : Int) / 2 = (k : Int) := by omega
        have hki : k ≤ i := by omega
        have hkn : k < n := by omega
        have hknI : (k : Int) < (n : Int) := by omega
        obtain ⟨bb, hbb⟩ : ∃ bb, bb = upB I i true k := ⟨_, rfl⟩
        have hdel : ∀ (W : World) (J : Nat → Bool) (l0 : List Sl), TmD w t d n ((i : Int) + 1) W l0 (upB I i true) → l0.Perm (baseF V J (i + 1)) → Calls Try.prog 14 #[.pointer (some ⟨t, 0, none⟩), .int .i64 k] W fun e w' => ∃ l1, e = .returned (.bool (J k)) ∧ TmD w t d n ((i : Int) + 1) w' l1 (upB I i true) ∧ l1.Perm (baseF V (upB J k false) (i + 1)) := by
          intro W J l0 h0 p0
          have hle : l0.length ≤ 61 := by have := p0.length_eq; have := baseF_len V J (i + 1); omega
          refine (tdel_d h0 (by omega) k).mono ?_
          rintro e w' ⟨b, l1, rfl, hd, hT⟩
          obtain ⟨rfl, p1⟩ := baseF_del p0 (by omega) hd
          exact ⟨l1, rfl, hT, p1⟩
        have Hdel := Lib.hid hdel
        have Hbb := Lib.hid hbb
        have hc3 := (H3.out.blk.cell k).trans (boolsV_get _ hkn)
        rw [← hbb] at hc3
        clear hdel hbb hk h5
        go_wp2_with fail
        go_region_with (first
          | (go_at_call 14; refine (Hdel.out _ _ _ h4 p4).mono ?_; rintro e w5 ⟨l5, rfl, h5, p5⟩; rw [show upB (upB I i true) k false k = false by simp [upB]])
          | (go_at_call 14; refine (Hdel.out _ _ _ (H3.out.upd ((Upd.refl _ _).drew)) Hp2.out).mono ?_; rintro e w4 ⟨l4, rfl, h4, p4⟩; rw [← Hbb.out]; have hc4 := (h4.blk.cell k).trans (boolsV_get _ hkn); rw [← Hbb.out] at hc4))
        all_goals
          have hc5 := (h5.blk.cell k).trans (boolsV_get _ hkn)
          have hf5 := h5.blk.frozen k
          have h6 := h5.set_ k false
          have p6 : l5.Perm (baseF V (upB (upB I i true) k false) (i + 1)) := by
            have e := upB_same (upB (upB I i true) k false) k false (by simp [upB])
            rw [e] at p5
            exact p5
          have H6 := Lib.hid h6
          have P6 := Lib.hid p6
          clear h5 h6 p5 p6 h4 p4 hc3 hc4
          go_wp2_with fail
          go_roundw
          case rel =>
            refine ⟨i + 1, by omega, by go_num, _, l5, H6.out, P6.out, fun j hj => ?_⟩
            unfold upB
            rw [if_neg (by omega), if_neg (by omega)]
            exact HI.out j (by omega)
          case measure => simp [intOf]; omega
      · have h5I : ((i : Int) % 5 == 4) = false := by simp; omega
        clear h5
        go_wp2_with fail
        go_roundw
        case rel =>
          refine ⟨i + 1, by omega, by go_num, upB I i true, l2, H3.out, Hp2.out, fun j hj => ?_⟩
          unfold upB
          rw [if_neg (by omega)]
          exact HI.out j (by omega)
        case measure => simp [intOf]; omega
      --STUB)
    · have hin : i = n := by omega
      subst hin
      have hlen : l.length = cntB I i := by rw [hp.length_eq, cntB_base]
      have hcl := cntB_le I i
      have Hp := Lib.hid hp
      have Hlen := Lib.hid hlen
      have Hall := Lib.hid (tall_s h1 (by omega))
      clear h1 hp hI hlen hlt
      go_wp2_with fail
      refine Hall.out.mono ?_
      rintro e w2 ⟨o, l', rfl, p1, p2, ⟨r, hrow, hfr⟩, h2s⟩
      have h2 := h2s.toD
      have H2s := Lib.hid h2s
      have Hfr := Lib.hid hfr
      clear h2s hfr
      have P1 := Lib.hid (p1.trans Hp.out)
      have P2 := Lib.hid p2
      have Hrow := Lib.hid hrow
      have H2 := Lib.hid h2
      have hl' : l'.length = cntB I i := p1.length_eq.trans Hlen.out
      obtain ⟨C, capC, rfl⟩ : ∃ C cap, o = .slice C l'.length cap := by
        rcases hrow.form with ⟨hv, h0, _⟩ | ⟨g, cap, _, hv, _⟩
        · exact ⟨none, 0, by rw [h0]; exact hv⟩
        · exact ⟨_, _, hv⟩
      have Hl' := Lib.hid hl'
      clear p1 p2 hrow h2 hl' Hall
      go_wp2_with fail
      go_loop [8, 9] (fun v8 v9 => ∃ k : Nat, k ≤ i ∧ v9 = .int .i64 k ∧ v8 = .int .i64 (cntB I k)) (fun _ v9 => i - (intOf v9).toNat)
      case atStart => exact ⟨0, by omega, rfl, rfl⟩
      case round =>
        obtain ⟨k, hk, rfl, rfl⟩ := hrel
        have hcc := cntB_le I k
        by_cases hki : k < i
        · skip
          --STUB(
          have hkI : (k : Int) < (i : Int) := by omega
          have hcell := (H2.out.blk.cell k).trans (boolsV_get I hki)
          have Hs := Lib.hid (cntB_succ I k)
          cases hb : I k with
          | true =>
            have Hb := Lib.hid hb
            rw [hb] at hcell
            clear hb
            go_wp2_with fail
            go_round
            case rel => exact ⟨k + 1, by omega, by go_num, by rw [Hs.out, if_pos Hb.out]; go_num⟩
            case measure => simp [intOf]; omega
          | false =>
            have Hb := Lib.hid hb
            rw [hb] at hcell
            clear hb
            go_wp2_with fail
            go_round
            case rel => exact ⟨k + 1, by omega, by go_num, by rw [Hs.out, if_neg (by rw [Hb.out]; simp)]; rfl⟩
            case measure => simp [intOf]; omega
          --STUB)
        · have hki2 : k = i := by omega
          subst hki2
          clear hki hcc
          have hl'2 := Hl'.out
          obtain ⟨N, hN⟩ : ∃ N, N = l'.length := ⟨_, rfl⟩
          rw [← hl'2, ← hN]
          have hNk : N ≤ 60 := by omega
          have Hlt := Lib.hid (tlen_d H2.out)
          have hll : l.length = N := by rw [Hlen.out, hN, hl'2]
          rw [hll] at Hlt
          have HN := Lib.hid hN
          clear hl'2 hll hN
          go_wp2_with fail
          refine Hlt.out.mono ?_
          rintro e w3 ⟨rfl, rfl⟩
          clear Hlt
          go_wp2_with fail
          go_loopw [10] (fun v10 wr => ∃ (j m : Nat), j ≤ N ∧ v10 = .int .i64 j ∧ wr = w2.drewN m) (fun v10 _ => N - (intOf v10).toNat)
          case atStart => exact ⟨0, 0, by omega, rfl, rfl⟩
          case round =>
            obtain ⟨j, m, hj, rfl, rfl⟩ := hrel
            by_cases hjN : j < N
            · skip
              --STUB(
              have hjl : j < l'.length := by have := HN.out; omega
              obtain ⟨gr, capr, hv, ca, cb⟩ := RowN.cells2 Hrow.out hjl
              injection hv with e1 _ e2
              subst e1 e2
              obtain ⟨q, hq, hIq, hxe⟩ := baseF_mem.1 (P1.out.subset (at0_mem hjl))
              have hw1 : (at0 l' j).when = (f q).tmod 20 := by rw [hxe, HV.out]
              have hg1 : (at0 l' j).g = (q : Int) := by rw [hxe]
              have hs1 : (at0 l' j).seq = (q : Int) + 1 := by rw [hxe]
              obtain ⟨bA, offA, rfl, _, hcells⟩ := (Hr.out.upd H2.out.u (fun _ e => e.elim)).2 (by omega)
              have hcA : w2.cell? ⟨bA, offA + q, none⟩ = some (.int .i64 (f q)) := by
                have := hcells q hq 0 (by omega)
                simpa using this
              have hcd : w2.cell? ⟨d, q, none⟩ = some (.bool true) := by rw [← hIq]; exact (H2.out.blk.cell q).trans (boolsV_get I hq)
              have hqI : (q : Int) < (k : Int) := by omega
              have hjI : (j : Int) < (N : Int) := by omega
              have hjI2 : (j : Int) < (l'.length : Int) := by omega
              have hq0 : (0 : Int) ≤ (q : Int) := by omega
              have hj0 : (0 : Int) ≤ (j : Int) := by omega
              have hqd : decide ((q : Int) < 0) = false := by simp
              have hqd2 : decide (k ≤ q) = false := by simp; omega
              rw [hw1] at ca
              rw [hg1] at cb
              have Hw1 := Lib.hid hw1
              have Hg1 := Lib.hid hg1
              have Hs1 := Lib.hid hs1
              clear hcells hw1 hg1 hs1 hIq hxe
              go_wp2_with fail
              refine wp_still (by kernel_rfl) (by kernel_rfl) ?_
              repeat still_step
              refine wpStill_nil ?_
              go_wp2_with fail
              by_cases hj00 : j = 0
              · have hjn : decide (0 < j) = false := by simp; omega
                have hjz : decide ((0 : Int) < (j : Int)) = false := by simp; omega
                go_quiet (fail)
                go_wp2_with fail
                go_roundw
                case rel => exact ⟨j + 1, _, by omega, by go_num, rfl⟩
                case measure => simp [intOf]; omega
              · obtain ⟨j', rfl⟩ : ∃ j', j = j' + 1 := ⟨j - 1, by omega⟩
                have hjl' : j' < l'.length := by omega
                obtain ⟨gr', capr', hv', ca', cb'⟩ := RowN.cells2 Hrow.out hjl'
                injection hv' with e1' _ e2'
                injection e1' with e1'
                injection e1' with e1'
                subst e1' e2'
                obtain ⟨q', hq', hIq', hxe'⟩ := baseF_mem.1 (P1.out.subset (at0_mem hjl'))
                have hord := sorted_lt P1.out P2.out (show j' < j' + 1 by omega) hjl
                have hw1' : (at0 l' j').when = (f q').tmod 20 := by rw [hxe', HV.out]
                have hg1' : (at0 l' j').g = (q' : Int) := by rw [hxe']
                have hs1' : (at0 l' j').seq = (q' : Int) + 1 := by rw [hxe']
                unfold ltS at hord
                rw [hw1', hs1', Hw1.out, Hs1.out] at hord
                rw [hw1'] at ca'
                rw [hg1'] at cb'
                have hjn : decide (0 < j' + 1) = true := by simp
                have hjz : decide ((0 : Int) < (j' : Int) + 1) = true := by simp <;> omega
                have hwr : IntKind.i64.wrap ((j' : Int) + 1 - 1) = (j' : Int) := by rw [IntKind.wrap_i64]; omega
                have hwr2 : IntKind.i64.wrap (((j' + 1 : Nat) : Int) - 1) = (j' : Int) := by rw [IntKind.wrap_i64]; omega
                have hjI' : (j' : Int) < (N : Int) := by omega
                have hjI2' : (j' : Int) < (l'.length : Int) := by omega
                have hj0' : (0 : Int) ≤ (j' : Int) := by omega
                have t1 : decide ((f q).tmod 20 < (f q').tmod 20) = false := by simp; omega
                clear hxe' hIq' hw1' hg1' hs1'
                by_cases heq : (f q').tmod 20 = (f q).tmod 20
                · have t2 : ((f q').tmod 20 == (f q).tmod 20) = true := by simp [heq]
                  have t3 : decide ((q : Int) ≤ (q' : Int)) = false := by simp; omega
                  have t4 : decide (q ≤ q') = false := by simp; omega
                  have Heq := Lib.hid heq
                  clear heq hord
                  go_quiet (fail)
                  go_wp2_with fail
                  go_roundw
                  case rel => exact ⟨j' + 1 + 1, _, by omega, by go_num, rfl⟩
                  case measure => simp [intOf]; omega
                · have t2 : ((f q').tmod 20 == (f q).tmod 20) = false := by simpa using heq
                  clear heq hord
                  go_quiet (fail)
                  go_wp2_with fail
                  go_roundw
                  case rel => exact ⟨j' + 1 + 1, _, by omega, by go_num, rfl⟩
                  case measure => simp [intOf]; omega
              --STUB)
            · have hjN2 : j = N := by omega
              subst hjN2
              have Hdue := Lib.hid (tdue_s (H2s.out.upd ((Upd.refl _ _).drewN m)) (by have := Hlen.out; omega) 1099511627776)
              clear hjN
              go_wp2_with fail
              refine Hdue.out.mono ?_
              rintro e w5 ⟨o5, xs, l5, rfl, ⟨r5, hr5, _⟩, h5, hd5, u5⟩
              clear Hdue
              have hsmall : ∀ x ∈ l, x.when ≤ 1099511627776 := by
                intro x hx
                obtain ⟨q, _, _, e⟩ := baseF_mem.1 (Hp.out.subset hx)
                rw [e, HV.out]
                show (f q).tmod 20 ≤ 1099511627776
                have := Int.tmod_lt_of_pos (f q) (by omega : (0 : Int) < 20)
                omega
              have hl5 : l5 = [] := by
                cases hh : l5 with
                | nil => rfl
                | cons y ys =>
                  have hy : y ∈ l5 := by rw [hh]; simp
                  have g1 := hd5.left y hy
                  have g2 := hsmall y (hd5.perm.subset (List.mem_append_right _ hy))
                  omega
              subst hl5
              have hxl : xs = l' := sorted_eq (by have := hd5.perm; rw [List.append_nil] at this; exact this.trans Hp.out) P1.out hd5.sorted P2.out
              subst hxl
              have hr5' : Row w5 3 r5 o5 ((xs.map (·.g)).map (Value.int .i64)) := hr5
              obtain ⟨B, capB, rfl, hB⟩ := hr5'.rdf
              rw [List.length_map, ← HN.out] at hB ⊢
              have HB := Lib.hid hB
              have H5 := Lib.hid h5
              have hrow5 : RowN w5 45 2 r (.slice C xs.length capC) xs.length (cells2 xs) := by
                have h0 : RowN (w2.drewN m) 45 2 r (.slice C xs.length capC) xs.length (cells2 xs) := Hrow.out
                exact h0.upd u5 (fun k hk e => e (Hfr.out k hk))
              have Hrow5 := Lib.hid hrow5
              have Hnx := Lib.hid (show j = xs.length from HN.out)
              clear hr5 hr5' hB h5 hd5 hsmall hrow5 u5
              go_wp2_with fail
              go_loopw [13] (fun v13 wr => ∃ (q m : Nat), q ≤ j ∧ v13 = .int .i64 q ∧ wr = w5.drewN m) (fun v13 _ => j - (intOf v13).toNat)
              case atStart => exact ⟨0, 0, by omega, rfl, rfl⟩
              case round =>
                obtain ⟨q, m5, hq, rfl, rfl⟩ := hrel
                by_cases hqj : q < j
                · have hqx : q < xs.length := by have := Hnx.out; omega
                  obtain ⟨gr, capr, hv, ca, cb⟩ := RowN.cells2 Hrow5.out hqx
                  injection hv with e1 _ e2
                  subst e1 e2
                  obtain ⟨bB, offB, rfl, _, hcells⟩ := HB.out.2 (by omega)
                  have hcB : w5.cell? ⟨bB, offB + q, none⟩ = some (.int .i64 (at0 xs q).g) := by
                    have := hcells q hqj 0 (by omega)
                    rw [Nat.mul_one, Nat.add_zero] at this
                    rw [this]
                    simp [at0, List.getD, hqx]
                  have hqI : (q : Int) < (j : Int) := by omega
                  have hqI2 : (q : Int) < (xs.length : Int) := by omega
                  have hq0 : (0 : Int) ≤ (q : Int) := by omega
                  have hqd : decide (j ≤ q) = false := by simp; omega
                  clear hcells
                  go_wp2_with fail
                  go_quiet (fail)
                  go_wp2_with fail
                  go_roundw
                  case rel => exact ⟨q + 1, _, by omega, by go_num, rfl⟩
                  case measure => simp [intOf]; omega
                · have hqj2 : q = j := by omega
                  subst hqj2
                  clear hqj
                  go_wp2_with fail
                  refine (ttold_c _).mono ?_
                  rintro e w6 ⟨rfl, u6⟩
                  have h6 := H5.out.upd ((Upd.refl (fun _ => False) w5).drewN m5 |>.trans u6 (fun _ e => .inl e))
                  go_wp2_with fail
                  refine (tlen_h h6).mono ?_
                  rintro e w7 ⟨rfl, rfl⟩
                  go_wp2_with fail
                  go_ret
                  exact ⟨rfl, h6.u.below'⟩
set_option maxRecDepth 100000 in
theorem lifted (os : Os) (started : os.Started) (H : Type) (enc : TypeId × Value → H) :
    ReturnsInHanded {} Try.checked os 7 .any (Rows.timerOrderSpec.pre6 enc Try.prog Try.f7 Rows.timerOrderRow.domain false) (Rows.timerOrderSpec.post enc Try.prog Try.f7 false true false false) := by
  refine returnsInHanded_of_change (C := Try.checked) Try.ownK started (by kernel_rfl) Try.func7
    (ChangeSpec.witness6 (enc := enc) (C := Try.checked) false ⟨#[], #[.slice none 0 0], []⟩ 8 (by kernel_rfl) (by kernel_rfl) (by kernel_rfl) (by kernel_rfl)) ?_
  intro W base args ds gs before hval0 hW hcnd _
  have hval : ∀ (j : Nat) t v, Try.f7.params[j]? = some t → args[j]? = some v → Value.okWide Try.prog W .any base t v := hval0
  have hW' := hW
  obtain ⟨p, q, hA0, hV, rfl, hfz, hnd⟩ := hW
  have hA : DataW.TrodAll enc Try.prog W 0 (fun _ => true) true Try.f7.params.toList args.toList ds p := hA0
  rw [Try.params7] at hA hval
  obtain ⟨v0, vs0, d0, ds0, p0, q0, hargs, rfl, rfl, h0, r0⟩ := trodAll_cons hA
  obtain ⟨rfl, rfl, rfl⟩ := trodAll_nil r0
  obtain rfl : args = #[v0] := by cases args; simp_all
  obtain ⟨rfl, rfl⟩ := trodVars_none hV
  obtain ⟨A0, n0, cap0, f0, rfl, hr0⟩ := read_ints Try.underlying22 Try.underlying3 (by kernel_rfl) (hval 0 22 v0 rfl rfl) h0
  clear hA0 hval0
  refine (walk A0 n0 cap0 f0 W hr0).mono fun e W' ⟨he, hb⟩ => ?_
  subst he
  exact ⟨_, rfl, law_post Try.laidB rfl rfl rfl Try.underlying4 (by kernel_rfl) hW' hb⟩

theorem proved : Rows.TimerOrderSaid :=
  OpenClaim.holds_of_wide 7 Try.f7 rfl rfl rfl rfl rfl rfl rfl ⟨rfl, rfl, rfl, rfl, rfl⟩ rfl rfl rfl rfl rfl (by kernel_rfl) Try.func7 (by kernel_rfl)
    (of_decide_eq_true (by kernel_rfl)) (by unfold Func.isWrapper; first | (rw [if_pos (by decide +kernel)]; kernel_rfl) | (rw [if_neg (by decide +kernel)]; exact ⟨rfl, rfl⟩))
    (fun os started H enc _ => lifted os started H enc)
#print axioms proved
end Go.Proofs.Ytgamaaeippdomaa.timerOrder
