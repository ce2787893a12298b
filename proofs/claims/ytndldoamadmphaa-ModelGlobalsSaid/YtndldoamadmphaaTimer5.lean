/- container/heap over the sleepers: down. -/
import Derived.Test.YtndldoamadmphaaTimer4
namespace Go.Proofs.Ytndldoamadmphaa
open Go.RowKit

theorem downL_step {l : List Sl} {i n p : Nat} (h0 : ¬ n ≤ 2 * i + 1) (hp : pickL l i n = p) (h1 : lessAt l p i = true) : downL l i n = downL (swapL l i p) p n := by
  subst hp
  rw [downL, dif_neg h0, if_pos h1]
theorem downL_stop {l : List Sl} {i n p : Nat} (h0 : ¬ n ≤ 2 * i + 1) (hp : pickL l i n = p) (h1 : lessAt l p i = false) : downL l i n = (l, i) := by
  subst hp
  rw [downL, dif_neg h0, if_neg (by rw [h1]; simp)]
theorem downL_over {l : List Sl} {i n : Nat} (h0 : n ≤ 2 * i + 1) : downL l i n = (l, i) := by rw [downL, dif_pos h0]

set_option maxRecDepth 100000 in
set_option maxHeartbeats 40000000 in
theorem down_c {w : World} {t g m cap : Nat} {l : List Sl} {made : Int} (h : HAt w t (some g) (.slice (some ⟨g, 0, none⟩) m cap) l made) (hm : l.length = m) {i n : Nat} (hn : n ≤ m) (hi : i < 1000000) (hl : m < 1000000) :
    Calls Try.prog 82 #[.iface 108 (.pointer (some ⟨t, 0, none⟩)), .int .i64 i, .int .i64 n] w fun e w' => e = .returned (.bool (decide (i < (downL l i n).2))) ∧
      HAt w' t (some g) (.slice (some ⟨g, 0, none⟩) m cap) (downL l i n).1 made ∧ Upd (fun k => k = g) w w' := by
  have H := Lib.hid h
  have Hm := Lib.hid hm
  have Hi0 := Lib.hid hi
  clear h hi hm
  go_enter Try.func82, Try.ntmps82
  go_wp2_with fail
  go_loopw [7] (fun v7 wr => ∃ (i' : Nat) (l' : List Sl), v7 = .int .i64 i' ∧ HAt wr t (some g) (.slice (some ⟨g, 0, none⟩) m cap) l' made ∧ l'.length = m ∧ i' < 1000000 ∧ downL l' i' n = downL l i n ∧ Upd (fun k => k = g) w wr) (fun v7 _ => n - (intOf v7).toNat)
  case atStart => exact ⟨i, l, rfl, H.out, Hm.out, Hi0.out, rfl, Upd.refl _ _⟩
  case round =>
    obtain ⟨i', l', rfl, hh, hlen, hi', hup, hu⟩ := hrel
    have Hh := Lib.hid hh
    have Hup := Lib.hid hup
    have Hlen := Lib.hid hlen
    have c0 : wr.cell? ⟨t, 0, none⟩ = some (.slice (some ⟨g, 0, none⟩) m cap) := hh.blk.cell 0
    have mL := methVia (nm := "Less") (f := 107) c0 (by kernel_rfl)
    clear hh hup hlen
    by_cases h0 : n ≤ 2 * i' + 1
    · have H0 := Lib.hid h0
      have h0I : (n : Int) ≤ 2 * (i' : Int) + 1 := by omega
      clear h0
      go_wp2_with fail
      go_ret
      have e : downL l i n = (l', i') := Hup.out.symm.trans (downL_over H0.out)
      rw [e]
      exact ⟨rfl, Hh.out, hu⟩
    have H0 := Lib.hid h0
    have h0I : 2 * (i' : Int) + 1 < (n : Int) := by omega
    have h0D : decide ((n : Int) ≤ 2 * (i' : Int) + 1) = false := by simpa using h0I
    have h0N : decide (2 * (i' : Int) + 1 < 0) = false := by simp; omega
    have h0G : ¬ (2 * (i' : Int) + 1 < 0) := by omega
    have h0F : ¬ ((n : Int) ≤ 2 * (i' : Int) + 1) := by omega
    clear h0
    by_cases h2 : n ≤ 2 * i' + 2
    · have h2I : (n : Int) ≤ 2 * (i' : Int) + 1 + 1 := by omega
      have h2D : decide (2 * (i' : Int) + 1 + 1 < (n : Int)) = false := by simpa using h2I
      have h2F : ¬ (2 * (i' : Int) + 1 + 1 < (n : Int)) := by omega
      have Hp := Lib.hid (show pickL l' i' n = 2 * i' + 1 by unfold pickL; rw [if_neg (by omega)])
      cases hab : lessAt l' (2 * i' + 1) i' with
      | false =>
        have Hab := Lib.hid hab; clear hab
        go_wp2_with (
          refine (lessH_c (Hh.out.upd (Upd.refl _ _) (fun e => e) (fun _ _ e => e)) (i := 2 * i' + 1) (j := i') (by rw [Hlen.out]; omega) (by rw [Hlen.out]; omega) (by omega) rfl (ii := 2 * (i' : Int) + 1)).mono ?_; rw [Hab.out]; rintro e w2 ⟨rfl, u2⟩)
        go_ret
        have e : downL l i n = (l', i') := Hup.out.symm.trans (downL_stop H0.out Hp.out Hab.out)
        rw [e]
        exact ⟨rfl, Hh.out.upd u2 (fun e => e) (fun _ _ e => e), hu.trans u2 (fun _ h => h.elim)⟩
      | true =>
        have Hab := Lib.hid hab; clear hab
        go_wp2_with (
          refine (lessH_c (Hh.out.upd (Upd.refl _ _) (fun e => e) (fun _ _ e => e)) (i := 2 * i' + 1) (j := i') (by rw [Hlen.out]; omega) (by rw [Hlen.out]; omega) (by omega) rfl (ii := 2 * (i' : Int) + 1)).mono ?_; rw [Hab.out]; rintro e w2 ⟨rfl, u2⟩
          have h2 : HAt w2 _ _ _ _ _ := Hh.out.upd u2 (fun e => e) (fun _ _ e => e)
          have c2 : w2.cell? ⟨t, 0, none⟩ = some (.slice (some ⟨g, 0, none⟩) m cap) := h2.blk.cell 0
          have mS := methVia (nm := "Swap") (f := 108) c2 (by kernel_rfl)
          have Hsw := Lib.hid (swapH_c h2 Hlen.out (i := i') (j := 2 * i' + 1) (by omega) (by omega) rfl (by omega) (jj := 2 * (i' : Int) + 1))
          clear h2)
        go_wp2_with (refine Hsw.out.mono ?_; rintro e w3 ⟨rfl, h3, u3⟩)
        go_roundw
        case rel =>
          refine ⟨2 * i' + 1, swapL l' i' (2 * i' + 1), by go_num, h3, by rw [swapL_len]; exact Hlen.out, by omega, ?_, (hu.trans u2 (fun _ h => h.elim)).trans u3 (fun _ h => .inl h)⟩
          exact (downL_step H0.out Hp.out Hab.out).symm.trans Hup.out
        case measure => simp [intOf]; omega
    · have h2I : 2 * (i' : Int) + 1 + 1 < (n : Int) := by omega
      have h2D : decide (2 * (i' : Int) + 1 + 1 < (n : Int)) = true := by simpa using h2I
      have Hless1 := Lib.hid (lessH_c Hh.out (i := 2 * i' + 2) (j := 2 * i' + 1) (by rw [Hlen.out]; omega) (by rw [Hlen.out]; omega) (by omega) (by omega) (ii := 2 * (i' : Int) + 1 + 1) (jj := 2 * (i' : Int) + 1))
      cases hb : lessAt l' (2 * i' + 2) (2 * i' + 1) with
      | false =>
        have Hb := Lib.hid hb; clear hb
        have Hp := Lib.hid (show pickL l' i' n = 2 * i' + 1 by unfold pickL; rw [if_neg (by rw [Hb.out]; simp)])
        cases hab : lessAt l' (2 * i' + 1) i' with
        | false =>
          have Hab := Lib.hid hab; clear hab
          go_wp2_with (
            refine Hless1.out.mono ?_; rw [Hb.out]; rintro e w1 ⟨rfl, u1⟩
            clear Hless1
            have c1 : w1.cell? ⟨t, 0, none⟩ = some (.slice (some ⟨g, 0, none⟩) m cap) := (Hh.out.upd u1 (fun e => e) (fun _ _ e => e)).blk.cell 0
            have mL1 := methVia (nm := "Less") (f := 107) c1 (by kernel_rfl))
          go_wp2_with (
          refine (lessH_c (Hh.out.upd u1 (fun e => e) (fun _ _ e => e)) (i := 2 * i' + 1) (j := i') (by rw [Hlen.out]; omega) (by rw [Hlen.out]; omega) (by omega) rfl (ii := 2 * (i' : Int) + 1)).mono ?_; rw [Hab.out]; rintro e w2 ⟨rfl, u2⟩)
          go_ret
          have e : downL l i n = (l', i') := Hup.out.symm.trans (downL_stop H0.out Hp.out Hab.out)
          rw [e]
          exact ⟨rfl, Hh.out.upd (u1.trans u2 (fun _ h => h.elim)) (fun e => e) (fun _ _ e => e), hu.trans (u1.trans u2 (fun _ h => h.elim)) (fun _ h => h.elim)⟩
        | true =>
          have Hab := Lib.hid hab; clear hab
          go_wp2_with (
            refine Hless1.out.mono ?_; rw [Hb.out]; rintro e w1 ⟨rfl, u1⟩
            clear Hless1
            have c1 : w1.cell? ⟨t, 0, none⟩ = some (.slice (some ⟨g, 0, none⟩) m cap) := (Hh.out.upd u1 (fun e => e) (fun _ _ e => e)).blk.cell 0
            have mL1 := methVia (nm := "Less") (f := 107) c1 (by kernel_rfl))
          go_wp2_with (
          refine (lessH_c (Hh.out.upd u1 (fun e => e) (fun _ _ e => e)) (i := 2 * i' + 1) (j := i') (by rw [Hlen.out]; omega) (by rw [Hlen.out]; omega) (by omega) rfl (ii := 2 * (i' : Int) + 1)).mono ?_; rw [Hab.out]; rintro e w2 ⟨rfl, u2⟩
          have h2 : HAt w2 _ _ _ _ _ := Hh.out.upd (u1.trans u2 (fun _ h => h.elim)) (fun e => e) (fun _ _ e => e)
          have c2 : w2.cell? ⟨t, 0, none⟩ = some (.slice (some ⟨g, 0, none⟩) m cap) := h2.blk.cell 0
          have mS := methVia (nm := "Swap") (f := 108) c2 (by kernel_rfl)
          have Hsw := Lib.hid (swapH_c h2 Hlen.out (i := i') (j := 2 * i' + 1) (by omega) (by omega) rfl (by omega) (jj := 2 * (i' : Int) + 1))
          clear h2)
          go_wp2_with (refine Hsw.out.mono ?_; rintro e w3 ⟨rfl, h3, u3⟩)
          go_roundw
          case rel =>
            refine ⟨2 * i' + 1, swapL l' i' (2 * i' + 1), by go_num, h3, by rw [swapL_len]; exact Hlen.out, by omega, ?_, (hu.trans (u1.trans u2 (fun _ h => h.elim)) (fun _ h => h.elim)).trans u3 (fun _ h => .inl h)⟩
            exact (downL_step H0.out Hp.out Hab.out).symm.trans Hup.out
          case measure => simp [intOf]; omega
      | true =>
        have Hb := Lib.hid hb; clear hb
        have Hp := Lib.hid (show pickL l' i' n = 2 * i' + 2 by unfold pickL; rw [if_pos ⟨by omega, Hb.out⟩])
        cases hab : lessAt l' (2 * i' + 2) i' with
        | false =>
          have Hab := Lib.hid hab; clear hab
          go_wp2_with (
            refine Hless1.out.mono ?_; rw [Hb.out]; rintro e w1 ⟨rfl, u1⟩
            clear Hless1
            have c1 : w1.cell? ⟨t, 0, none⟩ = some (.slice (some ⟨g, 0, none⟩) m cap) := (Hh.out.upd u1 (fun e => e) (fun _ _ e => e)).blk.cell 0
            have mL1 := methVia (nm := "Less") (f := 107) c1 (by kernel_rfl))
          go_wp2_with (
          refine (lessH_c (Hh.out.upd u1 (fun e => e) (fun _ _ e => e)) (i := 2 * i' + 2) (j := i') (by rw [Hlen.out]; omega) (by rw [Hlen.out]; omega) (by omega) rfl (ii := 2 * (i' : Int) + 1 + 1)).mono ?_; rw [Hab.out]; rintro e w2 ⟨rfl, u2⟩)
          go_ret
          have e : downL l i n = (l', i') := Hup.out.symm.trans (downL_stop H0.out Hp.out Hab.out)
          rw [e]
          exact ⟨rfl, Hh.out.upd (u1.trans u2 (fun _ h => h.elim)) (fun e => e) (fun _ _ e => e), hu.trans (u1.trans u2 (fun _ h => h.elim)) (fun _ h => h.elim)⟩
        | true =>
          have Hab := Lib.hid hab; clear hab
          go_wp2_with (
            refine Hless1.out.mono ?_; rw [Hb.out]; rintro e w1 ⟨rfl, u1⟩
            clear Hless1
            have c1 : w1.cell? ⟨t, 0, none⟩ = some (.slice (some ⟨g, 0, none⟩) m cap) := (Hh.out.upd u1 (fun e => e) (fun _ _ e => e)).blk.cell 0
            have mL1 := methVia (nm := "Less") (f := 107) c1 (by kernel_rfl))
          go_wp2_with (
          refine (lessH_c (Hh.out.upd u1 (fun e => e) (fun _ _ e => e)) (i := 2 * i' + 2) (j := i') (by rw [Hlen.out]; omega) (by rw [Hlen.out]; omega) (by omega) rfl (ii := 2 * (i' : Int) + 1 + 1)).mono ?_; rw [Hab.out]; rintro e w2 ⟨rfl, u2⟩
          have h2 : HAt w2 _ _ _ _ _ := Hh.out.upd (u1.trans u2 (fun _ h => h.elim)) (fun e => e) (fun _ _ e => e)
          have c2 : w2.cell? ⟨t, 0, none⟩ = some (.slice (some ⟨g, 0, none⟩) m cap) := h2.blk.cell 0
          have mS := methVia (nm := "Swap") (f := 108) c2 (by kernel_rfl)
          have Hsw := Lib.hid (swapH_c h2 Hlen.out (i := i') (j := 2 * i' + 2) (by omega) (by omega) rfl (by omega) (jj := 2 * (i' : Int) + 1 + 1))
          clear h2)
          go_wp2_with (refine Hsw.out.mono ?_; rintro e w3 ⟨rfl, h3, u3⟩)
          go_roundw
          case rel =>
            refine ⟨2 * i' + 2, swapL l' i' (2 * i' + 2), by go_num, h3, by rw [swapL_len]; exact Hlen.out, by omega, ?_, (hu.trans (u1.trans u2 (fun _ h => h.elim)) (fun _ h => h.elim)).trans u3 (fun _ h => .inl h)⟩
            exact (downL_step H0.out Hp.out Hab.out).symm.trans Hup.out
          case measure => simp [intOf]; omega
end Go.Proofs.Ytndldoamadmphaa
