/- container/heap.Remove over the sleepers. -/
import Derived.Test.YtgamaaeippdomaaHeap
namespace Go.Proofs.Ytgamaaeippdomaa
open Go.RowKit

theorem at0_app {l : List Sl} {x : Sl} {k : Nat} (h : k < l.length) : at0 (l ++ [x]) k = at0 l k := by
  simp [at0, List.getD, List.getElem?_append_left h]
theorem at0_last (l : List Sl) (x : Sl) : at0 (l ++ [x]) l.length = x := by simp [at0, List.getD]
theorem last_split {L : List Sl} {n : Nat} {x : Sl} (hlen : L.length = n + 1) (hlast : at0 L n = x) : ∃ l', L = l' ++ [x] ∧ l'.length = n := by
  rcases List.eq_nil_or_concat L with e | ⟨l', y, e⟩
  · rw [e] at hlen; simp at hlen
  · have e' : L = l' ++ [y] := by rw [e]; simp
    have hl' : l'.length = n := by rw [e'] at hlen; simpa using hlen
    have hx : y = x := by
      rw [← hlast, e', ← hl', at0_last]
    subst hx
    exact ⟨l', e', hl'⟩
theorem lessAt_app {l : List Sl} {x : Sl} {i j : Nat} (hi : i < l.length) (hj : j < l.length) : lessAt (l ++ [x]) i j = lessAt l i j := by
  unfold lessAt
  rw [List.getElem?_append_left hi, List.getElem?_append_left hj]
theorem swapL_app {l : List Sl} {x : Sl} {i j : Nat} (hi : i < l.length) (hj : j < l.length) : swapL (l ++ [x]) i j = swapL l i j ++ [x] := by
  unfold swapL
  rw [List.getElem?_append_left hi, List.getElem?_append_left hj, at0_get hi, at0_get hj]
  simp only
  rw [List.set_append_left _ _ hi, List.set_append_left _ _ (by simpa using hj)]
theorem upL_app {x : Sl} (l : List Sl) (j : Nat) : j < l.length → upL (l ++ [x]) j = upL l j ++ [x] := by
  induction l, j using upL.induct with
  | case1 l => intro _; rw [upL, dif_pos rfl, upL, dif_pos rfl]
  | case2 l j h0 h1 ih =>
    intro hj
    rw [upL, dif_neg h0, lessAt_app hj (by omega), if_pos h1, swapL_app (by omega) hj, ih (by rw [swapL_len]; omega)]
    conv => rhs; rw [upL, dif_neg h0, if_pos h1]
  | case3 l j h0 h1 =>
    intro hj
    rw [upL, dif_neg h0, lessAt_app hj (by omega), if_neg h1]
    conv => rhs; rw [upL, dif_neg h0, if_neg h1]
theorem downL_ge (l : List Sl) (i n : Nat) : i ≤ (downL l i n).2 := by
  induction l, i using downL.induct (n := n) with
  | case1 l i h0 => rw [downL, dif_pos h0]; exact Nat.le_refl _
  | case2 l i h0 h1 ih => rw [downL, dif_neg h0, if_pos h1]; have := pickL_lt l i n; omega
  | case3 l i h0 h1 => rw [downL, dif_neg h0, if_neg h1]; exact Nat.le_refl _
def remL (l : List Sl) (i n : Nat) : List Sl :=
  if i = n then l else if i < (downL (swapL l i n) i n).2 then (downL (swapL l i n) i n).1 else upL (downL (swapL l i n) i n).1 i
theorem remL_len (l : List Sl) (i n : Nat) : (remL l i n).length = l.length := by
  unfold remL
  split
  · rfl
  · split
    · rw [downL_len, swapL_len]
    · rw [upL_len, downL_len, swapL_len]

theorem rem_spec {l : List Sl} {n i : Nat} (hl : l.length = n + 1) (h : IsHeap l (n + 1)) (hi : i ≤ n) :
    ∃ l', remL l i n = l' ++ [at0 l i] ∧ l'.length = n ∧ IsHeap l' n ∧ (l' ++ [at0 l i]).Perm l := by
  have fin : ∀ L : List Sl, L.length = n + 1 → at0 L n = at0 l i → IsHeap L n → L.Perm l → ∃ l', L = l' ++ [at0 l i] ∧ l'.length = n ∧ IsHeap l' n ∧ (l' ++ [at0 l i]).Perm l := by
    intro L h1 h2 h3 h4
    obtain ⟨l', e, e2⟩ := last_split h1 h2
    refine ⟨l', e, e2, ?_, e ▸ h4⟩
    intro k k0 hk
    have := h3 k k0 hk
    rw [e, at0_app (by omega), at0_app (by omega)] at this
    exact this
  unfold remL
  by_cases hin : i = n
  · rw [if_pos hin]
    exact fin l hl (by rw [hin]) (fun k k0 hk => h k k0 (by omega)) (List.Perm.refl _)
  · rw [if_neg hin]
    have hil : i < l.length := by omega
    have hnl : n < l.length := by omega
    have hsw := swap_at hil hnl
    have hlen1 : (swapL l i n).length = n + 1 := by rw [swapL_len]; exact hl
    have hp1 : (swapL l i n).Perm l := swap_perm hil hnl
    -- all but the place i
    have hk1 : ∀ k, 0 < k → k < n → k ≠ i → (k - 1) / 2 ≠ i → ¬ ltS (at0 (swapL l i n) k) (at0 (swapL l i n) ((k - 1) / 2)) := by
      intro k k0 hk hne hpe
      rw [hsw, hsw, if_neg (by omega), if_neg hne, if_neg (by omega), if_neg hpe]
      exact h k k0 (by omega)
    have hci : ∀ k, k < n → k ≠ i → at0 (swapL l i n) k = at0 l k := fun k hk hne => by rw [hsw, if_neg (by omega), if_neg hne]
    have hii : at0 (swapL l i n) i = at0 l n := by rw [hsw, if_neg hin, if_pos rfl]
    have hnn : at0 (swapL l i n) n = at0 l i := by rw [hsw, if_pos rfl]
    generalize swapL l i n = L1 at *
    have hdl := downL_len L1 i n
    by_cases hmv : i < (downL L1 i n).2
    · rw [if_pos hmv]
      have hstep : 2 * i + 1 < n ∧ lessAt L1 (pickL L1 i n) i = true := by
        by_cases h0 : n ≤ 2 * i + 1
        · rw [downL, dif_pos h0] at hmv; simp at hmv
        · by_cases h1 : lessAt L1 (pickL L1 i n) i = true
          · exact ⟨by omega, h1⟩
          · rw [downL, dif_neg h0, if_neg h1] at hmv; simp at hmv
      obtain ⟨p1, p2, p3⟩ := pick_spec (by omega : n ≤ L1.length) hstep.1
      have hlt := (lessAt_iff (by omega) (by omega)).1 hstep.2
      have hip := pickL_lt L1 i n
      generalize pickL L1 i n = p at *
      rw [hii, hci p p1 (by omega)] at hlt
      have hpi := h p (by omega) (by omega)
      rw [p2] at hpi
      have hpar : 0 < i → ¬ ltS (at0 l n) (at0 l ((i - 1) / 2)) := fun i0 => ltS_trans (ltS_trans (h i i0 (by omega)) hpi) (ltS_asym hlt)
      refine fin _ (by omega) ?_ ?_ ((down_perm L1 i n (by omega)).trans hp1)
      · rw [down_keep L1 i n n (Nat.le_refl _) (by omega), hnn]
      · refine down_heap L1 i n (by omega) ?_ ?_
        · intro k k0 hk hne
          by_cases hki : k = i
          · subst hki
            rw [hii, hci _ (by omega) (by omega)]
            exact hpar k0
          · exact hk1 k k0 hk hki hne
        · intro k k0 hk hke i0
          rw [hci k hk (by omega), hci _ (by omega) (by omega)]
          have h2 := h k k0 (by omega)
          rw [hke] at h2
          exact ltS_trans (h i i0 (by omega)) h2
    · rw [if_neg hmv]
      have hst : (downL L1 i n).1 = L1 ∧ (2 * i + 1 < n → lessAt L1 (pickL L1 i n) i = false) := by
        by_cases h0 : n ≤ 2 * i + 1
        · rw [downL, dif_pos h0]; exact ⟨rfl, fun h => by omega⟩
        · by_cases h1 : lessAt L1 (pickL L1 i n) i = true
          · rw [downL, dif_neg h0, if_pos h1] at hmv
            have g1 := downL_ge (swapL L1 i (pickL L1 i n)) (pickL L1 i n) n
            have g2 := pickL_lt L1 i n
            omega
          · rw [downL, dif_neg h0, if_neg h1]
            exact ⟨rfl, fun _ => by simpa using h1⟩
      rw [hst.1]
      obtain ⟨l1, e1, e2⟩ := last_split hlen1 hnn
      have hkids : ∀ k, 0 < k → k < n → (k - 1) / 2 = i → ¬ ltS (at0 L1 k) (at0 L1 i) := by
        intro k k0 hk hke
        have h2 : 2 * i + 1 < n := by omega
        obtain ⟨p1, p2, p3⟩ := pick_spec (by omega : n ≤ L1.length) h2
        have h3 : ¬ ltS (at0 L1 (pickL L1 i n)) (at0 L1 i) := fun hh => by
          have := (lessAt_iff (by omega) (by omega)).2 hh
          rw [hst.2 h2] at this
          cases this
        exact ltS_trans h3 (p3 k k0 hk hke)
      have ha : ∀ k, k < n → at0 L1 k = at0 l1 k := fun k hk => by rw [e1, at0_app (by omega)]
      rw [e1, upL_app l1 i (by omega)]
      have hup := up_heap l1 i (by omega) (fun k k0 hk hne => by
        rw [← ha k (by omega), ← ha _ (by omega)]
        by_cases hpe : (k - 1) / 2 = i
        · rw [hpe]; exact hkids k k0 (by omega) hpe
        · exact hk1 k k0 (by omega) hne hpe) (fun k k0 hk hke i0 => by
        rw [← ha k (by omega), ← ha _ (by omega), hci k (by omega) (by omega), hci _ (by omega) (by omega)]
        have h2 := h k k0 (by omega)
        rw [hke] at h2
        exact ltS_trans (h i i0 (by omega)) h2)
      refine ⟨_, rfl, by rw [upL_len]; exact e2, by rw [e2] at hup; exact hup, ?_⟩
      exact (List.Perm.append_right _ (up_perm l1 i (by omega))).trans (e1 ▸ hp1)

set_option maxRecDepth 100000 in
set_option maxHeartbeats 4000000 in
theorem hRem_c {w : World} {t g cap n i : Nat} {l l' : List Sl} {s : Sl} {made : Int} (h : HAt w t (some g) (.slice (some ⟨g, 0, none⟩) (n + 1) cap) l made) (hl : l.length = n + 1) (hn : n < 900000) (hi : i ≤ n) (hs : remL l i n = l' ++ [s]) :
    Calls Try.prog 23 #[.iface 55 (.pointer (some ⟨t, 0, none⟩)), .int .i64 i] w fun e w' => e = .returned (.iface 57 s.v) ∧
      HAt w' t (some g) (.slice (some ⟨g, 0, none⟩) n cap) l' made ∧ Upd (fun k => k = t ∨ k = g) w w' := by
  have hgt : t ≠ g := fun e => h.ne (by rw [e])
  have c0 : w.cell? ⟨t, 0, none⟩ = some (.slice (some ⟨g, 0, none⟩) (n + 1) cap) := h.blk.cell 0
  have mL0 := methVia (nm := "Len") (f := 69) c0 (by kernel_rfl)
  have mS0 := methVia (nm := "Swap") (f := 71) c0 (by kernel_rfl)
  have Hlen := Lib.hid (slLen_c (.slice (some ⟨g, 0, none⟩) (n + 1) cap) (n + 1) w (.inr ⟨_, _, rfl⟩))
  have hl' : l'.length = n := by
    have h1 := remL_len l i n
    rw [hs, List.length_append, hl] at h1
    simpa using h1
  have Hl := Lib.hid hl
  have Hl' := Lib.hid hl'
  have Hs := Lib.hid hs
  have H := Lib.hid h
  by_cases hin : i = n
  · have e := hs
    unfold remL at e
    rw [if_pos hin] at e
    have mP := methPtr w (.pointer (some ⟨t, 0, none⟩)) (nm := "Pop") (f := 72) (by kernel_rfl)
    have h3 : HAt w t (some g) (.slice (some ⟨g, 0, none⟩) (l'.length + 1) cap) (l' ++ [s]) made := by
      rw [Hl'.out, ← e]; exact H.out
    have Hpop := Lib.hid (slPop_c h3)
    have hne : ((n : Int) != (i : Int)) = false := by rw [hin]; simp
    clear h hl hl' hs e h3 mS0
    subst hin
    clear hne
    go_enter Try.func23, Try.ntmps23
    go_wp2_with (refine Hlen.out.mono ?_; rintro e w1 ⟨rfl, rfl⟩)
    go_wp2_with (refine Hpop.out.mono ?_; rintro e w3 ⟨rfl, h4, u3⟩)
    go_ret
    rw [Hl'.out] at h4
    exact ⟨rfl, h4, u3.mono (fun _ e => .inl (.inl e))⟩
  · have hne : ((n : Int) != (i : Int)) = true := by simp; omega
    have Hsw := Lib.hid (swapH_c h hl (i := i) (j := n) (by omega) (by omega) (ii := i) (jj := (n : Int)) rfl rfl)
    have e := hs
    unfold remL at e
    rw [if_neg hin] at e
    clear h hl hl' hs
    by_cases hmv : i < (downL (swapL l i n) i n).2
    · rw [if_pos hmv] at e
      have He := Lib.hid e
      have Hmv := Lib.hid hmv
      clear e hmv
      go_enter Try.func23, Try.ntmps23
      go_wp2_with (refine Hlen.out.mono ?_; rintro e w1 ⟨rfl, rfl⟩)
      go_wp2_with (
        refine Hsw.out.mono ?_; rintro e w1 ⟨rfl, h1, u1⟩
        have Hdn := Lib.hid (down_c h1 (by rw [swapL_len]; exact Hl.out) (i := i) (n := n) (by omega) (by omega) (by omega))
        rw [decide_eq_true Hmv.out] at Hdn
        clear h1)
      go_wp2_with (
        refine Hdn.out.mono ?_; rintro e w2 ⟨rfl, h2, u2⟩
        have mP := methPtr w2 (.pointer (some ⟨t, 0, none⟩)) (nm := "Pop") (f := 72) (by kernel_rfl)
        have h3 : HAt w2 t (some g) (.slice (some ⟨g, 0, none⟩) (l'.length + 1) cap) (l' ++ [s]) made := by
          rw [Hl'.out, ← He.out]; exact h2
        have Hpop := Lib.hid (slPop_c h3)
        clear h2 h3)
      go_wp2_with (refine Hpop.out.mono ?_; rintro e w3 ⟨rfl, h4, u3⟩)
      go_ret
      rw [Hl'.out] at h4
      exact ⟨rfl, h4, ((u1.mono (S' := fun k => k = t ∨ k = g) (fun _ e => .inl (.inr e))).trans u2 (fun _ e => .inl (.inr e))).trans u3 (fun _ e => .inl (.inl e))⟩
    · rw [if_neg hmv] at e
      have He := Lib.hid e
      have Hmv := Lib.hid hmv
      clear e hmv
      go_enter Try.func23, Try.ntmps23
      go_wp2_with (refine Hlen.out.mono ?_; rintro e w1 ⟨rfl, rfl⟩)
      go_wp2_with (
        refine Hsw.out.mono ?_; rintro e w1 ⟨rfl, h1, u1⟩
        have Hdn := Lib.hid (down_c h1 (by rw [swapL_len]; exact Hl.out) (i := i) (n := n) (by omega) (by omega) (by omega))
        rw [decide_eq_false Hmv.out] at Hdn
        clear h1)
      go_wp2_with (
        refine Hdn.out.mono ?_; rintro e w2 ⟨rfl, h2, u2⟩
        have hln : (downL (swapL l i n) i n).1.length = n + 1 := by rw [downL_len, swapL_len]; exact Hl.out
        have Hup := Lib.hid (up_c (l := (downL (swapL l i n) i n).1) (by rw [hln]; exact h2) (j := i) (by omega) (by omega))
        rw [hln] at Hup
        clear h2 hln)
      go_wp2_with (
        refine Hup.out.mono ?_; rintro e w4 ⟨rfl, h2, u4⟩
        have mP := methPtr w4 (.pointer (some ⟨t, 0, none⟩)) (nm := "Pop") (f := 72) (by kernel_rfl)
        have h3 : HAt w4 t (some g) (.slice (some ⟨g, 0, none⟩) (l'.length + 1) cap) (l' ++ [s]) made := by
          rw [Hl'.out, ← He.out]; exact h2
        have Hpop := Lib.hid (slPop_c h3)
        clear h2 h3)
      go_wp2_with (refine Hpop.out.mono ?_; rintro e w3 ⟨rfl, h4, u3⟩)
      go_ret
      rw [Hl'.out] at h4
      exact ⟨rfl, h4, (((u1.mono (S' := fun k => k = t ∨ k = g) (fun _ e => .inl (.inr e))).trans u2 (fun _ e => .inl (.inr e))).trans u4 (fun _ e => .inl (.inr e))).trans u3 (fun _ e => .inl (.inl e))⟩
end Go.Proofs.Ytgamaaeippdomaa
