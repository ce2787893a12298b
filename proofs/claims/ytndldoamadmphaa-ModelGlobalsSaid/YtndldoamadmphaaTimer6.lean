/- container/heap over the sleepers: Push, Pop. -/
import Derived.Test.YtndldoamadmphaaTimer5
namespace Go.Proofs.Ytndldoamadmphaa
open Go.RowKit

theorem upL_len (l : List Sl) (j : Nat) : (upL l j).length = l.length := by
  induction l, j using upL.induct with
  | case1 l => rw [upL, dif_pos rfl]
  | case2 l j h0 h1 ih => rw [upL, dif_neg h0, if_pos h1, ih, swapL_len]
  | case3 l j h0 h1 => rw [upL, dif_neg h0, if_neg h1]
theorem downL_len (l : List Sl) (i n : Nat) : (downL l i n).1.length = l.length := by
  induction l, i using downL.induct (n := n) with
  | case1 l i h0 => rw [downL, dif_pos h0]
  | case2 l i h0 h1 ih => rw [downL, dif_neg h0, if_pos h1, ih, swapL_len]
  | case3 l i h0 h1 => rw [downL, dif_neg h0, if_neg h1]
def pushL (l : List Sl) (s : Sl) : List Sl := upL (l ++ [s]) l.length
theorem pushL_len (l : List Sl) (s : Sl) : (pushL l s).length = l.length + 1 := by unfold pushL; rw [upL_len]; simp

set_option maxRecDepth 100000 in
set_option maxHeartbeats 2000000 in
theorem hPush_c {w : World} {t : Nat} {row : Option Nat} {v : Value} {l : List Sl} {made : Int} (h : HAt w t row v l made) (hl : l.length < 900000) (s : Sl) :
    Calls Try.prog 83 #[.iface 108 (.pointer (some ⟨t, 0, none⟩)), .iface 106 s.v] w fun e w' => e = .returned (.tuple #[]) ∧
      ∃ row' v', HAt w' t row' v' (pushL l s) made ∧ Upd (fun k => k = t ∨ row = some k) w w' ∧ (∀ k, row' = some k → row = some k ∨ w.heap.size ≤ k) := by
  have mP := methPtr w (.pointer (some ⟨t, 0, none⟩)) (nm := "Push") (f := 116) (by kernel_rfl)
  have H := Lib.hid h
  have Hc := Lib.hid (slPush_c h (by omega) s)
  generalize hsv : s.v = sv at *
  clear h
  go_enter Try.func83, Try.ntmps83
  go_wp2_with (
    refine Hc.out.mono ?_; rintro e w1 ⟨rfl, row', v', h1, u1, hf⟩
    obtain ⟨g, cap, rfl, rfl⟩ := h1.some (by simp)
    have hlen : (l ++ [s]).length = l.length + 1 := by simp
    have Hup := Lib.hid (up_c h1 (j := l.length) (by simp) (by simp; omega))
    rw [hlen] at Hup h1
    clear hlen
    have c1 : w1.cell? ⟨t, 0, none⟩ = some (.slice (some ⟨g, 0, none⟩) (l.length + 1) cap) := h1.blk.cell 0
    have mL1 := methVia (nm := "Len") (f := 106) c1 (by kernel_rfl)
    have Hlen := Lib.hid (slLen_c (.slice (some ⟨g, 0, none⟩) (l.length + 1) cap) (l.length + 1) w1 (.inr ⟨_, _, rfl⟩))
    have Hf := Lib.hid hf
    clear h1 hf)
  go_wp2_with (refine Hlen.out.mono ?_; rintro e w2 ⟨rfl, rfl⟩)
  go_wp2_with (refine Hup.out.mono ?_; rintro e w3 ⟨rfl, h3, u3⟩)
  go_end0
  refine ⟨rfl, _, _, h3, u1.trans u3 (fun k hk => ?_), Hf.out⟩
  subst hk
  rcases Hf.out _ rfl with e | e
  · exact .inl (.inr e)
  · exact .inr e

def popL (l : List Sl) (n : Nat) : List Sl := (downL (swapL l 0 n) 0 n).1
theorem popL_len (l : List Sl) (n : Nat) : (popL l n).length = l.length := by unfold popL; rw [downL_len, swapL_len]

set_option maxRecDepth 100000 in
set_option maxHeartbeats 2000000 in
theorem hPop_c {w : World} {t g cap n : Nat} {l l' : List Sl} {s : Sl} {made : Int} (h : HAt w t (some g) (.slice (some ⟨g, 0, none⟩) (n + 1) cap) l made) (hl : l.length = n + 1) (hn : n < 900000) (hs : popL l n = l' ++ [s]) :
    Calls Try.prog 74 #[.iface 108 (.pointer (some ⟨t, 0, none⟩))] w fun e w' => e = .returned (.iface 106 s.v) ∧
      HAt w' t (some g) (.slice (some ⟨g, 0, none⟩) n cap) l' made ∧ Upd (fun k => k = t ∨ k = g) w w' := by
  have hgt : t ≠ g := fun e => h.ne (by rw [e])
  have c0 : w.cell? ⟨t, 0, none⟩ = some (.slice (some ⟨g, 0, none⟩) (n + 1) cap) := h.blk.cell 0
  have mL0 := methVia (nm := "Len") (f := 106) c0 (by kernel_rfl)
  have mS0 := methVia (nm := "Swap") (f := 108) c0 (by kernel_rfl)
  have Hlen := Lib.hid (slLen_c (.slice (some ⟨g, 0, none⟩) (n + 1) cap) (n + 1) w (.inr ⟨_, _, rfl⟩))
  have Hsw := Lib.hid (swapH_c h hl (i := 0) (j := n) (by omega) (by omega) (ii := 0) (jj := (n : Int)) rfl rfl)
  have hl' : l'.length = n := by
    have h1 := popL_len l n
    rw [hs, List.length_append, hl] at h1
    simpa using h1
  have Hl := Lib.hid hl
  have Hl' := Lib.hid hl'
  have Hs := Lib.hid hs
  clear h hl hl' hs
  go_enter Try.func74, Try.ntmps74
  go_wp2_with (refine Hlen.out.mono ?_; rintro e w1 ⟨rfl, rfl⟩)
  go_wp2_with (
    refine Hsw.out.mono ?_; rintro e w1 ⟨rfl, h1, u1⟩
    have Hdn := Lib.hid (down_c h1 (by rw [swapL_len]; exact Hl.out) (i := 0) (n := n) (by omega) (by omega) (by omega))
    clear h1)
  go_wp2_with (
    refine Hdn.out.mono ?_; rintro e w2 ⟨rfl, h2, u2⟩
    have mP := methPtr w2 (.pointer (some ⟨t, 0, none⟩)) (nm := "Pop") (f := 115) (by kernel_rfl)
    have h3 : HAt w2 t (some g) (.slice (some ⟨g, 0, none⟩) (l'.length + 1) cap) (l' ++ [s]) made := by
      rw [Hl'.out, ← Hs.out]; exact h2
    have Hpop := Lib.hid (slPop_c h3)
    clear h2 h3)
  go_wp2_with (refine Hpop.out.mono ?_; rintro e w3 ⟨rfl, h4, u3⟩)
  go_ret
  rw [Hl'.out] at h4
  exact ⟨rfl, h4, ((u1.mono (S' := fun k => k = t ∨ k = g) (fun _ e => .inl (.inr e))).trans u2 (fun _ e => .inl (.inr e))).trans u3 (fun _ e => .inl (.inl e))⟩
end Go.Proofs.Ytndldoamadmphaa
