/- Contracts of package state: Move as one; Alive. -/
import Derived.Test.YtndldoamadmphaaState5
namespace Go.Proofs.Ytndldoamadmphaa
open Go.RowKit

theorem move_c {w : World} {a : Nat} {row : Option Nat} {l : List Int} (h : StAt w a row l) (g to : Int) :
    Calls Try.prog 39 #[.pointer (some ⟨a, 0, none⟩), .int .i64 g, .int .i64 to] w fun e w' => e = .returned (.int .i64 (mvRes l g to)) ∧ StAt w' a row (mvL l g to) ∧ Upd (own1 a row) w w' := by
  by_cases h0 : ofL l g = 0
  · have e1 : mvRes l g to = 4 := by unfold mvRes; rw [if_pos h0]
    have e2 : mvL l g to = l := by unfold mvL; rw [if_neg (by simp [h0])]
    rw [e1, e2]
    exact (move_none h g to h0).mono fun e w' ⟨he, hw⟩ => ⟨he, hw ▸ h, hw ▸ Upd.refl _ _⟩
  · by_cases hm : mayB (ofL l g) to = true
    · have e1 : mvRes l g to = 0 := by unfold mvRes; rw [if_neg h0, if_pos hm]
      have e2 : mvL l g to = l.set g.toNat to := by unfold mvL; rw [if_pos ⟨h0, hm⟩]
      rw [e1, e2]
      exact move_yes h g to h0 hm
    · have hm' : mayB (ofL l g) to = false := by simpa using hm
      have e1 : mvRes l g to = 5 := by unfold mvRes; rw [if_neg h0, if_neg hm]
      have e2 : mvL l g to = l := by unfold mvL; rw [if_neg (by simp [hm'])]
      rw [e1, e2]
      exact (move_no h g to h0 hm').mono fun e w' ⟨he, hw⟩ => ⟨he, h.upd (S := fun k => w.heap.size ≤ k) (Upd.of_below hw) (fun k hk e => by have := h.lt k hk; omega), Upd.of_below hw⟩

def aliveTo (l : List Int) (k : Nat) : List Int := ((List.range k).filter (fun i => l.getD i 0 != 5)).map (fun i : Nat => (i : Int))
def alive (l : List Int) : List Int := aliveTo l l.length
theorem aliveTo_succ (l : List Int) (k : Nat) : aliveTo l (k + 1) = if l.getD k 0 = 5 then aliveTo l k else aliveTo l k ++ [(k : Int)] := by
  unfold aliveTo
  rw [List.range_succ, List.filter_append, List.map_append]
  by_cases h : l.getD k 0 = 5
  · rw [if_pos h]
    have e : List.filter (fun i => l.getD i 0 != 5) [k] = [] := by rw [List.filter_cons_of_neg (by rw [h]; decide)]; rfl
    rw [e]
    simp
  · rw [if_neg h]
    have e : List.filter (fun i => l.getD i 0 != 5) [k] = [k] := by rw [List.filter_cons_of_pos (by rw [bne_iff_ne]; exact h)]; rfl
    rw [e]
    rfl
theorem aliveTo_le (l : List Int) (k : Nat) : (aliveTo l k).length ≤ k := by
  unfold aliveTo
  rw [List.length_map]
  exact Nat.le_trans (List.length_filter_le _ _) (by simp)


set_option maxRecDepth 100000 in
set_option maxHeartbeats 1000000 in
theorem alive_c {w : World} {a : Nat} {row : Option Nat} {l : List Int} (h : StAt w a row l) :
    Calls Try.prog 45 #[.pointer (some ⟨a, 0, none⟩)] w fun e w' => ∃ v, e = .returned v ∧ NewRow w w' 3 v (ints (alive l)) ∧ Upd (fun _ => False) w w' := by
  obtain ⟨i0, hi, hz0, hz1, hz2⟩ := info_parts Try.int_info
  have hlenc := Lib.hid (slen_c h)
  have hl := h.len
  have hlt := h.lt
  obtain ⟨v, hb, hr⟩ := h.blk
  have hab := hlt a (.inl rfl)
  have Hb := Lib.hid hb
  have Hr := Lib.hid hr
  have Hlt := Lib.hid hlt
  clear hb hr hlt
  go_enter Try.func45, Try.ntmps45
  go_wp2_with (go_at_call 73; refine hlenc.out.mono ?_; rintro e w1 ⟨rfl, rfl⟩)
  go_loopw [3, 7] (fun o i wr => ∃ k : Nat, k ≤ l.length ∧ i = .int .i64 k ∧ NewRow w wr 3 o (ints (aliveTo l k)) ∧ Upd (fun _ => False) w wr) (fun _ i _ => l.length - (intOf i).toNat)
  case atStart => exact ⟨0, by omega, rfl, ⟨none, Row.nil _ _, by simp⟩, Upd.refl _ _⟩
  case round =>
    obtain ⟨k, hk, rfl, ⟨r, hrow, hfresh⟩, hu⟩ := hrel
    have Hrow := Lib.hid hrow
    have Hfresh := Lib.hid hfresh
    have hkl := aliveTo_le l k
    clear hrow hfresh
    by_cases hlt : k < l.length
    · have hc : ∃ b cap, v = .slice (some ⟨b, 0, none⟩) l.length cap ∧ wr.cell? ⟨b, k, none⟩ = some (.int .i64 (l.getD k 0)) := by
        have hlen : (ints l).length = l.length := by simp [ints]
        rcases Hr.out.form with ⟨_, h2, _⟩ | ⟨b, cap, hv, hrw, hcap, hmx, hbl, hcells, _⟩
        · rw [h2] at hlen
          simp at hlen
          omega
        · refine ⟨b, cap, by rw [hv, hlen], ?_⟩
          rw [hu.cell hbl (fun e => e)]
          exact hcells k _ (by simp [ints, List.getD, hlt])
      obtain ⟨b, cap, rfl, hcell⟩ := hc
      have c0 : wr.cell? ⟨a, 0, none⟩ = some (.slice (some ⟨b, 0, none⟩) l.length cap) := (hu.cell hab (fun e => e) 0).trans (Hb.out.cell 0)
      by_cases h5 : l.getD k 0 = 5
      · have e1 := Lib.hid (show aliveTo l (k + 1) = aliveTo l k by rw [aliveTo_succ, if_pos h5])
        rw [h5] at hcell
        clear h5
        go_wp2
        go_roundw
        case rel => exact ⟨k + 1, by omega, by go_num, ⟨r, by rw [e1.out]; exact Hrow.out, Hfresh.out⟩, hu⟩
        case measure => simp [intOf]; omega
      · have e1 := Lib.hid (show aliveTo l (k + 1) = aliveTo l k ++ [(k : Int)] by rw [aliveTo_succ, if_neg h5])
        have h6 : (l.getD k 0 == 5) = false := by simpa using h5
        have h7 : (l.getD k 0 != 5) = true := by simpa using h5
        generalize l.getD k 0 = x at *
        clear h5
        have hil : (ints (aliveTo l k)).length = (aliveTo l k).length := by simp [ints]
        go_wp2_with (at_builtin; refine wpList_append_rowN rfl (.tmp 18) (.tmp 20) 44 rfl 3 i0 (.int .i64 0) 1 8 Try.underlying44 hi hz0 hz1 hz2 rfl (by decide) _ rfl r (ints (aliveTo l k)).length (ints (aliveTo l k)) (Hrow.out.alloc _).toN ⟨wr.heap.size, 0, none⟩ 1 1 [.int .i64 k] rfl rfl (news_one _ _ _) (oneCell_one rfl) (by omega) ?c3 ?c4 ?_)
        case c3 => rw [hil]; unfold maxLen; omega
        case c4 => rw [hil]; omega
        intro g cap' w1 hrow1 hg1 hat hlt1
        go_wp2
        go_roundw
        case rel =>
          refine ⟨k + 1, by omega, by go_num, ⟨some g, ?_, ?_⟩, (hu.alloc _).grown hg1 (fun k' hk' => .inr (Hfresh.out k' hk'))⟩
          · rw [e1.out]
            have := hrow1.to1
            simpa [ints] using this
          · intro k' hk'
            injection hk' with hk'
            rcases hat with e | e
            · exact Hfresh.out k' (by rw [e, hk'])
            · have := hu.size
              omega
        case measure => simp [intOf]; omega
    · have hkl : k = l.length := by omega
      subst hkl
      go_wp2
      go_ret
      exact ⟨_, rfl, ⟨r, Hrow.out, Hfresh.out⟩, hu⟩

theorem alive_nil (w : World) : Calls Try.prog 45 #[.pointer none] w fun e w' => e = .returned (.slice none 0 0) ∧ w = w' := by
  go_enter Try.func45, Try.ntmps45
  go_wp2_with (go_at_call 73; refine (slen_nil _).mono ?_; rintro e w1 ⟨rfl, rfl⟩)
  refine wp_loop_rounds 1 ?_
  rw [rounds_succ]
  go_wp2
  go_ret
  exact ⟨rfl, rfl⟩
end Go.Proofs.Ytndldoamadmphaa
