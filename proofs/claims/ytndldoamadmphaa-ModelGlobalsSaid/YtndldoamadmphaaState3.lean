/- Contracts of package state: Spawn, Move, Alive. -/
import Derived.Test.YtndldoamadmphaaState2
namespace Go.Proofs.Ytndldoamadmphaa
open Go.RowKit

theorem cnt_snoc (l : List Int) (x k : Int) : cnt (l ++ [x]) k = cnt l k + if x = k then 1 else 0 := by
  unfold cnt
  rw [List.filter_append, List.length_append]
  by_cases h : x = k <;> simp [h]
theorem cnt_le (l : List Int) (k : Int) : cnt l k ≤ l.length := List.length_filter_le _ _

theorem spawn_fin {w w1 : World} {a : Nat} {row : Option Nat} {l : List Int} (h : StAt w a row l) (hl : l.length < 1024) {v0 : Value}
    (hb : Blk w a 93 #[v0, .int .i64 0, .int .i64 (cnt l 1), .int .i64 (cnt l 2), .int .i64 (cnt l 3), .int .i64 (cnt l 4), .int .i64 (cnt l 5)])
    {g cap : Nat} {x : Value} (hrow1 : RowN w1 3 1 (some g) (.slice (some ⟨g, 0, none⟩) (l.length + 1) cap) (l.length + 1) (ints l ++ [.int .i64 1]))
    (hg1 : (w.alloc (.cells #[x] 3)).grownBy w1 row) (hat : row = some g ∨ g = w.heap.size + 1) :
    ∃ row', StAt (((w1.setCell ⟨a, 0, none⟩ (.slice (some ⟨g, 0, none⟩) (l.length + 1) cap)).drew).setCell ⟨a, 2, none⟩ (.int .i64 ((cnt l 1 : Int) + 1))) a row' (l ++ [1]) ∧
      Upd (own1 a row) w (((w1.setCell ⟨a, 0, none⟩ (.slice (some ⟨g, 0, none⟩) (l.length + 1) cap)).drew).setCell ⟨a, 2, none⟩ (.int .i64 ((cnt l 1 : Int) + 1))) ∧
      (∀ k, row' = some k → row = some k ∨ w.heap.size ≤ k) := by
  have hab := hb.lt
  have hga : g ≠ a := by
    rcases hat with e | e
    · intro e2; subst e2; exact h.ne e
    · omega
  have hb1 : Blk w1 a 93 _ := (hb.alloc _).grown hg1 (fun e => h.ne e.symm)
  have hr1 : Row w1 3 (some g) (.slice (some ⟨g, 0, none⟩) (l.length + 1) cap) (ints (l ++ [1])) := by
    have := hrow1.to1
    simpa [ints] using this
  have hu : Upd (own1 a row) w w1 := ((Upd.refl _ _).alloc _).grown hg1 (fun k hk => .inl (.inr hk))
  have hb2 := (hb1.set_ 0 (.slice (some ⟨g, 0, none⟩) (l.length + 1) cap)).drew.set_ 2 (.int .i64 ((cnt l 1 : Int) + 1))
  refine ⟨some g, ⟨⟨.slice (some ⟨g, 0, none⟩) (l.length + 1) cap, ?_, ?_⟩, ?_, ?_, ?_⟩, ?_, ?_⟩
  · simpa [cnt_snoc] using hb2
  · exact hr1.upd (S := fun k => k = a) ((((Upd.refl (fun k => k = a) w1).setCell (p := ⟨a, 0, none⟩) (.inl rfl) _).drew).setCell (p := ⟨a, 2, none⟩) (.inl rfl) _) (fun k hk e => hga (by injection hk with hk; omega))
  · exact fun e => hga (by injection e)
  · intro x hx
    rcases List.mem_append.1 hx with hx | hx
    · exact h.rng x hx
    · simp at hx; omega
  · simp; omega
  · exact (hu.setCell (.inl (.inl rfl)) _).drew.setCell (.inl (.inl rfl)) _
  · intro k hk
    injection hk with hk
    subst hk
    rcases hat with e | e
    · exact .inl e
    · right; omega
set_option maxRecDepth 100000 in
theorem spawn_c {w : World} {a : Nat} {row : Option Nat} {l : List Int} (h : StAt w a row l) (hl : l.length < 1024) :
    Calls Try.prog 53 #[.pointer (some ⟨a, 0, none⟩)] w fun e w' => e = .returned (.tuple #[.int .i64 l.length, .int .i64 0]) ∧
      ∃ row', StAt w' a row' (l ++ [1]) ∧ Upd (own1 a row) w w' ∧ (∀ k, row' = some k → row = some k ∨ w.heap.size ≤ k) := by
  obtain ⟨v, hb, hr⟩ := h.blk
  obtain ⟨i0, hi, hz0, hz1, hz2⟩ := info_parts Try.int_info
  have hlen : (ints l).length = l.length := by simp [ints]
  have c0 : w.cell? ⟨a, 0, none⟩ = some v := hb.cell 0
  have hab := hb.lt
  have hc1 := cnt_le l 1
  have hform : (v = .slice none 0 0 ∧ l.length = 0) ∨ ∃ g cap, v = .slice (some ⟨g, 0, none⟩) l.length cap := by
    rcases hr.form with ⟨h1, h2, _⟩ | ⟨g, cap, h1, _⟩
    · exact .inl ⟨h1, by rw [← hlen, h2]; rfl⟩
    · exact .inr ⟨g, cap, by rw [h1, hlen]⟩
  have Hr := Lib.hid hr
  have Hb := Lib.hid hb
  have Hlen := Lib.hid hlen
  clear hr hb hlen
  rcases hform with ⟨rfl, hl0⟩ | ⟨g, cap, rfl⟩
  · have Hl0 := Lib.hid hl0
    clear hl0
    go_enter Try.func53, Try.ntmps53
    go_wp2_with (at_builtin; refine wpList_append_rowN rfl (.tmp 18) (.tmp 19) 44 rfl 3 i0 (.int .i64 0) 1 8 Try.underlying44 hi hz0 hz1 hz2 rfl (by decide) _ rfl row (ints l).length (ints l) (Hr.out.alloc _).toN ⟨w.heap.size, 0, none⟩ 1 1 [.int .i64 1] rfl rfl (news_one _ _ _) (oneCell_one rfl) (by omega) ?c3 ?c4 ?_)
    case c3 => rw [Hlen.out]; unfold maxLen; omega
    case c4 => rw [Hlen.out]; omega
    rw [Hlen.out]
    intro g cap w1 hrow1 hg1 hat hlt
    have hb1 : Blk w1 a 93 _ := (Hb.out.alloc _).grown hg1 (fun e => h.ne e.symm)
    have c0 : w1.cell? ⟨a, 0, none⟩ = some _ := hb1.cell 0
    have f0 := hb1.frozen 0
    have c2 : w1.cell? ⟨a, 2, none⟩ = some (.int .i64 (cnt l 1)) := hb1.cell 2
    have f2 := hb1.frozen 2
    clear hb1
    go_wp2
    refine wp_still_tail 9 (by kernel_rfl) (by kernel_rfl) ?_
    simp only [List.take_succ_cons, List.take_zero, List.drop_succ_cons, List.drop_zero]
    repeat still_step
    refine wpStill_nil ?_
    go_wp2
    go_goals
    go_ret2
    exact ⟨by simp, spawn_fin h hl Hb.out hrow1 hg1 hat⟩
  · skip
    go_enter Try.func53, Try.ntmps53
    go_wp2_with (at_builtin; refine wpList_append_rowN rfl (.tmp 18) (.tmp 19) 44 rfl 3 i0 (.int .i64 0) 1 8 Try.underlying44 hi hz0 hz1 hz2 rfl (by decide) _ rfl row (ints l).length (ints l) (Hr.out.alloc _).toN ⟨w.heap.size, 0, none⟩ 1 1 [.int .i64 1] rfl rfl (news_one _ _ _) (oneCell_one rfl) (by omega) ?c3 ?c4 ?_)
    case c3 => rw [Hlen.out]; unfold maxLen; omega
    case c4 => rw [Hlen.out]; omega
    rw [Hlen.out]
    intro g' cap' w1 hrow1 hg1 hat hlt
    have hb1 : Blk w1 a 93 _ := (Hb.out.alloc _).grown hg1 (fun e => h.ne e.symm)
    have c0 : w1.cell? ⟨a, 0, none⟩ = some _ := hb1.cell 0
    have f0 := hb1.frozen 0
    have c2 : w1.cell? ⟨a, 2, none⟩ = some (.int .i64 (cnt l 1)) := hb1.cell 2
    have f2 := hb1.frozen 2
    clear hb1
    go_wp2
    refine wp_still_tail 9 (by kernel_rfl) (by kernel_rfl) ?_
    simp only [List.take_succ_cons, List.take_zero, List.drop_succ_cons, List.drop_zero]
    repeat still_step
    refine wpStill_nil ?_
    go_wp2
    go_goals
    go_ret2
    exact ⟨by simp, spawn_fin h hl Hb.out hrow1 hg1 hat⟩

end Go.Proofs.Ytndldoamadmphaa
