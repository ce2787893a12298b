/- Contracts of package timer: Push, Pop, Len of the heap. -/
import Derived.Test.YtndldoamadmphaaTimer2
import Derived.Deep.RegionLaw
namespace Go.Proofs.Ytndldoamadmphaa
open Go.RowKit

/-- The heap in memory: the slice lies in the Timers' first cell. -/
structure HAt (w : World) (t : Nat) (row : Option Nat) (v : Value) (l : List Sl) (made : Int) : Prop where
  blk : Blk w t 97 #[v, .int .i64 made]
  row : SlAt w row v l
theorem HAt.ne {w : World} {t : Nat} {row : Option Nat} {v : Value} {l : List Sl} {made : Int} (h : HAt w t row v l made) : row ≠ some t := by
  intro e
  rcases h.row.form with ⟨_, _, e'⟩ | ⟨g, cap, cur, _, e', _, _, hb, _⟩
  · rw [e] at e'; cases e'
  · rw [e] at e'
    injection e' with e'
    subst e'
    exact absurd (h.blk.inj hb).1 (by decide)

theorem slLen_c (v : Value) (n : Nat) (w : World) (hv : (v = .slice none 0 0 ∧ n = 0) ∨ ∃ ad cap, v = .slice (some ad) n cap) :
    Calls Try.prog 106 #[v] w fun e w' => e = .returned (.int .i64 n) ∧ w = w' := by
  rcases hv with ⟨rfl, rfl⟩ | ⟨ad, cap, rfl⟩
  · go_enter Try.func106, Try.ntmps106
    go_wp2
    go_ret
    exact ⟨rfl, rfl⟩
  · go_enter Try.func106, Try.ntmps106
    go_wp2
    go_ret
    exact ⟨rfl, rfl⟩

theorem news_three (w : World) (a b c : Value) (t : TypeId) : ∀ (j : Nat) (x : Value), [a, b, c][j]? = some x → (w.alloc (.cells #[a, b, c] t)).cell? ((⟨w.heap.size, 0, none⟩ : Addr).add j) = some x := by
  intro j x hj
  match j, hj with
  | 0, hj => simp at hj; subst hj; simp [Addr.add]
  | 1, hj => simp at hj; subst hj; simp [Addr.add]
  | 2, hj => simp at hj; subst hj; simp [Addr.add]
theorem oneCell_three (a b c : Int) : ∀ x ∈ [Value.int .i64 a, .int .i64 b, .int .i64 c], x.oneCell' = true := by
  intro x hx
  simp at hx
  rcases hx with rfl | rfl | rfl <;> rfl
theorem slPush_cells {w w1 : World} {t : Nat} {row : Option Nat} {v : Value} {l : List Sl} {made : Int} (h : HAt w t row v l made) {o : Obj} (hg : (w.alloc o).drew.grownBy w1 row) :
    w1.cell? ⟨t, 0, none⟩ = some v ∧ w1.frozen? ⟨t, 0, none⟩ = false := by
  have hb1 : Blk w1 t 97 _ := (h.blk.alloc _).drew.grown hg (fun e => h.ne e.symm)
  exact ⟨hb1.cell 0, hb1.frozen 0⟩

theorem cells3_snoc (l : List Sl) (s : Sl) : cells3 (l ++ [s]) = cells3 l ++ [.int .i64 s.when, .int .i64 s.g, .int .i64 s.seq] := by
  unfold cells3
  rw [List.flatMap_append]
  rfl
theorem slPush_fin {w w1 : World} {t : Nat} {row : Option Nat} {v : Value} {l : List Sl} {made : Int} (h : HAt w t row v l made) {o : Obj} {s : Sl} {g cap : Nat}
    (hrow1 : RowN w1 106 3 (some g) (.slice (some ⟨g, 0, none⟩) (l.length + 1) cap) (l.length + 1) (cells3 l ++ [.int .i64 s.when, .int .i64 s.g, .int .i64 s.seq]))
    (hg : (w.alloc o).drew.grownBy w1 row) (hat : row = some g ∨ g = (w.alloc o).drew.heap.size) :
    ∃ row' v', HAt (w1.setCell ⟨t, 0, none⟩ (.slice (some ⟨g, 0, none⟩) (l.length + 1) cap)) t row' v' (l ++ [s]) made ∧
      Upd (fun k => k = t ∨ row = some k) w (w1.setCell ⟨t, 0, none⟩ (.slice (some ⟨g, 0, none⟩) (l.length + 1) cap)) ∧ (∀ k, row' = some k → row = some k ∨ w.heap.size ≤ k) := by
  have hb1 : Blk w1 t 97 _ := (h.blk.alloc o).drew.grown hg (fun e => h.ne e.symm)
  have htl := h.blk.lt
  have hat' : row = some g ∨ w.heap.size ≤ g := by
    rcases hat with e | e
    · exact .inl e
    · right; rw [e]; simp
  have hgt : g ≠ t := by
    rcases hat' with e | e
    · intro e2; subst e2; exact h.ne e
    · omega
  refine ⟨some g, .slice (some ⟨g, 0, none⟩) (l.length + 1) cap, ⟨?_, ?_⟩, ?_, ?_⟩
  · exact hb1.set_ 0 _
  · unfold SlAt
    rw [cells3_snoc, List.length_append]
    exact hrow1.upd (S := fun k => k = t) ((Upd.refl (fun k => k = t) w1).setCell (p := ⟨t, 0, none⟩) (.inl rfl) _) (fun k hk e => hgt (by injection hk with hk; omega))
  · have hu : Upd (fun k => k = t ∨ row = some k) w w1 := ((Upd.refl _ _).alloc o).drew.grown hg (fun k hk => .inl (.inr hk))
    exact hu.setCell (p := ⟨t, 0, none⟩) (.inl (.inl rfl)) _
  · intro k hk
    injection hk with hk
    subst hk
    exact hat'

set_option maxRecDepth 100000 in
set_option maxHeartbeats 1000000 in
theorem slPush_c {w : World} {t : Nat} {row : Option Nat} {v : Value} {l : List Sl} {made : Int} (h : HAt w t row v l made) (hl : l.length < 1000000) (s : Sl) :
    Calls Try.prog 116 #[.pointer (some ⟨t, 0, none⟩), .iface 106 s.v] w fun e w' => e = .returned (.tuple #[]) ∧
      ∃ row' v', HAt w' t row' v' (l ++ [s]) made ∧ Upd (fun k => k = t ∨ row = some k) w w' ∧ (∀ k, row' = some k → row = some k ∨ w.heap.size ≤ k) := by
  have c0 : w.cell? ⟨t, 0, none⟩ = some v := h.blk.cell 0
  have f0 := h.blk.frozen 0
  have ht := h.blk.lt
  obtain ⟨i0, hi, hz0, hz1, hz2⟩ := info_parts (show Option.map (fun i => (i.zero, i.size, i.bytes)) (Try.prog.info? 106) = some (some (.agg #[.int .i64 0, .int .i64 0, .int .i64 0]), 3, 24) from by kernel_rfl)
  have H := Lib.hid h
  have hta : ∀ W, Sem.run Try.prog (Instr.typeAssert (.iface 106 (.agg #[.int .i64 s.when, .int .i64 s.g, .int .i64 s.seq])) 20 106 false) W = .ok (.agg #[.int .i64 s.when, .int .i64 s.g, .int .i64 s.seq]) W := fun _ => by kernel_rfl
  unfold Sl.v
  go_enter Try.func116, Try.ntmps116
  go_wp2_with fail
  go_region_law (refine step_append_rowN rfl (.tmp 7) (.tmp 10) 95 rfl 106 i0 (.agg #[.int .i64 0, .int .i64 0, .int .i64 0]) 3 24 Try.underlying95 hi hz0 hz1 hz2 rfl (by decide) v rfl row l.length (cells3 l) (SlAt.drew (H.out.row.alloc _)) ⟨w.heap.size, 0, none⟩ 1 1 [.int .i64 s.when, .int .i64 s.g, .int .i64 s.seq] rfl rfl (news_three _ _ _ _ _) (oneCell_three _ _ _) (by omega) (by unfold maxLen; omega) (by omega) ?_; intro g cap w1 hrow1 hg1 hat hlt; obtain ⟨c1, f1⟩ := slPush_cells H.out hg1)
  all_goals go_end0
  all_goals exact ⟨rfl, slPush_fin H.out hrow1 hg1 hat⟩

theorem RowN.take {w : World} {e : TypeId} {size : Nat} {g n cap : Nat} {xs : List Value} (h : RowN w e size (some g) (.slice (some ⟨g, 0, none⟩) n cap) n xs) {k : Nat} (hk : k ≤ n) :
    RowN w e size (some g) (.slice (some ⟨g, 0, none⟩) k cap) k (xs.take (k * size)) := by
  have h1 := h.1.1
  rcases h.1.2 with ⟨hv, h0⟩ | ⟨g', cap', cur, hv, hg, hh, hc, hm, hs, ht⟩
  · cases hv
  · injection hv with e1 _ e2
    injection e1 with e1
    injection e1 with e1
    subst e1 e2
    refine ⟨⟨?_, .inr ⟨g, cap, cur, rfl, hg, hh, by omega, hm, hs, ?_⟩⟩, rfl⟩
    · rw [List.length_take, h1]
      exact Nat.min_eq_left (Nat.mul_le_mul_right _ hk)
    · rw [← ht, List.take_take, Nat.min_eq_left (Nat.mul_le_mul_right _ hk)]

set_option maxRecDepth 100000 in
set_option maxHeartbeats 1000000 in
theorem slPop_c {w : World} {t g cap : Nat} {l : List Sl} {s : Sl} {made : Int} (h : HAt w t (some g) (.slice (some ⟨g, 0, none⟩) (l.length + 1) cap) (l ++ [s]) made) :
    Calls Try.prog 115 #[.pointer (some ⟨t, 0, none⟩)] w fun e w' => e = .returned (.iface 106 s.v) ∧
      HAt w' t (some g) (.slice (some ⟨g, 0, none⟩) l.length cap) l made ∧ Upd (fun k => k = t) w w' := by
  have c0 : w.cell? ⟨t, 0, none⟩ = some (.slice (some ⟨g, 0, none⟩) (l.length + 1) cap) := h.blk.cell 0
  have f0 := h.blk.frozen 0
  have ht := h.blk.lt
  have hgt : g ≠ t := fun e => h.ne (by rw [e])
  obtain ⟨g', cap', hv, _, a0, a1, a2, hf, hgl⟩ := h.row.cells (i := l.length) (s := s) (by simp)
  injection hv with e1 e0 e2
  injection e1 with e1
  injection e1 with e1
  clear e0
  subst e1 e2
  have hcap : l.length + 1 ≤ cap ∧ cap ≤ maxLen := by
    rcases h.row.form with ⟨hv, _⟩ | ⟨g', cap', cur, hv, _, hc, hm, _⟩
    · cases hv
    · injection hv with _ _ e2
      subst e2
      rw [List.length_append] at hc
      exact ⟨hc, hm⟩
  obtain ⟨hc1, hc2⟩ := hcap
  unfold maxLen at hc2
  have H := Lib.hid h
  have hw : IntKind.i64.wrap (((l.length + 1 : Nat) : Int) - 1) = (l.length : Int) := by rw [IntKind.wrap_i64]; omega
  have hlI : ((l.length : Nat) : Int) < ((l.length + 1 : Nat) : Int) := by omega
  unfold Sl.v
  clear h hf
  go_enter Try.func115, Try.ntmps115
  go_wp2
  go_ret
  refine ⟨rfl, ⟨((H.out.blk.set_ 0 _).alloc _), ?_⟩, ((Upd.refl _ _).setCell (S := fun k => k = t) (p := ⟨t, 0, none⟩) (.inl rfl) _).alloc _⟩
  have h1 : RowN w 106 3 (some g) (.slice (some ⟨g, 0, none⟩) (l.length + 1) cap) (l.length + 1) (cells3 l ++ [.int .i64 s.when, .int .i64 s.g, .int .i64 s.seq]) := by
    have h2 := H.out.row
    unfold SlAt at h2
    rw [cells3_snoc, List.length_append] at h2
    exact h2
  have h3 := h1.take (k := l.length) (by omega)
  rw [List.take_append_of_le_length (by rw [cells3_len]; omega), List.take_of_length_le (by rw [cells3_len]; omega)] at h3
  exact (h3.upd ((Upd.refl (fun k => k = t) _).setCell (p := ⟨t, 0, none⟩) (.inl rfl) _) (fun k hk e => hgt (by injection hk with hk; omega))).alloc _
end Go.Proofs.Ytndldoamadmphaa
