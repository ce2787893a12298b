/- Contracts of package timer: Push, Pop, Len of the heap. -/
import Derived.Test.YtgamaaeippdomaaTimer2
import Derived.Deep.RegionLaw
namespace Go.Proofs.Ytgamaaeippdomaa
open Go.RowKit

theorem step_append_rowN {P : Program} {w : World} {ops : Array Oper} {o : Oper} {a : Act} {K : Act → World → Prop} {Q : Exit → Act → World → Prop} {E : Prop} (hgd : o.guard = none) (s x : Operand) (t : TypeId)
    (ho : o.op = .call { callee := .builtin .append, args := #[s, x], argTypes := #[t, t] })
    (e : TypeId) (i : TypeInfo) (z : Value) (size bytes : Nat) (ht : P.underlying t = some (.slice e)) (hi : P.info? e = some i) (hz : i.zero = some z)
    (hsize : i.size = size) (hby : i.bytes = bytes) (hzs : z.cells.size = size) (hsz : 0 < size)
    (v : Value) (hs : a.eval s = v) (row : Option Nat) (n : Nat) (xs : List Value) (hrow : RowN w e size row v n xs)
    (ad : Addr) (m c : Nat) (news : List Value) (hx : a.eval x = .slice (some ad) m c) (hl : news.length = m * size) (hnews : ∀ j u, news[j]? = some u → w.cell? (ad.add j) = some u) (h1 : ∀ u ∈ news, u.oneCell' = true)
    (hm : 0 < n + m) (h63 : n + m ≤ maxLen) (hbytes : (n + m) * bytes ≤ 140737488355328)
    (h : ∀ g cap w', RowN w' e size (some g) (.slice (some ⟨g, 0, none⟩) (n + m) cap) (n + m) (xs ++ news) → w.grownBy w' row → (row = some g ∨ g = w.heap.size) → g < w'.heap.size →
      K (a.put o.dst (.slice (some ⟨g, 0, none⟩) (n + m) cap)) w') : if Region.wanted o (yielded ops a.tmps) = true then Oper.wp P o a w K Q else E := by
  have hw : Region.wanted o (yielded ops a.tmps) = true := by simp [Region.wanted, hgd]
  rw [if_pos hw]
  obtain ⟨hown, hrow⟩ := hrow
  obtain ⟨v', w', hr, h2, h3, h4, h5⟩ := run_append_own_at (P := P) w 0 t o.type e i z size bytes ht hi hz hsize hby hzs hsz v n xs hown ad m c news hl hnews h1 h63 hbytes (Nat.zero_le _)
  unfold Oper.wp execOp
  simp only [ho, resolve, invoke, builtin, Sem.run_bind, Sem.run_pure, Result.andThen_ok, List.map_toArray, List.map_cons, List.map_nil, hs, hx, hr]
  rcases h2.2 with ⟨_, h0⟩ | ⟨g, cap, cur, rfl, _, hh, _⟩
  · omega
  · refine (h g cap w' ⟨h2, rfl⟩ (hrow ▸ h3) ?_ (Array.getElem?_eq_some_iff.1 hh).1)
    simp only [Value.ownBlock] at h5
    rcases h5 with h5 | h5
    · left; rw [← hrow]; exact h5.symm
    · right; injection h5

/-- The heap in memory: the slice lies in the Timers' first cell. -/
structure HAt (w : World) (t : Nat) (row : Option Nat) (v : Value) (l : List Sl) (made : Int) : Prop where
  blk : Blk w t 53 #[v, .int .i64 made]
  row : SlAt w row v l
theorem HAt.ne {w : World} {t : Nat} {row : Option Nat} {v : Value} {l : List Sl} {made : Int} (h : HAt w t row v l made) : row ≠ some t := by
  intro e
  rcases h.row.form with ⟨_, _, e'⟩ | ⟨g, cap, cur, _, e', _, _, hb, _⟩
  · rw [e] at e'; cases e'
  · rw [e] at e'
    injection e' with e'
    subst e'
    exact absurd (h.blk.inj hb).1 (by decide)

theorem slLen_c (v : Value) (n : Nat) (w : World) (hv : (v = .slice none 0 0 ∧ n = 0) ∨ ∃ ad cap, v = .slice (some ad) n cap) :
    Calls Try.prog 69 #[v] w fun e w' => e = .returned (.int .i64 n) ∧ w = w' := by
  rcases hv with ⟨rfl, rfl⟩ | ⟨ad, cap, rfl⟩
  · go_enter Try.func69, Try.ntmps69
    go_wp2
    go_ret
    exact ⟨rfl, rfl⟩
  · go_enter Try.func69, Try.ntmps69
    go_wp2
    go_ret
    exact ⟨rfl, rfl⟩

theorem news_three (w : World) (a b c : Value) (t : TypeId) : ∀ (j : Nat) (x : Value), [a, b, c][j]? = some x → (w.alloc (.cells #[a, b, c] t)).cell? ((⟨w.heap.size, 0, none⟩ : Addr).add j) = some x := by
  intro j x hj
  match j, hj with
  | 0, hj => simp at hj; subst hj; simp [Addr.add]
  | 1, hj => simp at hj; subst hj; simp [Addr.add]
  | 2, hj => simp at hj; subst hj; simp [Addr.add]
theorem oneCell_three (a b c : Int) : ∀ x ∈ [Value.int .i64 a, .int .i64 b, .int .i64 c], x.oneCell' = true := by
  intro x hx
  simp at hx
  rcases hx with rfl | rfl | rfl <;> rfl
theorem slPush_cells {w w1 : World} {t : Nat} {row : Option Nat} {v : Value} {l : List Sl} {made : Int} (h : HAt w t row v l made) {o : Obj} (hg : (w.alloc o).drew.grownBy w1 row) :
    w1.cell? ⟨t, 0, none⟩ = some v ∧ w1.frozen? ⟨t, 0, none⟩ = false := by
  have hb1 : Blk w1 t 53 _ := (h.blk.alloc _).drew.grown hg (fun e => h.ne e.symm)
  exact ⟨hb1.cell 0, hb1.frozen 0⟩

theorem cells3_snoc (l : List Sl) (s : Sl) : cells3 (l ++ [s]) = cells3 l ++ [.int .i64 s.when, .int .i64 s.g, .int .i64 s.seq] := by
  unfold cells3
  rw [List.flatMap_append]
  rfl
theorem slPush_fin {w w1 : World} {t : Nat} {row : Option Nat} {v : Value} {l : List Sl} {made : Int} (h : HAt w t row v l made) {o : Obj} {s : Sl} {g cap : Nat}
    (hrow1 : RowN w1 57 3 (some g) (.slice (some ⟨g, 0, none⟩) (l.length + 1) cap) (l.length + 1) (cells3 l ++ [.int .i64 s.when, .int .i64 s.g, .int .i64 s.seq]))
    (hg : (w.alloc o).drew.grownBy w1 row) (hat : row = some g ∨ g = (w.alloc o).drew.heap.size) :
    ∃ row' v', HAt (w1.setCell ⟨t, 0, none⟩ (.slice (some ⟨g, 0, none⟩) (l.length + 1) cap)) t row' v' (l ++ [s]) made ∧
      Upd (fun k => k = t ∨ row = some k) w (w1.setCell ⟨t, 0, none⟩ (.slice (some ⟨g, 0, none⟩) (l.length + 1) cap)) ∧ (∀ k, row' = some k → row = some k ∨ w.heap.size ≤ k) := by
  have hb1 : Blk w1 t 53 _ := (h.blk.alloc o).drew.grown hg (fun e => h.ne e.symm)
  have htl := h.blk.lt
  have hat' : row = some g ∨ w.heap.size ≤ g := by
    rcases hat with e | e
    · exact .inl e
    · right; rw [e]; simp
  have hgt : g ≠ t := by
    rcases hat' with e | e
    · intro e2; subst e2; exact h.ne e
    · omega
  refine ⟨some g, .slice (some ⟨g, 0, none⟩) (l.length + 1) cap, ⟨?_, ?_⟩, ?_, ?_⟩
  · exact hb1.set_ 0 _
  · unfold SlAt
    rw [cells3_snoc, List.length_append]
    exact hrow1.upd (S := fun k => k = t) ((Upd.refl (fun k => k = t) w1).setCell (p := ⟨t, 0, none⟩) (.inl rfl) _) (fun k hk e => hgt (by injection hk with hk; omega))
  · have hu : Upd (fun k => k = t ∨ row = some k) w w1 := ((Upd.refl _ _).alloc o).drew.grown hg (fun k hk => .inl (.inr hk))
    exact hu.setCell (p := ⟨t, 0, none⟩) (.inl (.inl rfl)) _
  · intro k hk
    injection hk with hk
    subst hk
    exact hat'

set_option maxRecDepth 100000 in
set_option maxHeartbeats 1000000 in
theorem slPush_c {w : World} {t : Nat} {row : Option Nat} {v : Value} {l : List Sl} {made : Int} (h : HAt w t row v l made) (hl : l.length < 1000000) (s : Sl) :
    Calls Try.prog 73 #[.pointer (some ⟨t, 0, none⟩), .iface 57 s.v] w fun e w' => e = .returned (.tuple #[]) ∧
      ∃ row' v', HAt w' t row' v' (l ++ [s]) made ∧ Upd (fun k => k = t ∨ row = some k) w w' ∧ (∀ k, row' = some k → row = some k ∨ w.heap.size ≤ k) := by
  have c0 : w.cell? ⟨t, 0, none⟩ = some v := h.blk.cell 0
  have f0 := h.blk.frozen 0
  have ht := h.blk.lt
  obtain ⟨i0, hi, hz0, hz1, hz2⟩ := info_parts (show Option.map (fun i => (i.zero, i.size, i.bytes)) (Try.prog.info? 57) = some (some (.agg #[.int .i64 0, .int .i64 0, .int .i64 0]), 3, 24) from by kernel_rfl)
  have H := Lib.hid h
  have hta : ∀ W, Sem.run Try.prog (Instr.typeAssert (.iface 57 (.agg #[.int .i64 s.when, .int .i64 s.g, .int .i64 s.seq])) 20 57 false) W = .ok (.agg #[.int .i64 s.when, .int .i64 s.g, .int .i64 s.seq]) W := fun _ => by kernel_rfl
  unfold Sl.v
  go_enter Try.func73, Try.ntmps73
  go_wp2_with fail
  go_region_law (refine step_append_rowN rfl (.tmp 7) (.tmp 10) 51 rfl 57 i0 (.agg #[.int .i64 0, .int .i64 0, .int .i64 0]) 3 24 Try.underlying51 hi hz0 hz1 hz2 rfl (by decide) v rfl row l.length (cells3 l) (SlAt.drew (H.out.row.alloc _)) ⟨w.heap.size, 0, none⟩ 1 1 [.int .i64 s.when, .int .i64 s.g, .int .i64 s.seq] rfl rfl (news_three _ _ _ _ _) (oneCell_three _ _ _) (by omega) (by unfold maxLen; omega) (by omega) ?_; intro g cap w1 hrow1 hg1 hat hlt; obtain ⟨c1, f1⟩ := slPush_cells H.out hg1)
  all_goals go_end0
  all_goals exact ⟨rfl, slPush_fin H.out hrow1 hg1 hat⟩

theorem RowN.take {w : World} {e : TypeId} {size : Nat} {g n cap : Nat} {xs : List Value} (h : RowN w e size (some g) (.slice (some ⟨g, 0, none⟩) n cap) n xs) {k : Nat} (hk : k ≤ n) :
    RowN w e size (some g) (.slice (some ⟨g, 0, none⟩) k cap) k (xs.take (k * size)) := by
  have h1 := h.1.1
  rcases h.1.2 with ⟨hv, h0⟩ | ⟨g', cap', cur, hv, hg, hh, hc, hm, hs, ht⟩
  · cases hv
  · injection hv with e1 _ e2
    injection e1 with e1
    injection e1 with e1
    subst e1 e2
    refine ⟨⟨?_, .inr ⟨g, cap, cur, rfl, hg, hh, by omega, hm, hs, ?_⟩⟩, rfl⟩
    · rw [List.length_take, h1]
      exact Nat.min_eq_left (Nat.mul_le_mul_right _ hk)
    · rw [← ht, List.take_take, Nat.min_eq_left (Nat.mul_le_mul_right _ hk)]

set_option maxRecDepth 100000 in
set_option maxHeartbeats 1000000 in
theorem slPop_c {w : World} {t g cap : Nat} {l : List Sl} {s : Sl} {made : Int} (h : HAt w t (some g) (.slice (some ⟨g, 0, none⟩) (l.length + 1) cap) (l ++ [s]) made) :
    Calls Try.prog 72 #[.pointer (some ⟨t, 0, none⟩)] w fun e w' => e = .returned (.iface 57 s.v) ∧
      HAt w' t (some g) (.slice (some ⟨g, 0, none⟩) l.length cap) l made ∧ Upd (fun k => k = t) w w' := by
  have c0 : w.cell? ⟨t, 0, none⟩ = some (.slice (some ⟨g, 0, none⟩) (l.length + 1) cap) := h.blk.cell 0
  have f0 := h.blk.frozen 0
  have ht := h.blk.lt
  have hgt : g ≠ t := fun e => h.ne (by rw [e])
  obtain ⟨g', cap', hv, _, a0, a1, a2, hf, hgl⟩ := h.row.cells (i := l.length) (s := s) (by simp)
  injection hv with e1 e0 e2
  injection e1 with e1
  injection e1 with e1
  clear e0
  subst e1 e2
  have hcap : l.length + 1 ≤ cap ∧ cap ≤ maxLen := by
    rcases h.row.form with ⟨hv, _⟩ | ⟨g', cap', cur, hv, _, hc, hm, _⟩
    · cases hv
    · injection hv with _ _ e2
      subst e2
      rw [List.length_append] at hc
      exact ⟨hc, hm⟩
  obtain ⟨hc1, hc2⟩ := hcap
  unfold maxLen at hc2
  have H := Lib.hid h
  have hw : IntKind.i64.wrap (((l.length + 1 : Nat) : Int) - 1) = (l.length : Int) := by rw [IntKind.wrap_i64]; omega
  have hlI : ((l.length : Nat) : Int) < ((l.length + 1 : Nat) : Int) := by omega
  unfold Sl.v
  clear h hf
  go_enter Try.func72, Try.ntmps72
  go_wp2
  go_ret
  refine ⟨rfl, ⟨((H.out.blk.set_ 0 _).alloc _), ?_⟩, ((Upd.refl _ _).setCell (S := fun k => k = t) (p := ⟨t, 0, none⟩) (.inl rfl) _).alloc _⟩
  have h1 : RowN w 57 3 (some g) (.slice (some ⟨g, 0, none⟩) (l.length + 1) cap) (l.length + 1) (cells3 l ++ [.int .i64 s.when, .int .i64 s.g, .int .i64 s.seq]) := by
    have h2 := H.out.row
    unfold SlAt at h2
    rw [cells3_snoc, List.length_append] at h2
    exact h2
  have h3 := h1.take (k := l.length) (by omega)
  rw [List.take_append_of_le_length (by rw [cells3_len]; omega), List.take_of_length_le (by rw [cells3_len]; omega)] at h3
  exact (h3.upd ((Upd.refl (fun k => k = t) _).setCell (p := ⟨t, 0, none⟩) (.inl rfl) _) (fun k hk e => hgt (by injection hk with hk; omega))).alloc _
end Go.Proofs.Ytgamaaeippdomaa
