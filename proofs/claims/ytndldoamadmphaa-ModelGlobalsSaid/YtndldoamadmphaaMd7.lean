/- model.spawn. -/
import Derived.Test.YtndldoamadmphaaMd6
namespace Go.Proofs.Ytndldoamadmphaa
open Go.RowKit

/-- What a call leaves of a model. -/
def MPost (w : World) (c : Col) (m : Nat) (Y : Lay) (M : Mo) (w' : World) (M' : Mo) : Prop :=
  ∃ c' Y', ModelAt w' c' m Y' M' ∧ Upd (fun k => (c k).1 < 7) w w' ∧ Keep c c' w ∧ (∀ k, k < M.gs.length → Y'.gp k = Y.gp k) ∧ (∀ k, w.heap.size ≤ k → k < w'.heap.size → (c' k).1 < 7 ∨ (c' k).1 = 7)
theorem MPost.refl {w : World} {c : Col} {m : Nat} {Y : Lay} {M : Mo} (h : ModelAt w c m Y M) : MPost w c m Y M w M := ⟨c, Y, h, Upd.refl _ _, Keep.refl _ _, fun _ _ => rfl, fun k hk _ => .inr (h.free k hk)⟩
/-- What a first step left, bundled. -/
def Left (w : World) (c : Col) (m : Nat) (Y : Lay) (M : Mo) (w1 : World) (c1 : Col) (Y1 : Lay) (M1 : Mo) : Prop :=
  ModelAt w1 c1 m Y1 M1 ∧ Upd (fun k => (c k).1 < 7) w w1 ∧ Keep c c1 w ∧ (∀ k, k < M.gs.length → Y1.gp k = Y.gp k) ∧ (∀ k, w.heap.size ≤ k → k < w1.heap.size → (c1 k).1 < 7 ∨ (c1 k).1 = 7)
theorem MPost.left {w w1 : World} {c : Col} {m : Nat} {Y : Lay} {M M1 : Mo} (h : MPost w c m Y M w1 M1) : ∃ c1 Y1, Left w c m Y M w1 c1 Y1 M1 := h
theorem Left.then {w w1 w2 : World} {c c1 : Col} {m : Nat} {Y Y1 : Lay} {M M1 M2 : Mo} (h : Left w c m Y M w1 c1 Y1 M1) (hl : M.gs.length ≤ M1.gs.length) (h2 : MPost w1 c1 m Y1 M1 w2 M2) : MPost w c m Y M w2 M2 := by
  obtain ⟨a1, a2, a3, a4, a5⟩ := h
  obtain ⟨c2, Y2, b1, b2, b3, b4, b5⟩ := h2
  refine ⟨c2, Y2, b1, a2.trans b2 (fun k hk => ?_), a3.trans a2 b3, fun k hk => (b4 k (by omega)).trans (a4 k hk), fun k hk hk2 => ?_⟩
  · by_cases hkw : k < w.heap.size
    · rw [a3 k hkw] at hk; exact .inl hk
    · exact .inr (by omega)
  · by_cases hkw : k < w1.heap.size
    · rw [b3 k hkw]; exact a5 k hk hkw
    · exact b5 k (by omega) hk2
theorem MPost.of_frame {w w' : World} {c : Col} {m : Nat} {Y : Lay} {M : Mo} (h : ModelAt w c m Y M) (hu : Upd (fun _ => False) w w') : MPost w c m Y M w' M :=
  ⟨c, Y, h.frame hu (fun _ e => e.elim), hu.mono (fun _ e => e.elim), Keep.refl _ _, fun _ _ => rfl, fun k hk _ => .inr (h.free k hk)⟩

section
variable {w w' W : World} {c : Col} {m : Nat} {Y : Lay} {M : Mo}
theorem st_fin {row row' : Option Nat} {st' : List Int} (h : ModelAt w c m Y M) (h1 : StAt w Y.sa row M.st) (hct : c Y.sa = (1, 0)) (hcr : ∀ k, row = some k → c k = (1, 1))
    (k1 : StAt w' Y.sa row' st') (k2 : Upd (own1 Y.sa row) w w') (k3 : ∀ k, row' = some k → row = some k ∨ w.heap.size ≤ k) : MPost w c m Y M w' { M with st := st' } := by
  have hS : ∀ k, own1 Y.sa row k → (c k).1 = 1 := by
    rintro k (rfl | e)
    · rw [hct]
    · rw [hcr k e]
  have hKeep : Keep c (recR c w.heap.size w'.heap.size (1, 1)) w := recR_keep (Nat.le_refl _)
  refine ⟨recR c w.heap.size w'.heap.size (1, 1), Y, h.but1 k2 hKeep (recR_free h.free k2.size) (fun k e => .inl (hS k e)) ⟨row', k1, ?_, fun k hk => ?_⟩, k2.mono (fun k e => .inl ?_), hKeep, fun _ _ => rfl, recR_new (by decide) h.free⟩
  · rw [hKeep _ (h1.lt _ (.inl rfl)), hct]
  · refine recR_at (k1.lt k (.inr hk)) ?_
    rcases k3 k hk with e | e
    · exact .inl (hcr k e)
    · exact .inr e
  · show (c k).1 < 7
    rw [hS k e]; omega
theorem st_move {row : Option Nat} {st' : List Int} (h : ModelAt w c m Y M) (h1 : StAt w Y.sa row M.st) (hct : c Y.sa = (1, 0)) (hcr : ∀ k, row = some k → c k = (1, 1))
    (k1 : StAt w' Y.sa row st') (k2 : Upd (own1 Y.sa row) w w') : MPost w c m Y M w' { M with st := st' } := st_fin h h1 hct hcr k1 k2 (fun _ hk => .inl hk)
/-- states.Move of a model. -/
theorem mmove_c (h : ModelAt w c m Y M) (g to : Int) : Calls Try.prog 39 #[.pointer (some ⟨Y.sa, 0, none⟩), .int .i64 g, .int .i64 to] w fun e w' => e = .returned (.int .i64 (mvRes M.st g to)) ∧ MPost w c m Y M w' { M with st := mvL M.st g to } := by
  obtain ⟨row, h1, h2, h3⟩ := h.st
  exact (move_c h1 g to).mono fun e w' ⟨he, k1, k2⟩ => ⟨he, st_move h h1 h2 h3 k1 k2⟩

theorem gs_push {row : Option Nat} {g2 cap nb : Nat} {x : Gor} (h : ModelAt w c m Y M) (h1 : Row w 74 row Y.gv ((List.range M.gs.length).map fun i => .pointer (some ⟨Y.gp i, 0, none⟩))) (hcr : ∀ k, row = some k → c k = (2, 0))
    (hm : Blk w' m 72 ((modV Y M).setIfInBounds 3 (.slice (some ⟨g2, 0, none⟩) (M.gs.length + 1) cap))) (hrow : Row w' 74 (some g2) (.slice (some ⟨g2, 0, none⟩) (M.gs.length + 1) cap) (((List.range M.gs.length).map fun i => .pointer (some ⟨Y.gp i, 0, none⟩)) ++ [.pointer (some ⟨nb, 0, none⟩)]))
    (hx : Blk w' nb 77 (gorV x)) (hnb : w.heap.size ≤ nb) (hg2 : row = some g2 ∨ w.heap.size ≤ g2) (hne : g2 ≠ nb) (hu : Upd (fun k => k = m ∨ row = some k) w w') :
    MPost w c m Y M w' { M with gs := M.gs ++ [x] } := by
  have hS : ∀ k, (k = m ∨ row = some k) → (c k).1 = 0 ∨ (c k).1 = 2 := by
    rintro k (rfl | e)
    · rw [h.cm]; exact .inl rfl
    · rw [hcr k e]; exact .inr rfl
  have hn : ∀ j, j ≠ 0 → j ≠ 2 → ∀ k, (k = m ∨ row = some k) → (c k).1 ≠ j := fun j h2 h7 k e => by rcases hS k e with e | e <;> rw [e] <;> omega
  obtain ⟨c', hc'⟩ : ∃ c' : Col, c' = fun k => if w.heap.size ≤ k ∧ k < w'.heap.size then (if k = nb then (2, M.gs.length + 1) else (2, 0)) else c k := ⟨_, rfl⟩
  have hKeep : Keep c c' w := by
    intro k hk
    rw [hc']
    simp only
    rw [if_neg (by omega)]
  have hfree : ∀ k, w'.heap.size ≤ k → (c' k).1 = 7 := by
    intro k hk
    rw [hc']
    simp only
    rw [if_neg (by omega)]
    exact h.free k (Nat.le_trans hu.size hk)
  have hnbl := hx.lt
  have hg2l := hrow.lt g2 rfl
  have hml := h.blk.lt
  refine ⟨c', { Y with gv := .slice (some ⟨g2, 0, none⟩) (M.gs.length + 1) cap, gp := upN Y.gp M.gs.length nb }, ⟨?_, by rw [hKeep _ hml]; exact h.cm, h.prog.frame hu hKeep (hn 8 (by decide) (by decide)), h.st.frame hu hKeep (hn 1 (by decide) (by decide)), ?_,
    h.gl.frame hu hKeep (hn 3 (by decide) (by decide)), h.sl.frame hu hKeep (hn 4 (by decide) (by decide)), h.tm.frame hu hKeep (hn 5 (by decide) (by decide)), h.wt.frame hu hKeep (hn 6 (by decide) (by decide)), hfree⟩,
    hu.mono (fun k e => .inl ?_), hKeep, fun k hk => upN_other _ _ (by omega), fun k hk hk2 => ?_⟩
  · have e : (modV Y M).setIfInBounds 3 (.slice (some ⟨g2, 0, none⟩) (M.gs.length + 1) cap) = modV { Y with gv := .slice (some ⟨g2, 0, none⟩) (M.gs.length + 1) cap, gp := upN Y.gp M.gs.length nb } { M with gs := M.gs ++ [x] } := by simp [modV]
    rw [← e]
    exact hm
  · refine ⟨⟨some g2, ?_, fun k hk => ?_⟩, fun i y hi => ?_⟩
    · have e : ((List.range (M.gs ++ [x]).length).map fun i => Value.pointer (some ⟨upN Y.gp M.gs.length nb i, 0, none⟩)) = ((List.range M.gs.length).map fun i => .pointer (some ⟨Y.gp i, 0, none⟩)) ++ [.pointer (some ⟨nb, 0, none⟩)] := by
        rw [List.length_append, List.length_singleton, List.range_succ, List.map_append]
        congr 1
        · apply List.map_congr_left
          intro i hi
          rw [List.mem_range] at hi
          rw [upN_other _ _ (by omega)]
        · simp [upN]
      show Row w' _ (some g2) (.slice (some ⟨g2, 0, none⟩) (M.gs.length + 1) cap) ((List.range (M.gs ++ [x]).length).map fun i => Value.pointer (some ⟨upN Y.gp M.gs.length nb i, 0, none⟩))
      rw [e]
      exact hrow
    · injection hk with hk
      subst hk
      rcases hg2 with e | e
      · rw [hKeep _ (h1.lt g2 e)]
        exact hcr g2 e
      · rw [hc']
        simp only
        rw [if_pos ⟨e, hg2l⟩, if_neg hne]
    · show Blk w' (upN Y.gp M.gs.length nb i) 77 (gorV y) ∧ c' (upN Y.gp M.gs.length nb i) = (2, i + 1)
      rw [List.getElem?_append] at hi
      by_cases hil : i < M.gs.length
      · rw [if_pos hil] at hi
        obtain ⟨b1, b2⟩ := h.gs.g i y hi
        rw [upN_other _ _ (by omega)]
        refine ⟨b1.upd hu (fun e => ?_), by rw [hKeep _ b1.lt]; exact b2⟩
        rcases e with e | e
        · rw [e, h.cm] at b2; cases b2
        · rw [hcr _ e] at b2; cases b2
      · rw [if_neg hil] at hi
        have hi2 : i = M.gs.length := by
          have := (List.getElem?_eq_some_iff.1 hi).1
          simp at this
          omega
        subst hi2
        simp at hi
        subst hi
        rw [upN_same]
        refine ⟨hx, ?_⟩
        rw [hc']
        simp [hnb, hnbl]
  · show (c k).1 < 7
    rcases hS k e with e | e <;> rw [e] <;> omega
  · rw [hc']
    simp only
    rw [if_pos ⟨hk, hk2⟩]
    split
    · exact .inl (show 2 < 7 by omega)
    · exact .inl (show 2 < 7 by omega)
def gor0 (f v : Int) : Gor := ⟨f, 0, 0, upN (fun _ => 0) 0 v⟩
def spawnM (M : Mo) (f v : Int) : Mo := { M with st := M.st ++ [1], gs := M.gs ++ [gor0 f v] }
set_option maxRecDepth 100000 in
set_option maxHeartbeats 2000000 in
theorem mspawn_full (h : ModelAt w c m Y M) (hl : 1024 ≤ M.st.length) (f v : Int) :
    Calls Try.prog 38 #[.pointer (some ⟨m, 0, none⟩), .int .i64 f, .int .i64 v] w fun e w' => e = .returned (.int .i64 (-1)) ∧ w = w' := by
  have c2 := h.c2
  obtain ⟨row, h1, _⟩ := h.st
  have Hc := Lib.hid (spawn_full h1 hl)
  clear h h1
  go_enter Try.func38, Try.ntmps38
  go_wp2_with fail
  refine Hc.out.mono ?_
  rintro e w1 ⟨rfl, rfl⟩
  go_wp2_with fail
  go_ret
  exact ⟨rfl, rfl⟩
end
end Go.Proofs.Ytndldoamadmphaa
