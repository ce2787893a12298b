/- told: the program tells what the document says of a few. -/
import Derived.Test.YtndldoamadmphaaReach
namespace Go.Proofs.Ytndldoamadmphaa
open Go.RowKit
theorem mo0_good {globs : Int} {funcs : List (List In)} (h : progOK globs funcs) : Good (mo0 globs funcs) 0 := by
  obtain ⟨⟨h1, h2⟩, ⟨h3, h4⟩, h5⟩ := h
  have hl : (zeros globs.toNat).length = globs.toNat := by simp [zeros]
  refine ⟨rfl, by simp [mo0], h2, ?_, fun f l hf => ?_, fun g x hx => by simp [mo0] at hx, fun v hv => ?_, fun l hl => ?_, rfl, by simp [mo0], by simp [mo0], by simp [mo0], fun i hi => by simp [mo0], by simp [mo0]⟩
  · show (zeros globs.toNat).length ≤ 32
    rw [hl]; omega
  · obtain ⟨⟨c1, c2⟩, c3⟩ := h5 l (List.mem_of_getElem? hf)
    refine ⟨c2, fun i hi => ?_⟩
    have := c3 i hi
    show instOK (((zeros globs.toNat).length : Nat) : Int) funcs.length l.length i
    rw [hl, Int.toNat_of_nonneg h3]
    exact this
  · simp only [mo0, zeros, List.mem_replicate] at hv
    simp only [mo0, List.length_singleton]
    omega
  · simp only [mo0, List.mem_singleton] at hl
    subst hl
    exact ⟨by simp, fun v hv => by cases hv⟩
theorem newM_good {globs : Int} {funcs : List (List In)} (h : progOK globs funcs) : Good (newM globs funcs) 0 := by
  refine (mo0_good h).spawn (by simp [mo0]) ⟨Int.le_refl 0, ?_⟩ ⟨Int.le_refl 0, ?_⟩
  · have := h.1.1
    show (0 : Int) < funcs.length
    omega
  · simp [mo0]
/-- All that there is belongs to the program. -/
def c8 (w : World) : Col := fun k => if k < w.heap.size then (8, 0) else (7, 0)
theorem c8_lt {w : World} {k : Nat} (h : k < w.heap.size) : c8 w k = (8, 0) := if_pos h
theorem c8_ge (w : World) (k : Nat) : 7 ≤ (c8 w k).1 := by
  unfold c8
  split
  · decide
  · decide
theorem c8_free {w : World} {k : Nat} (h : w.heap.size ≤ k) : (c8 w k).1 = 7 := by
  unfold c8
  rw [if_neg (by omega)]
theorem c8_keep {w w' : World} (h : w.heap.size ≤ w'.heap.size) : Keep (c8 w) (c8 w') w := fun k hk => by rw [c8_lt hk, c8_lt (by omega)]
def CodeIn (w : World) (v : Value) (l : List In) : Prop := CodeAt w (c8 w) v l
def ProgIn (w : World) (v : Value) (P : List (List In)) : Prop := ProgAt w (c8 w) v P
theorem CodeIn.upd {w w' : World} {v : Value} {l : List In} (h : CodeIn w v l) (hu : Upd (fun _ => False) w w') : CodeIn w' v l := CodeAt.frame h hu (c8_keep hu.size) (fun _ e => e.elim)
theorem ProgIn.upd {w w' : World} {v : Value} {P : List (List In)} (h : ProgIn w v P) (hu : Upd (fun _ => False) w w') : ProgIn w' v P := ProgAt.frame h hu (c8_keep hu.size) (fun _ e => e.elim)
def insV (l : List In) : List Value := l.flatMap (fun i => [.int .i64 i.op, .int .i64 i.a, .int .i64 i.b, .int .i64 i.c])
theorem insV_at : ∀ (l : List In) (i : Nat) (x : In), l[i]? = some x → (insV l)[i * 4]? = some (.int .i64 x.op) ∧ (insV l)[i * 4 + 1]? = some (.int .i64 x.a) ∧ (insV l)[i * 4 + 2]? = some (.int .i64 x.b) ∧ (insV l)[i * 4 + 3]? = some (.int .i64 x.c)
  | [], i, x, h => by simp at h
  | a :: l, 0, x, h => by
    simp at h
    subst h
    exact ⟨rfl, rfl, rfl, rfl⟩
  | a :: l, i + 1, x, h => by
    obtain ⟨h1, h2, h3, h4⟩ := insV_at l i x (by simpa using h)
    have e : ∀ j, (insV (a :: l))[(i + 1) * 4 + j]? = (insV l)[i * 4 + j]? := by
      intro j
      unfold insV
      rw [List.flatMap_cons, List.getElem?_append_right (by simp; omega)]
      congr 1
      simp
      omega
    have e0 := e 0
    simp only [Nat.add_zero] at e0
    exact ⟨e0.trans h1, (e 1).trans h2, (e 2).trans h3, (e 3).trans h4⟩
theorem insV_len (l : List In) : (insV l).length = l.length * 4 := by
  induction l with
  | nil => rfl
  | cons a l ih => unfold insV at *; rw [List.flatMap_cons, List.length_append, ih]; simp; omega
/-- A function's text out of a list of one's own. -/
theorem CodeIn.of_row {w : World} {row : Option Nat} {v : Value} {l : List In} (h : RowN w 40 4 row v l.length (insV l)) : CodeIn w v l := by
  rcases h.1.2 with ⟨hv, h0⟩ | ⟨g, cap, cur, hv, _, hh, hc, hm, hs, ht⟩
  · refine ⟨none, 0, by rw [hv, h0], by rw [h0]; exact Nat.zero_le _, fun h1 => by omega⟩
  · refine ⟨some ⟨g, 0, none⟩, cap, hv, by omega, fun _ => ⟨g, 0, rfl, (Array.getElem?_eq_some_iff.1 hh).1, by rw [c8_lt (Array.getElem?_eq_some_iff.1 hh).1], fun i x hi => ?_⟩⟩
    have hcell : ∀ j u, (insV l)[j]? = some u → w.cell? ⟨g, j, none⟩ = some u := by
      intro j u hj
      rw [cell_of_row w g j cur _ (0, 0) hh, ← Array.getElem?_toList]
      have hlt := (List.getElem?_eq_some_iff.1 hj).1
      rw [insV_len] at hlt
      have h7 : (cur.toList.take (l.length * 4))[j]? = (insV l)[j]? := by rw [ht]
      rw [List.getElem?_take, if_pos (by omega), hj] at h7
      exact h7
    obtain ⟨h1, h2, h3, h4⟩ := insV_at l i x hi
    simp only [Nat.zero_add]
    exact ⟨hcell _ _ h1, hcell _ _ h2, hcell _ _ h3, hcell _ _ h4⟩
theorem CodeIn.of_blk {w : World} {g : Nat} {l : List In} (h : Blk w g 40 (insV l).toArray) (hm : l.length ≤ maxLen) : CodeIn w (.slice (some ⟨g, 0, none⟩) l.length l.length) l := by
  refine ⟨some ⟨g, 0, none⟩, l.length, rfl, hm, fun _ => ⟨g, 0, rfl, h.lt, by rw [c8_lt h.lt], fun i x hi => ?_⟩⟩
  obtain ⟨h1, h2, h3, h4⟩ := insV_at l i x hi
  simp only [Nat.zero_add]
  refine ⟨?_, ?_, ?_, ?_⟩
  · rw [h.cell, List.getElem?_toArray]; exact h1
  · rw [h.cell, List.getElem?_toArray]; exact h2
  · rw [h.cell, List.getElem?_toArray]; exact h3
  · rw [h.cell, List.getElem?_toArray]; exact h4
theorem ProgIn.of_blk {w : World} {g : Nat} {vs : List Value} {P : List (List In)} (h : Blk w g 42 vs.toArray) (hl : vs.length = P.length) (hm : P.length ≤ maxLen) (hc : ∀ (i : Nat) v l, vs[i]? = some v → P[i]? = some l → CodeIn w v l) : ProgIn w (.slice (some ⟨g, 0, none⟩) P.length P.length) P := by
  refine ⟨some ⟨g, 0, none⟩, P.length, rfl, hm, fun _ => ⟨g, 0, rfl, h.lt, by rw [c8_lt h.lt], fun i l hi => ?_⟩⟩
  have hlt := (List.getElem?_eq_some_iff.1 hi).1
  have hv : vs[i]? = some vs[i] := List.getElem?_eq_getElem (by omega)
  refine ⟨vs[i], ?_, hc i _ l hv hi⟩
  rw [Nat.zero_add, h.cell, List.getElem?_toArray]
  exact hv
/-- A model in memory, n steps old; the blocks K and W are none of its own; of these W may be written. -/
def ModIn (K W : Nat → Prop) (w : World) (m : Nat) (M : Mo) (n : Nat) : Prop :=
  ∃ c Y, ModelAt w c m Y M ∧ Good M n ∧ (∀ k, K k → k < w.heap.size ∧ 7 ≤ (c k).1) ∧ ∀ k, W k → k < w.heap.size ∧ (c k).1 = 7
section
variable {K W : Nat → Prop} {w w' : World} {m n : Nat} {M M' : Mo}
theorem ModIn.good (h : ModIn K W w m M n) : Good M n := by
  obtain ⟨c, Y, _, h2, _⟩ := h
  exact h2
/-- What one writes of one's own, and what one makes. -/
theorem ModIn.own (h : ModIn K W w m M n) {S : Nat → Prop} (hu : Upd S w w') (hS : ∀ k, S k → W k) : ModIn K (fun k => W k ∨ (w.heap.size ≤ k ∧ k < w'.heap.size)) w' m M n := by
  obtain ⟨c, Y, h1, h2, h3, h4⟩ := h
  refine ⟨c, Y, h1.frame hu (fun k hk => (h4 k (hS k hk)).2), h2, fun k hk => ⟨Nat.lt_of_lt_of_le (h3 k hk).1 hu.size, (h3 k hk).2⟩, fun k hk => ?_⟩
  rcases hk with hk | ⟨hk, hk2⟩
  · exact ⟨Nat.lt_of_lt_of_le (h4 k hk).1 hu.size, (h4 k hk).2⟩
  · exact ⟨hk2, h1.free k hk⟩
theorem ModIn.mono (h : ModIn K W w m M n) {W' : Nat → Prop} (hW : ∀ k, W' k → W k) : ModIn K W' w m M n := by
  obtain ⟨c, Y, h1, h2, h3, h4⟩ := h
  exact ⟨c, Y, h1, h2, h3, fun k hk => h4 k (hW k hk)⟩
theorem ModIn.up (h : ModIn K W w m M n) {S : Nat → Prop} (hu : Upd S w w') (hS : ∀ k, S k → W k) : ModIn K W w' m M n := (h.own hu hS).mono (fun _ hk => .inl hk)
theorem ModIn.post {c : Col} {Y : Lay} (h3 : ∀ k, K k → k < w.heap.size ∧ 7 ≤ (c k).1) (h4 : ∀ k, W k → k < w.heap.size ∧ (c k).1 = 7) (hp : MPost w c m Y M w' M') (hg : Good M' n) :
    ModIn K W w' m M' n ∧ Upd (fun k => ¬ K k ∧ ¬ W k) w w' := by
  obtain ⟨c', Y', a1, a2, a3, a4, a5⟩ := hp
  refine ⟨⟨c', Y', a1, hg, fun k hk => ?_, fun k hk => ?_⟩, a2.mono (fun k hk => .inl ⟨fun e => ?_, fun e => ?_⟩)⟩
  · obtain ⟨q1, q2⟩ := h3 k hk
    exact ⟨Nat.lt_of_lt_of_le q1 a2.size, by rw [a3 k q1]; exact q2⟩
  · obtain ⟨q1, q2⟩ := h4 k hk
    exact ⟨Nat.lt_of_lt_of_le q1 a2.size, by rw [a3 k q1]; exact q2⟩
  · have := (h3 k e).2; omega
  · have := (h4 k e).2; omega
theorem do_i (h : ModIn K W w m M n) (hn : n < 700000) (g : Int) : Calls Try.prog 16 #[.pointer (some ⟨m, 0, none⟩), .int .i64 g] w fun e w' =>
    e = .returned (.tuple #[(stepM M g).2.1.val, .int .i64 (stepM M g).2.2]) ∧ ModIn K W w' m (stepM M g).1 (n + 2) ∧ Upd (fun k => ¬ K k ∧ ¬ W k) w w' := by
  obtain ⟨c, Y, h1, h2, h3, h4⟩ := h
  refine (do_c h1 h2 hn g).mono fun e w' ⟨he, hp⟩ => ?_
  obtain ⟨q1, q2⟩ := ModIn.post h3 h4 hp (h2.step g)
  exact ⟨he, q1, q2⟩
theorem reach_i (h : ModIn K W w m M n) (hn : n < 700000) : Calls Try.prog 19 #[.pointer (some ⟨m, 0, none⟩)] w fun e w' => ∃ v, e = .returned v ∧ NewInts w w' v (reachL M) ∧ Upd (fun _ => False) w w' := by
  obtain ⟨c, Y, h1, h2, _⟩ := h
  exact reach_c h1 h2 hn
theorem state_i (h : ModIn K W w m M n) (g : Int) : Calls Try.prog 18 #[.pointer (some ⟨m, 0, none⟩), .int .i64 g] w fun e w' => e = .returned (.int .i64 (stateM M g)) ∧ w = w' := by
  obtain ⟨c, Y, h1, h2, _⟩ := h
  exact mstate_c h1 g
theorem ids_i (h : ModIn K W w m M n) : Calls Try.prog 20 #[.pointer (some ⟨m, 0, none⟩)] w fun e w' => e = .returned (.int .i64 ((M.sl.length : Int) - 1)) ∧ w = w' := by
  obtain ⟨c, Y, h1, h2, _⟩ := h
  exact ids_c h1 h2.pos
theorem gs_i (h : ModIn K W w m M n) : Calls Try.prog 26 #[.pointer (some ⟨m, 0, none⟩)] w fun e w' => e = .returned (.int .i64 M.gs.length) ∧ w = w' := by
  obtain ⟨c, Y, h1, h2, _⟩ := h
  exact gs_c h1
theorem new_i {pv : Value} {globs : Int} {funcs : List (List In)} (h : ProgIn w pv funcs) (hp : progOK globs funcs) :
    Calls Try.prog 15 #[.agg #[.int .i64 globs, pv]] w fun e w' => ∃ m, e = .returned (.tuple #[.pointer (some ⟨m, 0, none⟩), .int .i64 0]) ∧ ModIn (fun k => k < w.heap.size) (fun _ => False) w' m (newM globs funcs) 0 ∧ Upd (fun _ => False) w w' := by
  refine (new_yes h hp (c8_ge w) (fun k hk => c8_free hk)).mono ?_
  rintro e w' ⟨v, rfl, m, c', Y, rfl, a1, a2, a3, a4⟩
  refine ⟨m, rfl, ⟨c', Y, a1, newM_good hp, fun k hk => ⟨Nat.lt_of_lt_of_le hk a2.size, ?_⟩, fun k hk => hk.elim⟩, a2⟩
  rw [a3 k hk, c8_lt hk]
  decide
end
end Go.Proofs.Ytndldoamadmphaa
