/- told: the program tells what the document says of a few. told, build. -/
import Derived.Test.YtndldoamadmphaaReach
namespace Go.Proofs.Ytndldoamadmphaa
open Go.RowKit
theorem mo0_good {globs : Int} {funcs : List (List In)} (h : progOK globs funcs) : Good (mo0 globs funcs) 0 := by
  obtain ⟨⟨h1, h2⟩, ⟨h3, h4⟩, h5⟩ := h
  have hl : (zeros globs.toNat).length = globs.toNat := by simp [zeros]
  refine ⟨rfl, by simp [mo0], h2, ?_, fun f l hf => ?_, fun g x hx => by simp [mo0] at hx, fun v hv => ?_, fun l hl => ?_, rfl, by simp [mo0], by simp [mo0], by simp [mo0], fun i hi => by simp [mo0], by simp [mo0]⟩
  · show (zeros globs.toNat).length ≤ 32
    rw [hl]; omega
  · obtain ⟨⟨c1, c2⟩, c3⟩ := h5 l (List.mem_of_getElem? hf)
    refine ⟨c2, fun i hi => ?_⟩
    have := c3 i hi
    show instOK (((zeros globs.toNat).length : Nat) : Int) funcs.length l.length i
    rw [hl, Int.toNat_of_nonneg h3]
    exact this
  · simp only [mo0, zeros, List.mem_replicate] at hv
    simp only [mo0, List.length_singleton]
    omega
  · simp only [mo0, List.mem_singleton] at hl
    subst hl
    exact ⟨by simp, fun v hv => by cases hv⟩
theorem newM_good {globs : Int} {funcs : List (List In)} (h : progOK globs funcs) : Good (newM globs funcs) 0 := by
  refine (mo0_good h).spawn (by simp [mo0]) ⟨Int.le_refl 0, ?_⟩ ⟨Int.le_refl 0, ?_⟩
  · have := h.1.1
    show (0 : Int) < funcs.length
    omega
  · simp [mo0]
/-- All that there is belongs to the program. -/
def c8 (w : World) : Col := fun k => if k < w.heap.size then (8, 0) else (7, 0)
theorem c8_lt {w : World} {k : Nat} (h : k < w.heap.size) : c8 w k = (8, 0) := if_pos h
theorem c8_ge (w : World) (k : Nat) : 7 ≤ (c8 w k).1 := by
  unfold c8
  split
  · decide
  · decide
theorem c8_free {w : World} {k : Nat} (h : w.heap.size ≤ k) : (c8 w k).1 = 7 := by
  unfold c8
  rw [if_neg (by omega)]
theorem c8_keep {w w' : World} (h : w.heap.size ≤ w'.heap.size) : Keep (c8 w) (c8 w') w := fun k hk => by rw [c8_lt hk, c8_lt (by omega)]
def CodeIn (w : World) (v : Value) (l : List In) : Prop := CodeAt w (c8 w) v l
def ProgIn (w : World) (v : Value) (P : List (List In)) : Prop := ProgAt w (c8 w) v P
theorem CodeIn.upd {w w' : World} {v : Value} {l : List In} (h : CodeIn w v l) (hu : Upd (fun _ => False) w w') : CodeIn w' v l := CodeAt.frame h hu (c8_keep hu.size) (fun _ e => e.elim)
theorem ProgIn.upd {w w' : World} {v : Value} {P : List (List In)} (h : ProgIn w v P) (hu : Upd (fun _ => False) w w') : ProgIn w' v P := ProgAt.frame h hu (c8_keep hu.size) (fun _ e => e.elim)
def insV (l : List In) : List Value := l.flatMap (fun i => [.int .i64 i.op, .int .i64 i.a, .int .i64 i.b, .int .i64 i.c])
theorem insV_at : ∀ (l : List In) (i : Nat) (x : In), l[i]? = some x → (insV l)[i * 4]? = some (.int .i64 x.op) ∧ (insV l)[i * 4 + 1]? = some (.int .i64 x.a) ∧ (insV l)[i * 4 + 2]? = some (.int .i64 x.b) ∧ (insV l)[i * 4 + 3]? = some (.int .i64 x.c)
  | [], i, x, h => by simp at h
  | a :: l, 0, x, h => by
    simp at h
    subst h
    exact ⟨rfl, rfl, rfl, rfl⟩
  | a :: l, i + 1, x, h => by
    obtain ⟨h1, h2, h3, h4⟩ := insV_at l i x (by simpa using h)
    have e : ∀ j, (insV (a :: l))[(i + 1) * 4 + j]? = (insV l)[i * 4 + j]? := by
      intro j
      unfold insV
      rw [List.flatMap_cons, List.getElem?_append_right (by simp; omega)]
      congr 1
      simp
      omega
    have e0 := e 0
    simp only [Nat.add_zero] at e0
    exact ⟨e0.trans h1, (e 1).trans h2, (e 2).trans h3, (e 3).trans h4⟩
theorem insV_len (l : List In) : (insV l).length = l.length * 4 := by
  induction l with
  | nil => rfl
  | cons a l ih => unfold insV at *; rw [List.flatMap_cons, List.length_append, ih]; simp; omega
/-- A function's text out of a list of one's own. -/
theorem CodeIn.of_row {w : World} {row : Option Nat} {v : Value} {l : List In} (h : RowN w 40 4 row v l.length (insV l)) : CodeIn w v l := by
  rcases h.1.2 with ⟨hv, h0⟩ | ⟨g, cap, cur, hv, _, hh, hc, hm, hs, ht⟩
  · refine ⟨none, 0, by rw [hv, h0], by rw [h0]; exact Nat.zero_le _, fun h1 => by omega⟩
  · refine ⟨some ⟨g, 0, none⟩, cap, hv, by omega, fun _ => ⟨g, 0, rfl, (Array.getElem?_eq_some_iff.1 hh).1, by rw [c8_lt (Array.getElem?_eq_some_iff.1 hh).1], fun i x hi => ?_⟩⟩
    have hcell : ∀ j u, (insV l)[j]? = some u → w.cell? ⟨g, j, none⟩ = some u := by
      intro j u hj
      rw [cell_of_row w g j cur _ (0, 0) hh, ← Array.getElem?_toList]
      have hlt := (List.getElem?_eq_some_iff.1 hj).1
      rw [insV_len] at hlt
      have h7 : (cur.toList.take (l.length * 4))[j]? = (insV l)[j]? := by rw [ht]
      rw [List.getElem?_take, if_pos (by omega), hj] at h7
      exact h7
    obtain ⟨h1, h2, h3, h4⟩ := insV_at l i x hi
    simp only [Nat.zero_add]
    exact ⟨hcell _ _ h1, hcell _ _ h2, hcell _ _ h3, hcell _ _ h4⟩
theorem CodeIn.of_blk {w : World} {g : Nat} {l : List In} (h : Blk w g 40 (insV l).toArray) (hm : l.length ≤ maxLen) : CodeIn w (.slice (some ⟨g, 0, none⟩) l.length l.length) l := by
  refine ⟨some ⟨g, 0, none⟩, l.length, rfl, hm, fun _ => ⟨g, 0, rfl, h.lt, by rw [c8_lt h.lt], fun i x hi => ?_⟩⟩
  obtain ⟨h1, h2, h3, h4⟩ := insV_at l i x hi
  simp only [Nat.zero_add]
  refine ⟨?_, ?_, ?_, ?_⟩
  · rw [h.cell, List.getElem?_toArray]; exact h1
  · rw [h.cell, List.getElem?_toArray]; exact h2
  · rw [h.cell, List.getElem?_toArray]; exact h3
  · rw [h.cell, List.getElem?_toArray]; exact h4
theorem ProgIn.of_blk {w : World} {g : Nat} {vs : List Value} {P : List (List In)} (h : Blk w g 42 vs.toArray) (hl : vs.length = P.length) (hm : P.length ≤ maxLen) (hc : ∀ (i : Nat) v l, vs[i]? = some v → P[i]? = some l → CodeIn w v l) : ProgIn w (.slice (some ⟨g, 0, none⟩) P.length P.length) P := by
  refine ⟨some ⟨g, 0, none⟩, P.length, rfl, hm, fun _ => ⟨g, 0, rfl, h.lt, by rw [c8_lt h.lt], fun i l hi => ?_⟩⟩
  have hlt := (List.getElem?_eq_some_iff.1 hi).1
  have hv : vs[i]? = some vs[i] := List.getElem?_eq_getElem (by omega)
  refine ⟨vs[i], ?_, hc i _ l hv hi⟩
  rw [Nat.zero_add, h.cell, List.getElem?_toArray]
  exact hv
/-- A model in memory, n steps old; the blocks K and W are none of its own; of these W may be written. -/
def ModIn (K W : Nat → Prop) (w : World) (m : Nat) (M : Mo) (n : Nat) : Prop :=
  ∃ c Y, ModelAt w c m Y M ∧ Good M n ∧ (∀ k, K k → k < w.heap.size ∧ 7 ≤ (c k).1) ∧ ∀ k, W k → k < w.heap.size ∧ (c k).1 = 7
section
variable {K W : Nat → Prop} {w w' : World} {m n : Nat} {M M' : Mo}
theorem ModIn.good (h : ModIn K W w m M n) : Good M n := by
  obtain ⟨c, Y, _, h2, _⟩ := h
  exact h2
/-- What one writes of one's own, and what one makes. -/
theorem ModIn.own (h : ModIn K W w m M n) {S : Nat → Prop} (hu : Upd S w w') (hS : ∀ k, S k → W k) : ModIn K (fun k => W k ∨ (w.heap.size ≤ k ∧ k < w'.heap.size)) w' m M n := by
  obtain ⟨c, Y, h1, h2, h3, h4⟩ := h
  refine ⟨c, Y, h1.frame hu (fun k hk => (h4 k (hS k hk)).2), h2, fun k hk => ⟨Nat.lt_of_lt_of_le (h3 k hk).1 hu.size, (h3 k hk).2⟩, fun k hk => ?_⟩
  rcases hk with hk | ⟨hk, hk2⟩
  · exact ⟨Nat.lt_of_lt_of_le (h4 k hk).1 hu.size, (h4 k hk).2⟩
  · exact ⟨hk2, h1.free k hk⟩
theorem ModIn.mono (h : ModIn K W w m M n) {W' : Nat → Prop} (hW : ∀ k, W' k → W k) : ModIn K W' w m M n := by
  obtain ⟨c, Y, h1, h2, h3, h4⟩ := h
  exact ⟨c, Y, h1, h2, h3, fun k hk => h4 k (hW k hk)⟩
theorem ModIn.up (h : ModIn K W w m M n) {S : Nat → Prop} (hu : Upd S w w') (hS : ∀ k, S k → W k) : ModIn K W w' m M n := (h.own hu hS).mono (fun _ hk => .inl hk)
theorem ModIn.post {c : Col} {Y : Lay} (h3 : ∀ k, K k → k < w.heap.size ∧ 7 ≤ (c k).1) (h4 : ∀ k, W k → k < w.heap.size ∧ (c k).1 = 7) (hp : MPost w c m Y M w' M') (hg : Good M' n) :
    ModIn K W w' m M' n ∧ Upd (fun k => ¬ K k ∧ ¬ W k) w w' := by
  obtain ⟨c', Y', a1, a2, a3, a4, a5⟩ := hp
  refine ⟨⟨c', Y', a1, hg, fun k hk => ?_, fun k hk => ?_⟩, a2.mono (fun k hk => .inl ⟨fun e => ?_, fun e => ?_⟩)⟩
  · obtain ⟨q1, q2⟩ := h3 k hk
    exact ⟨Nat.lt_of_lt_of_le q1 a2.size, by rw [a3 k q1]; exact q2⟩
  · obtain ⟨q1, q2⟩ := h4 k hk
    exact ⟨Nat.lt_of_lt_of_le q1 a2.size, by rw [a3 k q1]; exact q2⟩
  · have := (h3 k e).2; omega
  · have := (h4 k e).2; omega
theorem do_i (h : ModIn K W w m M n) (hn : n < 700000) (g : Int) : Calls Try.prog 16 #[.pointer (some ⟨m, 0, none⟩), .int .i64 g] w fun e w' =>
    e = .returned (.tuple #[(stepM M g).2.1.val, .int .i64 (stepM M g).2.2]) ∧ ModIn K W w' m (stepM M g).1 (n + 2) ∧ Upd (fun k => ¬ K k ∧ ¬ W k) w w' := by
  obtain ⟨c, Y, h1, h2, h3, h4⟩ := h
  refine (do_c h1 h2 hn g).mono fun e w' ⟨he, hp⟩ => ?_
  obtain ⟨q1, q2⟩ := ModIn.post h3 h4 hp (h2.step g)
  exact ⟨he, q1, q2⟩
theorem reach_i (h : ModIn K W w m M n) (hn : n < 700000) : Calls Try.prog 19 #[.pointer (some ⟨m, 0, none⟩)] w fun e w' => ∃ v, e = .returned v ∧ NewInts w w' v (reachL M) ∧ Upd (fun _ => False) w w' := by
  obtain ⟨c, Y, h1, h2, _⟩ := h
  exact reach_c h1 h2 hn
theorem state_i (h : ModIn K W w m M n) (g : Int) : Calls Try.prog 18 #[.pointer (some ⟨m, 0, none⟩), .int .i64 g] w fun e w' => e = .returned (.int .i64 (stateM M g)) ∧ w = w' := by
  obtain ⟨c, Y, h1, h2, _⟩ := h
  exact mstate_c h1 g
theorem ids_i (h : ModIn K W w m M n) : Calls Try.prog 20 #[.pointer (some ⟨m, 0, none⟩)] w fun e w' => e = .returned (.int .i64 ((M.sl.length : Int) - 1)) ∧ w = w' := by
  obtain ⟨c, Y, h1, h2, _⟩ := h
  exact ids_c h1 h2.pos
theorem gs_i (h : ModIn K W w m M n) : Calls Try.prog 26 #[.pointer (some ⟨m, 0, none⟩)] w fun e w' => e = .returned (.int .i64 M.gs.length) ∧ w = w' := by
  obtain ⟨c, Y, h1, h2, _⟩ := h
  exact gs_c h1
theorem new_i {pv : Value} {globs : Int} {funcs : List (List In)} (h : ProgIn w pv funcs) (hp : progOK globs funcs) :
    Calls Try.prog 15 #[.agg #[.int .i64 globs, pv]] w fun e w' => ∃ m, e = .returned (.tuple #[.pointer (some ⟨m, 0, none⟩), .int .i64 0]) ∧ ModIn (fun k => k < w.heap.size) (fun _ => False) w' m (newM globs funcs) 0 ∧ Upd (fun _ => False) w w' := by
  refine (new_yes h hp (c8_ge w) (fun k hk => c8_free hk)).mono ?_
  rintro e w' ⟨v, rfl, m, c', Y, rfl, a1, a2, a3, a4⟩
  refine ⟨m, rfl, ⟨c', Y, a1, newM_good hp, fun k hk => ⟨Nat.lt_of_lt_of_le hk a2.size, ?_⟩, fun k hk => hk.elim⟩, a2⟩
  rw [a3 k hk, c8_lt hk]
  decide
end
end Go.Proofs.Ytndldoamadmphaa
namespace Go.Proofs.Ytndldoamadmphaa
open Go.RowKit
def p0 : List (List In) := [[⟨1, 1, 0, 0⟩]]
def m1 : Mo := (stepM (newM 0 p0) 0).1
def m2 : Mo := (stepM m1 0).1
def m3 : Mo := (stepM m2 0).1
theorem p0_ok : progOK 0 p0 := by
  refine ⟨by decide, by decide, fun l hl => ?_⟩
  have : l = [⟨1, 1, 0, 0⟩] := by simpa [p0] using hl
  subst this
  refine ⟨by decide, fun i hi => ?_⟩
  have : i = ⟨1, 1, 0, 0⟩ := by simpa using hi
  subst this
  exact of_decide_eq_true (by decide)
theorem s1 : (stepM (newM 0 p0) 0).2 = (⟨0, 0, 0, 1, 1, false⟩, 0) := by decide +kernel
theorem s2 : (stepM m1 0).2 = (⟨0, 0, 1, 0, 0, false⟩, 0) := by decide +kernel
theorem s3 : (stepM m2 0).2 = (⟨0, 0, 0, 0, 0, false⟩, 5) := by decide +kernel
theorem m3_state : stateM m3 0 = 5 := by decide +kernel
theorem m3_ids : m3.sl.length = 2 := by decide +kernel
theorem m3_roots : rootsL m3 = [] := by decide +kernel
theorem no_args (P : List (List In)) (w : World) (h : P = []) : ProgIn w (.slice none 0 0) P := by
  subst h
  exact ⟨none, 0, rfl, Nat.zero_le _, fun h => absurd h (by decide)⟩
theorem reachL_nil {M : Mo} (h : rootsL M = []) : reachL M = [] := by
  have hn : ∀ v, ¬ Rch M v := by
    intro v hv
    induction hv with
    | root v hv _ => rw [h] at hv; cases hv
    | slot _ _ _ _ _ ih => exact ih
  refine List.eq_nil_iff_forall_not_mem.2 fun v hv => ?_
  obtain ⟨k, _, _, hr⟩ := mem_reachL.1 hv
  exact hn _ hr
theorem eqc1 (w : World) : (binOp .eql 34 (.agg #[.int .i64 0, .int .i64 0, .int .i64 0, .int .i64 1, .int .i64 1, .bool false]) (.agg #[.int .i64 0, .int .i64 0, .int .i64 0, .int .i64 1, .int .i64 1, .bool false])).run Try.prog w = .ok (.bool true) w := by kernel_rfl
theorem eqc2 (w : World) : (binOp .eql 34 (.agg #[.int .i64 0, .int .i64 0, .int .i64 1, .int .i64 0, .int .i64 0, .bool false]) (.agg #[.int .i64 0, .int .i64 0, .int .i64 1, .int .i64 0, .int .i64 0, .bool false])).run Try.prog w = .ok (.bool true) w := by kernel_rfl
set_option maxRecDepth 100000 in
set_option maxHeartbeats 2000000 in
theorem told_c (w : World) : Calls Try.prog 14 #[] w fun e w' => e = .returned (.bool true) ∧ Upd (fun _ => False) w w' := by
  obtain ⟨W, hW⟩ : ∃ W, W = (w.alloc (.cells #[.int .i64 1, .int .i64 1, .int .i64 0, .int .i64 0] 40)).alloc (.cells #[.slice (some ⟨w.heap.size, 0, none⟩) 1 1] 42) := ⟨_, rfl⟩
  have b1 : Blk W w.heap.size 40 (insV [⟨1, 1, 0, 0⟩]).toArray := by rw [hW]; exact (Blk.new _ _ _).alloc _
  have b2 : Blk W (w.heap.size + 1) 42 [Value.slice (some ⟨w.heap.size, 0, none⟩) 1 1].toArray := by rw [hW]; exact Blk.new' _ _ _ (by simp)
  have hpr : ProgIn W (.slice (some ⟨w.heap.size + 1, 0, none⟩) 1 1) p0 := ProgIn.of_blk (P := p0) b2 rfl (by decide) (fun i v l hv hl => by
    rcases i with _ | i
    · injection hv with hv
      injection hl with hl
      subst hv
      subst hl
      exact CodeIn.of_blk b1 (by decide)
    · simp [p0] at hl)
  have hu0 : Upd (fun _ => False) w W := by rw [hW]; exact ((Upd.refl _ _).alloc _).alloc _
  have HPR := Lib.hid hpr
  have HU0 := Lib.hid hu0
  clear b1 b2 hpr hu0
  go_enter Try.func14, Try.ntmps14
  go_wp2_with fail
  rw [← hW]
  refine (new_i HPR.out p0_ok).mono ?_
  rintro e w1 ⟨m, rfl, hm, hu1⟩
  have HM := Lib.hid hm
  have HU1 := Lib.hid (HU0.out.tr hu1)
  clear hm hu1 hW
  go_wp2_with fail
  refine (new_no (c := c8 w1) (globs := 0) (funcs := []) (no_args [] w1 rfl) (fun h => absurd h.1.1 (by decide))).mono ?_
  rintro e w2 ⟨rfl, hu2⟩
  have hkw : ∀ k, ¬ (k < W.heap.size) → w.heap.size ≤ k := fun k hk => by have := HU0.out.size; omega
  have HKW := Lib.hid hkw
  have HM2 := Lib.hid (HM.out.up hu2 (fun _ e => e.elim))
  have HU2 := Lib.hid (HU1.out.tr hu2)
  clear hu2 hkw
  go_wp2_with fail
  refine (do_i HM2.out (by decide) 0).mono ?_
  rintro e w3 ⟨he, hm3, hu3⟩
  rw [s1] at he
  change e = .returned (.tuple #[.agg #[.int .i64 0, .int .i64 0, .int .i64 0, .int .i64 1, .int .i64 1, .bool false], .int .i64 0]) at he
  subst he
  change ModIn _ _ w3 m m1 _ at hm3
  obtain ⟨w4, hw4⟩ : ∃ w4, w4 = w3.alloc (.cells #[.int .i64 0, .int .i64 0, .int .i64 0, .int .i64 1, .int .i64 1, .bool false] 34) := ⟨_, rfl⟩
  have e4 : Upd (fun _ => False) w3 w4 := by rw [hw4]; exact Upd.allocF _
  have B1 := Lib.hid (show Blk w4 w3.heap.size 34 #[.int .i64 0, .int .i64 0, .int .i64 0, .int .i64 1, .int .i64 1, .bool false] by rw [hw4]; exact Blk.new _ _ _)
  have HM4 := Lib.hid (hm3.own e4 (fun _ e => e.elim))
  have HU4 := Lib.hid ((HU2.out.trans hu3 (fun k hk => .inr (HKW.out k hk.1))).tr e4)
  have z1 : w3.heap.size < w4.heap.size := B1.out.lt
  obtain ⟨x1, hx1⟩ : ∃ x1, x1 = w3.heap.size := ⟨_, rfl⟩
  rw [← hx1] at B1 HM4 z1
  clear hm3 hu3 e4
  go_wp2_with fail
  rw [← hw4, ← hx1]
  clear hw4 hx1
  refine (do_i HM4.out (by decide) 0).mono ?_
  rintro e w5 ⟨he, hm5, hu5⟩
  rw [s2] at he
  change e = .returned (.tuple #[.agg #[.int .i64 0, .int .i64 0, .int .i64 1, .int .i64 0, .int .i64 0, .bool false], .int .i64 0]) at he
  subst he
  change ModIn _ _ w5 m m2 _ at hm5
  have C1 := Lib.hid (B1.out.upd hu5 (fun e => e.2 (.inr ⟨Nat.le_refl _, z1⟩)))
  obtain ⟨w6, hw6⟩ : ∃ w6, w6 = w5.alloc (.cells #[.int .i64 0, .int .i64 0, .int .i64 1, .int .i64 0, .int .i64 0, .bool false] 34) := ⟨_, rfl⟩
  have e6 : Upd (fun _ => False) w5 w6 := by rw [hw6]; exact Upd.allocF _
  have B2 := Lib.hid (show Blk w6 w5.heap.size 34 #[.int .i64 0, .int .i64 0, .int .i64 1, .int .i64 0, .int .i64 0, .bool false] by rw [hw6]; exact Blk.new _ _ _)
  have D1 := Lib.hid (C1.out.updF e6)
  have HM6 := Lib.hid (hm5.own e6 (fun _ e => e.elim))
  have HU6 := Lib.hid ((HU4.out.trans hu5 (fun k hk => .inr (HKW.out k hk.1))).tr e6)
  have z2 : w5.heap.size < w6.heap.size := B2.out.lt
  obtain ⟨x2, hx2⟩ : ∃ x2, x2 = w5.heap.size := ⟨_, rfl⟩
  rw [← hx2] at B2 HM6 z2
  clear hm5 hu5 e6
  go_wp2_with fail
  rw [← hw6, ← hx2]
  clear hw6 hx2
  refine (do_i HM6.out (by decide) 0).mono ?_
  rintro e w7 ⟨he, hm7, hu7⟩
  rw [s3] at he
  change e = .returned (.tuple #[.agg #[.int .i64 0, .int .i64 0, .int .i64 0, .int .i64 0, .int .i64 0, .bool false], .int .i64 5]) at he
  subst he
  change ModIn _ _ w7 m m3 _ at hm7
  have E1 := Lib.hid (D1.out.upd hu7 (fun e => e.2 (.inl (.inr ⟨Nat.le_refl _, z1⟩))))
  have E2 := Lib.hid (B2.out.upd hu7 (fun e => e.2 (.inr ⟨Nat.le_refl _, z2⟩)))
  obtain ⟨w8, hw8⟩ : ∃ w8, w8 = w7.alloc (.cells #[.int .i64 0, .int .i64 0, .int .i64 0, .int .i64 0, .int .i64 0, .bool false] 34) := ⟨_, rfl⟩
  have e8 : Upd (fun _ => False) w7 w8 := by rw [hw8]; exact Upd.allocF _
  have F1 := E1.out.updF e8
  have F2 := E2.out.updF e8
  have HM8 := Lib.hid (hm7.up e8 (fun _ e => e.elim))
  have HU8 := Lib.hid ((HU6.out.trans hu7 (fun k hk => .inr (HKW.out k hk.1))).tr e8)
  have u0 : w8.cell? ⟨x1, 0, none⟩ = some (.int .i64 0) := F1.cell 0
  have u1 : w8.cell? ⟨x1, 1, none⟩ = some (.int .i64 0) := F1.cell 1
  have u2 : w8.cell? ⟨x1, 2, none⟩ = some (.int .i64 0) := F1.cell 2
  have u3 : w8.cell? ⟨x1, 3, none⟩ = some (.int .i64 1) := F1.cell 3
  have u4 : w8.cell? ⟨x1, 4, none⟩ = some (.int .i64 1) := F1.cell 4
  have u5 : w8.cell? ⟨x1, 5, none⟩ = some (.bool false) := F1.cell 5
  have v0 : w8.cell? ⟨x2, 0, none⟩ = some (.int .i64 0) := F2.cell 0
  have v1 : w8.cell? ⟨x2, 1, none⟩ = some (.int .i64 0) := F2.cell 1
  have v2 : w8.cell? ⟨x2, 2, none⟩ = some (.int .i64 1) := F2.cell 2
  have v3 : w8.cell? ⟨x2, 3, none⟩ = some (.int .i64 0) := F2.cell 3
  have v4 : w8.cell? ⟨x2, 4, none⟩ = some (.int .i64 0) := F2.cell 4
  have v5 : w8.cell? ⟨x2, 5, none⟩ = some (.bool false) := F2.cell 5
  have lx1 := F1.lt
  have lx2 := F2.lt
  have q1 := eqc1
  have q2 := eqc2
  have Hids := Lib.hid (ids_i HM8.out)
  have Hrch := Lib.hid (reach_i HM8.out (by decide))
  rw [m3_ids] at Hids
  rw [reachL_nil m3_roots] at Hrch
  have Hst := Lib.hid (fun w9 (hu : Upd (fun _ => False) w8 w9) => state_i (HM8.out.up hu (fun _ e => e.elim)) 0)
  rw [m3_state] at Hst
  clear hm7 hu7 e8 F1 F2
  subst hw8
  go_wp2_with fail
  refine Hids.out.mono ?_
  rintro e w9 ⟨rfl, rfl⟩
  go_wp2_with fail
  refine Hrch.out.mono ?_
  rintro e w9 ⟨v, rfl, ⟨row, hr, _⟩, hu9⟩
  obtain ⟨A, cap, rfl, _⟩ := Row.rdI (l := []) hr
  have Hs := Lib.hid (Hst.out _ hu9)
  have HU9 := Lib.hid (HU8.out.tr hu9)
  rw [List.length_nil]
  clear hr hu9
  go_wp2_with fail
  refine Hs.out.mono ?_
  rintro e w10 ⟨rfl, rfl⟩
  go_wp2_with fail
  go_ret
  exact ⟨rfl, HU9.out⟩
set_option maxRecDepth 100000 in
/-- build, of a program that may be. -/
theorem build_c {w : World} {pv : Value} {globs : Int} {funcs : List (List In)} (h : ProgIn w pv funcs) (hp : progOK globs funcs) :
    Calls Try.prog 17 #[.int .i64 globs, pv] w fun e w' => ∃ m, e = .returned (.pointer (some ⟨m, 0, none⟩)) ∧ ModIn (fun k => k < w.heap.size) (fun _ => False) w' m (newM globs funcs) 0 ∧ Upd (fun _ => False) w w' := by
  have Hn := Lib.hid (new_i h hp)
  obtain ⟨A, cap, hv, _⟩ := ProgAt.len_ h
  clear h hp
  subst hv
  go_enter Try.func17, Try.ntmps17
  go_wp2_with fail
  refine Hn.out.mono ?_
  rintro e w1 ⟨m, rfl, hm, hu⟩
  have HM := Lib.hid hm
  have HU := Lib.hid hu
  clear hm hu
  go_wp2_with fail
  go_ret
  exact ⟨m, rfl, HM.out, HU.out⟩
section
variable {K W : Nat → Prop} {w w' : World} {m n : Nat} {M M' : Mo}
theorem donone_i (h : ModIn K W w m M n) (g : Int) (hs : stateM M g = 0) : Calls Try.prog 16 #[.pointer (some ⟨m, 0, none⟩), .int .i64 g] w fun e w' => e = .returned (.tuple #[noCommit, .int .i64 4]) ∧ Upd (fun _ => False) w w' := by
  obtain ⟨c, Y, h1, _⟩ := h
  exact mdo_idle h1 g hs
theorem nextno_i (h : ModIn K W w m M n) (g : Int) (hs : stateM M g = 0 ∨ stateM M g = 5) : Calls Try.prog 27 #[.pointer (some ⟨m, 0, none⟩), .int .i64 g] w fun e w' => e = .returned (.tuple #[In0.v, .bool false]) ∧ Upd (fun _ => False) w w' := by
  obtain ⟨c, Y, h1, _⟩ := h
  exact mnext_no h1 g hs
theorem stack_i (h : ModIn K W w m M n) (g : Int) : Calls Try.prog 28 #[.pointer (some ⟨m, 0, none⟩), .int .i64 g] w fun e w' => ∃ v, e = .returned v ∧ NewInts w w' v (stackL M g) ∧ Upd (fun _ => False) w w' := by
  obtain ⟨c, Y, h1, _⟩ := h
  exact stack_c h1 g
theorem slots_i (h : ModIn K W w m M n) (g : Int) : Calls Try.prog 23 #[.pointer (some ⟨m, 0, none⟩), .int .i64 g] w fun e w' => ∃ v, e = .returned v ∧ NewInts w w' v (slotsL M g) ∧ Upd (fun _ => False) w w' := by
  obtain ⟨c, Y, h1, h2, _⟩ := h
  exact slots_c h1 h2 g
theorem stuck_i (h : ModIn K W w m M n) (hn : n < 700000) : Calls Try.prog 24 #[.pointer (some ⟨m, 0, none⟩)] w fun e w' => e = .returned (.bool (stuckB M)) ∧ w = w' := by
  obtain ⟨c, Y, h1, h2, _⟩ := h
  exact stuck_c h1 (fun i hi => by have := h2.wtl i hi; omega)
theorem globals_i (h : ModIn K W w m M n) : Calls Try.prog 22 #[.pointer (some ⟨m, 0, none⟩)] w fun e w' => ∃ v, e = .returned v ∧ NewInts w w' v M.gl ∧ Upd (fun _ => False) w w' := by
  obtain ⟨c, Y, h1, h2, _⟩ := h
  exact globals_c h1 h2.globs
end
theorem stateM_out {M : Mo} {g : Int} (h : g < 0 ∨ (M.st.length : Int) ≤ g) : stateM M g = 0 := by
  have : ofL M.st g = 0 := if_neg (by omega)
  unfold stateM
  rw [this]
  rfl
/-- A program of one function whose text lies in new memory. -/
theorem prog_one {w : World} {i : In} {a b : Nat} (ha : a = w.heap.size) (hb : b = w.heap.size + 1) : ProgIn ((w.alloc (.cells #[.int .i64 i.op, .int .i64 i.a, .int .i64 i.b, .int .i64 i.c] 40)).alloc (.cells #[.slice (some ⟨a, 0, none⟩) 1 1] 42)) (.slice (some ⟨b, 0, none⟩) 1 1) [[i]] := by
  subst ha
  subst hb
  have b1 : Blk ((w.alloc (.cells #[.int .i64 i.op, .int .i64 i.a, .int .i64 i.b, .int .i64 i.c] 40)).alloc (.cells #[.slice (some ⟨w.heap.size, 0, none⟩) 1 1] 42)) w.heap.size 40 (insV [i]).toArray := (Blk.new _ _ _).alloc _
  have b2 : Blk ((w.alloc (.cells #[.int .i64 i.op, .int .i64 i.a, .int .i64 i.b, .int .i64 i.c] 40)).alloc (.cells #[.slice (some ⟨w.heap.size, 0, none⟩) 1 1] 42)) (w.heap.size + 1) 42 [Value.slice (some ⟨w.heap.size, 0, none⟩) 1 1].toArray := Blk.new' _ _ _ (by simp)
  exact ProgIn.of_blk (P := [[i]]) b2 rfl (by show (1 : Nat) ≤ maxLen; unfold maxLen; omega) (fun k v l hv hl => by
    rcases k with _ | k
    · injection hv with hv
      injection hl with hl
      subst hv
      subst hl
      exact CodeIn.of_blk b1 (by show (1 : Nat) ≤ maxLen; unfold maxLen; omega)
    · simp at hl)
end Go.Proofs.Ytndldoamadmphaa
