/- The model in memory: blocks colored by what they belong to. -/
import Derived.Test.YtndldoamadmphaaState6
import Derived.Test.YtndldoamadmphaaHeap
import Derived.Test.YtndldoamadmphaaWait3
namespace Go.Proofs.Ytndldoamadmphaa
open Go.RowKit

/-- A coloring of blocks: whose they are. 0: the model's own; 1: the states; 2: the goroutines; 3: the globals; 4: the slots; 5: the timers; 6: the waits; 7: nothing of the model's; 8: the program. -/
abbrev Col := Nat → Nat × Nat

/-- An instruction; a goroutine. -/
structure In where
  op : Int
  a : Int
  b : Int
  c : Int
structure Gor where
  f : Int
  pc : Int
  count : Int
  stack : Nat → Int
def gorV (x : Gor) : Array Value := (.int .i64 x.f :: .int .i64 x.pc :: .int .i64 x.count :: (List.range 16).map (fun i => Value.int .i64 (x.stack i))).toArray
theorem gorV_stack (x : Gor) {i : Nat} (h : i < 16) : (gorV x)[3 + i]? = some (.int .i64 (x.stack i)) := by
  simp only [gorV, List.getElem?_toArray]
  rw [show 3 + i = i + 1 + 1 + 1 by omega]
  simp [h]
theorem gorV_size (x : Gor) : (gorV x).size = 19 := by simp [gorV]
theorem gorV_set (x : Gor) (i : Nat) (v : Int) (h : i < 16) : (gorV x).setIfInBounds (3 + i) (.int .i64 v) = gorV { x with stack := upN x.stack i v } := by
  apply Array.ext_getElem?
  intro j
  rw [Array.getElem?_setIfInBounds]
  by_cases e : 3 + i = j
  · subst e
    rw [if_pos rfl, if_pos (by rw [gorV_size]; omega), gorV_stack _ h]
    show _ = some (Value.int .i64 (upN x.stack i v i))
    rw [upN_same]
  · rw [if_neg e]
    simp only [gorV, List.getElem?_toArray]
    rcases j with _ | _ | _ | j
    · rfl
    · rfl
    · rfl
    · simp only [List.getElem?_cons_succ, List.getElem?_map]
      by_cases hj : j < 16
      · simp only [List.getElem?_range hj, Option.map_some, upN]
        rw [if_neg (by omega)]
      · rw [List.getElem?_eq_none (by simpa using hj)]
        rfl
theorem gorV_pc (x : Gor) (v : Int) : (gorV x).setIfInBounds 1 (.int .i64 v) = gorV { x with pc := v } := by simp [gorV]
theorem gorV_count (x : Gor) (v : Int) : (gorV x).setIfInBounds 2 (.int .i64 v) = gorV { x with count := v } := by simp [gorV]

/-- What a model is. -/
structure Mo where
  globs : Int
  funcs : List (List In)
  st : List Int
  gs : List Gor
  gl : List Int
  sl : List (List Int)
  tm : List Sl
  made : Nat
  wt : Nat → List Int
  clock : Int
/-- Where its parts lie. -/
structure Lay where
  pv : Value
  sa : Nat
  gv : Value
  glv : Value
  slv : Value
  ta : Nat
  wa : Nat
  gp : Nat → Nat
def modV (Y : Lay) (M : Mo) : Array Value := #[.int .i64 M.globs, Y.pv, .pointer (some ⟨Y.sa, 0, none⟩), Y.gv, Y.glv, Y.slv, .pointer (some ⟨Y.ta, 0, none⟩), .pointer (some ⟨Y.wa, 0, none⟩), .int .i64 M.clock]

/-- A function's text; a program. -/
def CodeAt (w : World) (c : Col) (v : Value) (l : List In) : Prop :=
  ∃ A cap, v = .slice A l.length cap ∧ l.length ≤ maxLen ∧ (0 < l.length → ∃ b off, A = some ⟨b, off, none⟩ ∧ b < w.heap.size ∧ (c b).1 = 8 ∧ ∀ i x, l[i]? = some x →
    w.cell? ⟨b, off + i * 4, none⟩ = some (.int .i64 x.op) ∧ w.cell? ⟨b, off + i * 4 + 1, none⟩ = some (.int .i64 x.a) ∧ w.cell? ⟨b, off + i * 4 + 2, none⟩ = some (.int .i64 x.b) ∧ w.cell? ⟨b, off + i * 4 + 3, none⟩ = some (.int .i64 x.c))
def ProgAt (w : World) (c : Col) (v : Value) (P : List (List In)) : Prop :=
  ∃ A cap, v = .slice A P.length cap ∧ P.length ≤ maxLen ∧ (0 < P.length → ∃ b off, A = some ⟨b, off, none⟩ ∧ b < w.heap.size ∧ (c b).1 = 8 ∧ ∀ i l, P[i]? = some l → ∃ u, w.cell? ⟨b, off + i, none⟩ = some u ∧ CodeAt w c u l)
def StC (w : World) (c : Col) (sa : Nat) (st : List Int) : Prop := ∃ row, StAt w sa row st ∧ c sa = (1, 0) ∧ ∀ k, row = some k → c k = (1, 1)
structure GsC (w : World) (c : Col) (gv : Value) (gp : Nat → Nat) (gs : List Gor) : Prop where
  row : ∃ row, Row w 74 row gv ((List.range gs.length).map fun i => .pointer (some ⟨gp i, 0, none⟩)) ∧ ∀ k, row = some k → c k = (2, 0)
  g : ∀ i x, gs[i]? = some x → Blk w (gp i) 77 (gorV x) ∧ c (gp i) = (2, i + 1)
def GlC (w : World) (c : Col) (v : Value) (gl : List Int) : Prop := ∃ row, Row w 3 row v (ints gl) ∧ ∀ k, row = some k → c k = (3, 0)
def SlC (w : World) (c : Col) (v : Value) (sl : List (List Int)) : Prop :=
  ∃ row vs, Row w 44 row v vs ∧ (∀ k, row = some k → c k = (4, 0)) ∧ vs.length = sl.length ∧ ∀ i l, sl[i]? = some l → ∃ u r, vs[i]? = some u ∧ Row w 3 r u (ints l) ∧ ∀ k, r = some k → c k = (4, i + 1)
def TmC (w : World) (c : Col) (ta : Nat) (tm : List Sl) (made : Nat) : Prop := ∃ row v, HAt w ta row v tm made ∧ IsHeap tm tm.length ∧ c ta = (5, 0) ∧ ∀ k, row = some k → c k = (5, 1)
def WtC (w : World) (c : Col) (wa : Nat) (wt : Nat → List Int) : Prop := ∃ vs rs, WtAt w wa vs rs wt ∧ c wa = (6, 0) ∧ ∀ i, i < 32 → ∀ k, rs i = some k → (c k).1 = 6
structure ModelAt (w : World) (c : Col) (m : Nat) (Y : Lay) (M : Mo) : Prop where
  blk : Blk w m 72 (modV Y M)
  cm : c m = (0, 0)
  prog : ProgAt w c Y.pv M.funcs
  st : StC w c Y.sa M.st
  gs : GsC w c Y.gv Y.gp M.gs
  gl : GlC w c Y.glv M.gl
  sl : SlC w c Y.slv M.sl
  tm : TmC w c Y.ta M.tm M.made
  wt : WtC w c Y.wa M.wt
  free : ∀ k, w.heap.size ≤ k → (c k).1 = 7

/-- c' colors what lay in w as c does. -/
def Keep (c c' : Col) (w : World) : Prop := ∀ k, k < w.heap.size → c' k = c k
theorem Keep.refl (c : Col) (w : World) : Keep c c w := fun _ _ => rfl
theorem Keep.trans {c c' c'' : Col} {w w' : World} {S : Nat → Prop} (h : Keep c c' w) (hu : Upd S w w') (k : Keep c' c'' w') : Keep c c'' w := fun i hi => (k i (Nat.lt_of_lt_of_le hi hu.size)).trans (h i hi)

section
variable {w w' : World} {c c' : Col} {S : Nat → Prop}
theorem CodeAt.frame {v : Value} {l : List In} (h : CodeAt w c v l) (hu : Upd S w w') (hc : Keep c c' w) (hS : ∀ k, S k → (c k).1 ≠ 8) : CodeAt w' c' v l := by
  obtain ⟨A, cap, hv, hm, hb⟩ := h
  refine ⟨A, cap, hv, hm, fun h0 => ?_⟩
  obtain ⟨b, off, hA, hlt, h8, hx⟩ := hb h0
  have hn : ¬ S b := fun e => hS b e h8
  refine ⟨b, off, hA, Nat.lt_of_lt_of_le hlt hu.size, by rw [hc b hlt]; exact h8, fun i x hi => ?_⟩
  rw [hu.cell hlt hn, hu.cell hlt hn, hu.cell hlt hn, hu.cell hlt hn]
  exact hx i x hi
theorem ProgAt.frame {v : Value} {P : List (List In)} (h : ProgAt w c v P) (hu : Upd S w w') (hc : Keep c c' w) (hS : ∀ k, S k → (c k).1 ≠ 8) : ProgAt w' c' v P := by
  obtain ⟨A, cap, hv, hm, hb⟩ := h
  refine ⟨A, cap, hv, hm, fun h0 => ?_⟩
  obtain ⟨b, off, hA, hlt, h8, hx⟩ := hb h0
  have hn : ¬ S b := fun e => hS b e h8
  refine ⟨b, off, hA, Nat.lt_of_lt_of_le hlt hu.size, by rw [hc b hlt]; exact h8, fun i x hi => ?_⟩
  obtain ⟨u, h1, h2⟩ := hx i x hi
  exact ⟨u, by rw [hu.cell hlt hn]; exact h1, h2.frame hu hc hS⟩
theorem StC.frame {sa : Nat} {st : List Int} (h : StC w c sa st) (hu : Upd S w w') (hc : Keep c c' w) (hS : ∀ k, S k → (c k).1 ≠ 1) : StC w' c' sa st := by
  obtain ⟨row, h1, h2, h3⟩ := h
  have hlt := h1.lt
  refine ⟨row, h1.upd hu (fun k hk e => hS k e ?_), by rw [hc _ (hlt _ (.inl rfl))]; exact h2, fun k hk => by rw [hc _ (hlt _ (.inr hk))]; exact h3 k hk⟩
  rcases hk with rfl | hk
  · rw [h2]
  · rw [h3 k hk]
theorem GsC.frame {gv : Value} {gp : Nat → Nat} {gs : List Gor} (h : GsC w c gv gp gs) (hu : Upd S w w') (hc : Keep c c' w) (hS : ∀ k, S k → (c k).1 ≠ 2) : GsC w' c' gv gp gs := by
  obtain ⟨⟨row, h1, h2⟩, h3⟩ := h
  refine ⟨⟨row, h1.upd hu (fun k hk e => hS k e (by rw [h2 k hk])), fun k hk => by rw [hc _ (h1.lt k hk)]; exact h2 k hk⟩, fun i x hi => ?_⟩
  obtain ⟨h4, h5⟩ := h3 i x hi
  exact ⟨h4.upd hu (fun e => hS _ e (by rw [h5])), by rw [hc _ h4.lt]; exact h5⟩
theorem GlC.frame {v : Value} {gl : List Int} (h : GlC w c v gl) (hu : Upd S w w') (hc : Keep c c' w) (hS : ∀ k, S k → (c k).1 ≠ 3) : GlC w' c' v gl := by
  obtain ⟨row, h1, h2⟩ := h
  exact ⟨row, h1.upd hu (fun k hk e => hS k e (by rw [h2 k hk])), fun k hk => by rw [hc _ (h1.lt k hk)]; exact h2 k hk⟩
theorem SlC.frame {v : Value} {sl : List (List Int)} (h : SlC w c v sl) (hu : Upd S w w') (hc : Keep c c' w) (hS : ∀ k, S k → (c k).1 ≠ 4) : SlC w' c' v sl := by
  obtain ⟨row, vs, h1, h2, h3, h4⟩ := h
  refine ⟨row, vs, h1.upd hu (fun k hk e => hS k e (by rw [h2 k hk])), fun k hk => by rw [hc _ (h1.lt k hk)]; exact h2 k hk, h3, fun i l hi => ?_⟩
  obtain ⟨u, r, h5, h6, h7⟩ := h4 i l hi
  exact ⟨u, r, h5, h6.upd hu (fun k hk e => hS k e (by rw [h7 k hk])), fun k hk => by rw [hc _ (h6.lt k hk)]; exact h7 k hk⟩
theorem TmC.frame {ta : Nat} {tm : List Sl} {made : Nat} (h : TmC w c ta tm made) (hu : Upd S w w') (hc : Keep c c' w) (hS : ∀ k, S k → (c k).1 ≠ 5) : TmC w' c' ta tm made := by
  obtain ⟨row, v, h1, h2, h3, h4⟩ := h
  exact ⟨row, v, h1.upd hu (fun e => hS _ e (by rw [h3])) (fun k hk e => hS k e (by rw [h4 k hk])), h2, by rw [hc _ h1.blk.lt]; exact h3, fun k hk => by rw [hc _ (RowN.lt h1.row k hk)]; exact h4 k hk⟩
theorem WtC.frame {wa : Nat} {wt : Nat → List Int} (h : WtC w c wa wt) (hu : Upd S w w') (hc : Keep c c' w) (hS : ∀ k, S k → (c k).1 ≠ 6) : WtC w' c' wa wt := by
  obtain ⟨vs, rs, h1, h2, h3⟩ := h
  refine ⟨vs, rs, h1.upd hu (fun k hk e => hS k e ?_), by rw [hc _ h1.blk.lt]; exact h2, fun i hi k hk => by rw [hc _ ((h1.row i hi).lt k hk)]; exact h3 i hi k hk⟩
  rcases hk with rfl | ⟨i, hi, hk⟩
  · rw [h2]
  · exact h3 i hi k hk
/-- What belongs to no model turns nothing of it. -/
theorem ModelAt.frame {m : Nat} {Y : Lay} {M : Mo} (h : ModelAt w c m Y M) (hu : Upd S w w') (hS : ∀ k, S k → (c k).1 = 7) : ModelAt w' c m Y M :=
  ⟨h.blk.upd hu (fun e => by have := hS m e; rw [h.cm] at this; cases this), h.cm, h.prog.frame hu (Keep.refl _ _) (fun k e => by rw [hS k e]; decide), h.st.frame hu (Keep.refl _ _) (fun k e => by rw [hS k e]; decide),
    h.gs.frame hu (Keep.refl _ _) (fun k e => by rw [hS k e]; decide), h.gl.frame hu (Keep.refl _ _) (fun k e => by rw [hS k e]; decide), h.sl.frame hu (Keep.refl _ _) (fun k e => by rw [hS k e]; decide),
    h.tm.frame hu (Keep.refl _ _) (fun k e => by rw [hS k e]; decide), h.wt.frame hu (Keep.refl _ _) (fun k e => by rw [hS k e]; decide), fun k hk => h.free k (Nat.le_trans hu.size hk)⟩
end
end Go.Proofs.Ytndldoamadmphaa
