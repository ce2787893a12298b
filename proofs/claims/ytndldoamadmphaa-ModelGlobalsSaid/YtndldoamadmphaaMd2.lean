/- Contracts of package model: Gs, State, Next, slot. -/
import Derived.Test.YtndldoamadmphaaMd1
namespace Go.Proofs.Ytndldoamadmphaa
open Go.RowKit

section
variable {w : World} {c : Col} {m : Nat} {Y : Lay} {M : Mo}
theorem ModelAt.c0 (h : ModelAt w c m Y M) : w.cell? ⟨m, 0, none⟩ = some (.int .i64 M.globs) := h.blk.cell 0
theorem ModelAt.c1 (h : ModelAt w c m Y M) : w.cell? ⟨m, 1, none⟩ = some Y.pv := h.blk.cell 1
theorem ModelAt.c2 (h : ModelAt w c m Y M) : w.cell? ⟨m, 2, none⟩ = some (.pointer (some ⟨Y.sa, 0, none⟩)) := h.blk.cell 2
theorem ModelAt.c3 (h : ModelAt w c m Y M) : w.cell? ⟨m, 3, none⟩ = some Y.gv := h.blk.cell 3
theorem ModelAt.c4 (h : ModelAt w c m Y M) : w.cell? ⟨m, 4, none⟩ = some Y.glv := h.blk.cell 4
theorem ModelAt.c5 (h : ModelAt w c m Y M) : w.cell? ⟨m, 5, none⟩ = some Y.slv := h.blk.cell 5
theorem ModelAt.c6 (h : ModelAt w c m Y M) : w.cell? ⟨m, 6, none⟩ = some (.pointer (some ⟨Y.ta, 0, none⟩)) := h.blk.cell 6
theorem ModelAt.c7 (h : ModelAt w c m Y M) : w.cell? ⟨m, 7, none⟩ = some (.pointer (some ⟨Y.wa, 0, none⟩)) := h.blk.cell 7
theorem ModelAt.c8 (h : ModelAt w c m Y M) : w.cell? ⟨m, 8, none⟩ = some (.int .i64 M.clock) := h.blk.cell 8

/-- A list behind its value: nil, or from a block's head. -/
theorem Row.at_ {e : TypeId} {row : Option Nat} {v : Value} {xs : List Value} (h : Row w e row v xs) {i : Nat} {u : Value} (hi : xs[i]? = some u) :
    ∃ g cap, v = .slice (some ⟨g, 0, none⟩) xs.length cap ∧ row = some g ∧ g < w.heap.size ∧ w.cell? ⟨g, i, none⟩ = some u ∧ w.frozen? ⟨g, i, none⟩ = false := by
  rcases h.form with ⟨_, h0, _⟩ | ⟨g, cap, hv, hr, _, _, hg, hc, hf⟩
  · rw [h0] at hi; simp at hi
  · exact ⟨g, cap, hv, hr, hg, hc i u hi, hf i⟩
theorem GsC.at_ {gv : Value} {gp : Nat → Nat} {gs : List Gor} (h : GsC w c gv gp gs) {i : Nat} (hi : i < gs.length) :
    ∃ g cap, gv = .slice (some ⟨g, 0, none⟩) gs.length cap ∧ c g = (2, 0) ∧ g < w.heap.size ∧ w.cell? ⟨g, i, none⟩ = some (.pointer (some ⟨gp i, 0, none⟩)) := by
  obtain ⟨⟨row, h1, h2⟩, _⟩ := h
  obtain ⟨g, cap, hv, hr, hg, hc, _⟩ := h1.at_ (i := i) (u := .pointer (some ⟨gp i, 0, none⟩)) (by simp [hi])
  exact ⟨g, cap, by simpa using hv, h2 g hr, hg, hc⟩
theorem GsC.len_ {gv : Value} {gp : Nat → Nat} {gs : List Gor} (h : GsC w c gv gp gs) : ∃ A cap, gv = .slice A gs.length cap := by
  obtain ⟨⟨row, h1, h2⟩, _⟩ := h
  rcases h1.form with ⟨hv, h0, _⟩ | ⟨g, cap, hv, _⟩
  · have : gs.length = 0 := by
      have := congrArg List.length h0
      simpa using this
    exact ⟨none, 0, by rw [this]; exact hv⟩
  · exact ⟨_, _, by simpa using hv⟩

theorem gs_c (h : ModelAt w c m Y M) : Calls Try.prog 26 #[.pointer (some ⟨m, 0, none⟩)] w fun e w' => e = .returned (.int .i64 M.gs.length) ∧ w = w' := by
  have c3 := h.c3
  obtain ⟨A, cap, hv⟩ := h.gs.len_
  rw [hv] at c3
  clear h hv
  go_enter Try.func26, Try.ntmps26
  go_wp2
  go_ret
  exact ⟨rfl, rfl⟩
def stateM (M : Mo) (g : Int) : Int := if ofL M.st g = 2 then 1 else ofL M.st g
theorem mstate_c (h : ModelAt w c m Y M) (g : Int) : Calls Try.prog 18 #[.pointer (some ⟨m, 0, none⟩), .int .i64 g] w fun e w' => e = .returned (.int .i64 (stateM M g)) ∧ w = w' := by
  have c2 := h.c2
  obtain ⟨row, hst, _⟩ := h.st
  have Hof := Lib.hid (of_c hst g)
  clear h hst
  unfold stateM
  obtain ⟨x, hx⟩ : ∃ x, x = ofL M.st g := ⟨_, rfl⟩
  rw [← hx] at Hof ⊢
  clear hx
  by_cases h2 : x = 2
  · subst h2
    rw [if_pos rfl]
    go_enter Try.func18, Try.ntmps18
    go_wp2_with (refine Hof.out.mono ?_; rintro e w1 ⟨rfl, rfl⟩)
    go_ret
    exact ⟨rfl, rfl⟩
  · rw [if_neg h2]
    have hne : (x != 2) = true := by simpa using h2
    clear h2
    go_enter Try.func18, Try.ntmps18
    go_wp2_with (refine Hof.out.mono ?_; rintro e w1 ⟨rfl, rfl⟩)
    go_ret
    exact ⟨rfl, rfl⟩
end

def In0 : In := ⟨0, 0, 0, 0⟩
def In.v (i : In) : Value := .agg #[.int .i64 i.op, .int .i64 i.a, .int .i64 i.b, .int .i64 i.c]
def gorAt (M : Mo) (g : Nat) : Gor := M.gs.getD g ⟨0, 0, 0, fun _ => 0⟩
/-- The text that a goroutine is in; its next instruction. -/
def codeOf (M : Mo) (g : Nat) : List In := M.funcs.getD (gorAt M g).f.toNat []
def instOf (M : Mo) (g : Nat) : In := (codeOf M g).getD (gorAt M g).pc.toNat In0
def aliveM (M : Mo) (g : Int) : Prop := stateM M g ≠ 0 ∧ stateM M g ≠ 5
theorem gorAt_get {M : Mo} {g : Nat} (h : g < M.gs.length) : M.gs[g]? = some (gorAt M g) := by simp [gorAt, List.getD, h]
theorem ofL_ne {l : List Int} {g : Int} (h : ofL l g ≠ 0) : ∃ k : Nat, g = k ∧ k < l.length := by
  unfold ofL at h
  by_cases h1 : 0 ≤ g ∧ g < l.length
  · exact ⟨g.toNat, by omega, by omega⟩
  · rw [if_neg h1] at h
    exact absurd rfl h
theorem stateM_ne {M : Mo} {g : Int} (h : stateM M g ≠ 0) : ∃ k : Nat, g = k ∧ k < M.st.length := by
  unfold stateM at h
  by_cases h2 : ofL M.st g = 2
  · exact ofL_ne (by rw [h2]; decide)
  · rw [if_neg h2] at h
    exact ofL_ne h

/-- What holds of a model in order. -/
structure MoOK (M : Mo) (n : Nat) : Prop where
  len : M.gs.length = M.st.length
  f : ∀ g, g < M.gs.length → 0 ≤ (gorAt M g).f ∧ (gorAt M g).f < M.funcs.length
  pc : ∀ g, g < M.gs.length → 0 ≤ (gorAt M g).pc ∧ (gorAt M g).pc < 1000 + n
  bound : n < 800000
  made : M.made ≤ n
  tml : M.tm.length ≤ n
  wtl : ∀ i, i < 32 → (M.wt i).length ≤ n
  sll : M.sl.length ≤ n + 1

set_option maxRecDepth 100000 in
set_option maxHeartbeats 1000000 in
theorem mnext_no {w : World} {c : Col} {m : Nat} {Y : Lay} {M : Mo} (h : ModelAt w c m Y M) (g : Int) (hs : stateM M g = 0 ∨ stateM M g = 5) :
    Calls Try.prog 27 #[.pointer (some ⟨m, 0, none⟩), .int .i64 g] w fun e w' => e = .returned (.tuple #[In0.v, .bool false]) ∧ Upd (fun _ => False) w w' := by
  have Hs := Lib.hid (mstate_c (h.frame (S := fun _ => False) ((Upd.refl _ _).alloc (.cells #[.int .i64 0, .int .i64 0, .int .i64 0, .int .i64 0] 40)) (fun _ e => e.elim)) g)
  clear h
  rcases hs with hs | hs
  · rw [hs] at Hs
    clear hs
    go_enter Try.func27, Try.ntmps27
    go_wp2_with (refine Hs.out.mono ?_; rintro e w1 ⟨rfl, rfl⟩)
    refine bodyPost_ret (v := .tuple #[In0.v, .bool false]) (by simp [results, Try.results27, go_sem, In.v, In0]) rfl ⟨rfl, ?_⟩
    exact (Upd.refl _ _).alloc _
  · rw [hs] at Hs
    clear hs
    go_enter Try.func27, Try.ntmps27
    go_wp2_with (refine Hs.out.mono ?_; rintro e w1 ⟨rfl, rfl⟩)
    refine bodyPost_ret (v := .tuple #[In0.v, .bool false]) (by simp [results, Try.results27, go_sem, In.v, In0]) rfl ⟨rfl, ?_⟩
    exact (Upd.refl _ _).alloc _
end Go.Proofs.Ytndldoamadmphaa
