/- A model of a law's own: made since the law began; what the law may do with it. -/
import Derived.Test.YtndldoamadmphaaMtold
import Derived.Test.YtndldoamadmphaaUmod
import Derived.Test.YtndldoamadmphaaLaw
namespace Go.Proofs.Ytndldoamadmphaa
open Go.RowKit
/-- A model that was made since w0; the blocks W are the law's own. -/
structure LawM (w0 : World) (W : Nat → Prop) (w : World) (m : Nat) (M : Mo) (n : Nat) : Prop where
  mod : ModIn (fun k => k < w0.heap.size) W w m M n
  u : Upd (fun _ => False) w0 w
  new : ∀ k, W k → w0.heap.size ≤ k
section
variable {W : Nat → Prop} {w0 w w' : World} {m n : Nat} {M M' : Mo}
theorem LawM.up (h : LawM w0 W w m M n) (hu : Upd (fun _ => False) w w') : LawM w0 W w' m M n := ⟨h.mod.up hu (fun _ e => e.elim), h.u.tr hu, h.new⟩
theorem LawM.write (h : LawM w0 W w m M n) {S : Nat → Prop} (hu : Upd S w w') (hS : ∀ k, S k → W k) : LawM w0 W w' m M n := ⟨h.mod.up hu hS, h.u.trans hu (fun k hk => .inr (h.new k (hS k hk))), h.new⟩
theorem LawM.own (h : LawM w0 W w m M n) (hu : Upd (fun _ => False) w w') : LawM w0 (fun k => W k ∨ (w.heap.size ≤ k ∧ k < w'.heap.size)) w' m M n :=
  ⟨h.mod.own hu (fun _ e => e.elim), h.u.tr hu, fun k hk => hk.elim (h.new k) (fun e => Nat.le_trans h.u.size e.1)⟩
theorem LawM.mono (h : LawM w0 W w m M n) {W' : Nat → Prop} (hW : ∀ k, W' k → W k) : LawM w0 W' w m M n := ⟨h.mod.mono hW, h.u, fun k hk => h.new k (hW k hk)⟩
theorem LawM.blk (_h : LawM w0 W w m M n) {b : Nat} {t : TypeId} {cs : Array Value} (hb : Blk w b t cs) (hw : W b) (hu : Upd (fun k => w0.heap.size ≤ k ∧ ¬ W k) w w') : Blk w' b t cs := hb.upd hu (fun e => e.2 hw)
theorem LawM.do_ (h : LawM w0 W w m M n) (hn : n < 700000) (g : Int) : Calls Try.prog 16 #[.pointer (some ⟨m, 0, none⟩), .int .i64 g] w fun e w' =>
    e = .returned (.tuple #[(stepM M g).2.1.val, .int .i64 (stepM M g).2.2]) ∧ LawM w0 W w' m (stepM M g).1 (n + 2) ∧ Upd (fun k => w0.heap.size ≤ k ∧ ¬ W k) w w' := by
  refine (do_i h.mod hn g).mono fun e w' ⟨he, hm, hu⟩ => ?_
  have hu2 : Upd (fun k => w0.heap.size ≤ k ∧ ¬ W k) w w' := hu.mono (fun k hk => .inl ⟨by have := hk.1; omega, hk.2⟩)
  exact ⟨he, ⟨hm, h.u.trans hu2 (fun k hk => .inr hk.1), h.new⟩, hu2⟩
/-- Do, where the step is known. -/
theorem LawM.does (h : LawM w0 W w m M n) (hn : n < 700000) {g : Int} {c : Cm} {e0 : Int} (hs : stepM M g = (M', c, e0)) : Calls Try.prog 16 #[.pointer (some ⟨m, 0, none⟩), .int .i64 g] w fun e w' =>
    e = .returned (.tuple #[.agg #[.int .i64 c.g, .int .i64 c.f, .int .i64 c.pc, .int .i64 c.op, .int .i64 c.v, .bool c.fault], .int .i64 e0]) ∧ LawM w0 W w' m M' (n + 2) ∧ Upd (fun k => w0.heap.size ≤ k ∧ ¬ W k) w w' := by
  have := h.do_ hn g
  rw [hs] at this
  exact this
theorem LawM.state_ (h : LawM w0 W w m M n) {g s : Int} (hs : stateM M g = s) : Calls Try.prog 18 #[.pointer (some ⟨m, 0, none⟩), .int .i64 g] w fun e w' => e = .returned (.int .i64 s) ∧ w = w' := by
  rw [← hs]
  exact state_i h.mod g
theorem LawM.ids_ (h : LawM w0 W w m M n) {k : Nat} (hs : M.sl.length = k + 1) : Calls Try.prog 20 #[.pointer (some ⟨m, 0, none⟩)] w fun e w' => e = .returned (.int .i64 k) ∧ w = w' := by
  have := ids_i h.mod
  rw [hs, show (((k + 1 : Nat) : Int) - 1) = k by omega] at this
  exact this
/-- A list that a call made. -/
theorem NewInts.out {w w' : World} {v : Value} {l : List Int} (h : NewInts w w' v l) : ∃ A cap, v = .slice A l.length cap ∧ RdF w' A l.length 1 (fun i _ => l.getD i 0) := by
  obtain ⟨row, hr, _⟩ := h
  obtain ⟨A, cap, h1, h2, _⟩ := Row.rdI (l := l) hr
  exact ⟨A, cap, h1, h2⟩
theorem LawM.reach_ (h : LawM w0 W w m M n) (hn : n < 700000) : Calls Try.prog 19 #[.pointer (some ⟨m, 0, none⟩)] w fun e w' => ∃ A cap, e = .returned (.slice A (reachL M).length cap) ∧ RdF w' A (reachL M).length 1 (fun i _ => (reachL M).getD i 0) ∧ Upd (fun _ => False) w w' := by
  refine (reach_i h.mod hn).mono ?_
  rintro e w' ⟨v, rfl, hv, hu⟩
  obtain ⟨A, cap, rfl, hr⟩ := hv.out
  exact ⟨A, cap, rfl, hr, hu⟩
theorem LawM.told_ (h : LawM w0 W w m M n) : Calls Try.prog 14 #[] w fun e w' => e = .returned (.bool true) ∧ LawM w0 W w' m M n ∧ Upd (fun _ => False) w w' := by
  refine (told_c w).mono ?_
  rintro e w' ⟨rfl, hu⟩
  exact ⟨rfl, h.up hu, hu⟩
theorem law_build {pv : Value} {globs : Int} {funcs : List (List In)} (h0 : Upd (fun _ => False) w0 w) (h : ProgIn w pv funcs) (hp : progOK globs funcs) :
    Calls Try.prog 17 #[.int .i64 globs, pv] w fun e w' => ∃ m, e = .returned (.pointer (some ⟨m, 0, none⟩)) ∧ LawM w0 (fun _ => False) w' m (newM globs funcs) 0 ∧ Upd (fun _ => False) w w' := by
  refine (build_c h hp).mono ?_
  rintro e w' ⟨m, rfl, hm, hu⟩
  refine ⟨m, rfl, ⟨?_, h0.tr hu, fun k e => e.elim⟩, hu⟩
  obtain ⟨c, Y, h1, h2, h3, h4⟩ := hm
  exact ⟨c, Y, h1, h2, fun k hk => h3 k (Nat.lt_of_lt_of_le hk h0.size), h4⟩
end
theorem stepM_yes {M M3 : Mo} {g : Nat} {i : In} {ret val : Int} (hs : stateM M g = 1) (hi : instOf M g = i) (hd : doI (runM M g) g i = some (ret, val, M3)) :
    stepM M g = (moveM M3 g ret, ⟨g, (gorAt M g).f, (gorAt M g).pc, i.op, val, false⟩, 0) := by
  subst hi
  unfold stepM
  rw [if_neg (by rw [hs]; decide), if_neg (by rw [hs]; decide), Int.toNat_natCast]
  unfold stepY
  rw [hd]
theorem stepM_no {M : Mo} {g : Nat} {i : In} (hs : stateM M g = 1) (hi : instOf M g = i) (hd : doI (runM M g) g i = none) :
    stepM M g = (moveM (runM M g) g 5, ⟨g, (gorAt M g).f, (gorAt M g).pc, i.op, 0, true⟩, 0) := by
  subst hi
  unfold stepM
  rw [if_neg (by rw [hs]; decide), if_neg (by rw [hs]; decide), Int.toNat_natCast]
  unfold stepY
  rw [hd]
theorem reachL_nil' {M : Mo} (h : ∀ v ∈ rootsL M, v = 0) : reachL M = [] := by
  have hn : ∀ v, ¬ Rch M v := by
    intro v hv
    induction hv with
    | root v hv h0 => exact h0 (h v hv)
    | slot _ _ _ _ _ ih => exact ih
  refine List.eq_nil_iff_forall_not_mem.2 fun v hv => ?_
  obtain ⟨k, _, _, hr⟩ := mem_reachL.1 hv
  exact hn _ hr
theorem prog_two {w : World} {a b c : Nat} {l1 l2 : List In} (h1 : Blk w a 40 (insV l1).toArray) (h2 : Blk w b 40 (insV l2).toArray) (m1 : l1.length ≤ maxLen) (m2 : l2.length ≤ maxLen)
    (h3 : Blk w c 42 #[.slice (some ⟨a, 0, none⟩) l1.length l1.length, .slice (some ⟨b, 0, none⟩) l2.length l2.length]) : ProgIn w (.slice (some ⟨c, 0, none⟩) 2 2) [l1, l2] :=
  ProgIn.of_blk (vs := [.slice (some ⟨a, 0, none⟩) l1.length l1.length, .slice (some ⟨b, 0, none⟩) l2.length l2.length]) (P := [l1, l2]) h3 rfl (by show (2 : Nat) ≤ maxLen; unfold maxLen; omega) (fun k v l hv hl => by
    rcases k with _ | _ | k
    · injection hv with hv
      injection hl with hl
      subst hv
      subst hl
      exact CodeIn.of_blk h1 m1
    · injection hv with hv
      injection hl with hl
      subst hv
      subst hl
      exact CodeIn.of_blk h2 m2
    · simp at hl)
end Go.Proofs.Ytndldoamadmphaa
