/- A law's own list of instructions, made by append; Do where a value alone is known. -/
import Derived.Test.YtndldoamadmphaaLawM
namespace Go.Proofs.Ytndldoamadmphaa
open Go.RowKit
theorem Try.inst_info : Option.map (fun i => (i.zero, i.size, i.bytes)) (Try.prog.info? 40) = some (some (.agg #[.int .i64 0, .int .i64 0, .int .i64 0, .int .i64 0]), 4, 32) := by kernel_rfl
/-- A list of instructions of one's own, new since w0. -/
def CodeRow (w0 wr : World) (row : Option Nat) (v : Value) (l : List In) : Prop := RowN wr 40 4 row v l.length (insV l) ∧ (∀ k, row = some k → w0.heap.size ≤ k) ∧ Upd (fun _ => False) w0 wr
theorem insV_app (a b : List In) : insV (a ++ b) = insV a ++ insV b := by simp [insV]
theorem insV_one (l : List In) : ∀ u ∈ insV l, u.oneCell' = true := by
  intro u hu
  unfold insV at hu
  obtain ⟨i, _, h⟩ := List.mem_flatMap.1 hu
  simp only [List.mem_cons, List.not_mem_nil, or_false] at h
  rcases h with rfl | rfl | rfl | rfl <;> rfl
theorem CodeRow.nil (w : World) : CodeRow w w none (.slice none 0 0) [] := ⟨RowN.nil _ _ _, fun k e => (by cases e), Upd.refl _ _⟩
theorem CodeRow.grow {w0 wr w1 : World} {row : Option Nat} {v : Value} {l l2 : List In} {g cap k : Nat} {o : Obj} (h : CodeRow w0 wr row v l) (hk : k = (l ++ l2).length) (hr : RowN w1 40 4 (some g) (.slice (some ⟨g, 0, none⟩) k cap) k (insV l ++ insV l2)) (hg : (wr.alloc o).grownBy w1 row) (hat : row = some g ∨ g = (wr.alloc o).heap.size) :
    CodeRow w0 w1 (some g) (.slice (some ⟨g, 0, none⟩) k cap) (l ++ l2) := by
  obtain ⟨h1, h2, h3⟩ := h
  refine ⟨by rw [← insV_app, hk] at hr; rw [hk]; exact hr, fun b hb => ?_, ((h3.al o).mono (S' := fun _ => False) (fun _ e => e.elim)).trans ((Upd.refl (fun b => row = some b) _).grown hg (fun b hb => .inl hb)) (fun b hb => .inr (h2 b hb))⟩
  injection hb with hb
  subst hb
  rcases hat with e | e
  · exact h2 _ e
  · have := h3.size
    rw [sz_alloc] at e
    omega
theorem add_one {w0 wr w1 : World} {row : Option Nat} {v : Value} {l : List In} {g cap N : Nat} {x : In} {o : Obj} (h : CodeRow w0 wr row v l) (hN : N = l.length) (hr : RowN w1 40 4 (some g) (.slice (some ⟨g, 0, none⟩) (N + 1) cap) (N + 1) (insV l ++ insV [x])) (hg : (wr.alloc o).grownBy w1 row) (hat : row = some g ∨ g = (wr.alloc o).heap.size) :
    CodeRow w0 w1 (some g) (.slice (some ⟨g, 0, none⟩) (N + 1) cap) (l ++ [x]) := h.grow (by rw [hN]; simp) hr hg hat
theorem CodeRow.code {w0 wr : World} {row : Option Nat} {v : Value} {l : List In} (h : CodeRow w0 wr row v l) : CodeIn wr v l := CodeIn.of_row h.1
/-- Cells just laid, four each. -/
theorem news_blk {w : World} {b : Nat} {t : TypeId} {cs : List Value} (h : Blk w b t cs.toArray) : ∀ (j : Nat) (x : Value), cs[j]? = some x → w.cell? ((⟨b, 0, none⟩ : Addr).add j) = some x := by
  intro j x hj
  have hc := h.cell j
  rw [List.getElem?_toArray, hj] at hc
  by_cases j0 : j = 0
  · subst j0
    simpa [Addr.add] using hc
  · simpa [Addr.add, j0] using hc
theorem prog_vs {w : World} {c : Nat} {v1 v2 : Value} {l1 l2 : List In} (h1 : CodeIn w v1 l1) (h2 : CodeIn w v2 l2) (h3 : Blk w c 42 #[v1, v2]) : ProgIn w (.slice (some ⟨c, 0, none⟩) 2 2) [l1, l2] :=
  ProgIn.of_blk (vs := [v1, v2]) (P := [l1, l2]) h3 rfl (by show (2 : Nat) ≤ maxLen; unfold maxLen; omega) (fun k v l hv hl => by
    rcases k with _ | _ | k
    · injection hv with hv
      injection hl with hl
      subst hv
      subst hl
      exact h1
    · injection hv with hv
      injection hl with hl
      subst hv
      subst hl
      exact h2
    · simp at hl)
theorem LawM.doesV {W : Nat → Prop} {w0 w : World} {m n : Nat} {M : Mo} (h : LawM w0 W w m M n) (hn : n < 700000) {g e0 v : Int} {b : Bool} (h2 : (stepM M g).2.2 = e0) (hv : (stepM M g).2.1.v = v) (hb : (stepM M g).2.1.fault = b) :
    Calls Try.prog 16 #[.pointer (some ⟨m, 0, none⟩), .int .i64 g] w fun e w' => ∃ a1 a2 a3 a4 : Int, e = .returned (.tuple #[.agg #[.int .i64 a1, .int .i64 a2, .int .i64 a3, .int .i64 a4, .int .i64 v, .bool b], .int .i64 e0]) ∧
      LawM w0 W w' m (stepM M g).1 (n + 2) ∧ Upd (fun k => w0.heap.size ≤ k ∧ ¬ W k) w w' := by
  refine (h.do_ hn g).mono fun e w' ⟨he, h3, h4⟩ => ⟨(stepM M g).2.1.g, (stepM M g).2.1.f, (stepM M g).2.1.pc, (stepM M g).2.1.op, ?_, h3, h4⟩
  rw [he, ← h2, ← hv, ← hb]
  rfl
theorem min2 (x y : Int) (w : World) (ts : Array TypeId) (t : TypeId) : (Builtin.min_ ts t #[.int .i64 x, .int .i64 y]).run Try.prog w = .ok (.int .i64 (min x y)) w := by
  rw [run_min_int2]
  congr 2
  split <;> omega
end Go.Proofs.Ytndldoamadmphaa
