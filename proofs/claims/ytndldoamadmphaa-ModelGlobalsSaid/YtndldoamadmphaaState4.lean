/- Contracts of package state: Spawn where there is no room; Move. -/
import Derived.Test.YtndldoamadmphaaState3
namespace Go.Proofs.Ytndldoamadmphaa
open Go.RowKit

set_option maxRecDepth 100000 in
theorem spawn_full {w : World} {a : Nat} {row : Option Nat} {l : List Int} (h : StAt w a row l) (hl : 1024 ≤ l.length) :
    Calls Try.prog 53 #[.pointer (some ⟨a, 0, none⟩)] w fun e w' => e = .returned (.tuple #[.int .i64 0, .int .i64 3]) ∧ w = w' := by
  obtain ⟨v, hb, hr⟩ := h.blk
  have hlen : (ints l).length = l.length := by simp [ints]
  have c0 : w.cell? ⟨a, 0, none⟩ = some v := hb.cell 0
  rcases hr.form with ⟨_, h2, _⟩ | ⟨g, cap, hv, _⟩
  · rw [h2] at hlen
    simp at hlen
    omega
  · rw [hlen] at hv
    subst hv
    clear hlen
    go_enter Try.func53, Try.ntmps53
    go_wp2
    go_ret2
    exact ⟨rfl, rfl⟩
theorem spawn_nil (w : World) : Calls Try.prog 53 #[.pointer none] w fun e w' => e = .returned (.tuple #[.int .i64 0, .int .i64 1]) ∧ w = w' := by
  go_enter Try.func53, Try.ntmps53
  go_wp2
  go_ret2
  exact ⟨rfl, rfl⟩

theorem cnt_set (l : List Int) (i : Nat) (x k : Int) (hi : i < l.length) : (cnt (l.set i x) k : Int) = cnt l k - (if l.getD i 0 = k then 1 else 0) + if x = k then 1 else 0 := by
  induction l generalizing i with
  | nil => simp at hi
  | cons y l ih =>
    cases i with
    | zero =>
      unfold cnt
      simp only [List.set_cons_zero, List.filter_cons, List.getD_cons_zero]
      by_cases h1 : x = k <;> by_cases h2 : y = k <;> simp [h1, h2]
    | succ i =>
      have h := ih i (by simpa using hi)
      unfold cnt at h ⊢
      simp only [List.set_cons_succ, List.filter_cons, List.getD_cons_succ]
      by_cases h2 : y = k
      · simp only [h2, beq_self_eq_true, if_true, List.length_cons]
        omega
      · have : (y == k) = false := by simp [h2]
        simp only [this, Bool.false_eq_true, if_false]
        exact h
theorem cnt_pos (l : List Int) (i : Nat) (hi : i < l.length) : 1 ≤ cnt l (l.getD i 0) := by
  unfold cnt
  have : l[i] ∈ l.filter (· == l.getD i 0) := by
    rw [List.mem_filter]
    exact ⟨List.getElem_mem hi, by simp [List.getD, hi]⟩
  exact List.length_pos_of_mem this

def mvRes (l : List Int) (g to : Int) : Int := if ofL l g = 0 then 4 else if mayB (ofL l g) to then 0 else 5
def mvL (l : List Int) (g to : Int) : List Int := if ofL l g ≠ 0 ∧ mayB (ofL l g) to = true then l.set g.toNat to else l

theorem move_nil (w : World) (g to : Int) : Calls Try.prog 39 #[.pointer none, .int .i64 g, .int .i64 to] w fun e w' => e = .returned (.int .i64 1) ∧ w = w' := by
  go_enter Try.func39, Try.ntmps39
  go_wp2
  go_ret
  exact ⟨rfl, rfl⟩

theorem move_none {w : World} {a : Nat} {row : Option Nat} {l : List Int} (h : StAt w a row l) (g to : Int) (h0 : ofL l g = 0) :
    Calls Try.prog 39 #[.pointer (some ⟨a, 0, none⟩), .int .i64 g, .int .i64 to] w fun e w' => e = .returned (.int .i64 4) ∧ w = w' := by
  have hof := of_c h g
  rw [h0] at hof
  have Hof := Lib.hid hof
  clear hof h0
  go_enter Try.func39, Try.ntmps39
  go_wp2_with (go_at_call 43; refine Hof.out.mono ?_; rintro e w1 ⟨rfl, rfl⟩)
  go_ret
  exact ⟨rfl, rfl⟩

theorem ofL_in {l : List Int} {g : Int} (h0 : ofL l g ≠ 0) : 0 ≤ g ∧ g < l.length ∧ ofL l g = l.getD g.toNat 0 := by
  unfold ofL at h0 ⊢
  split at h0
  · rename_i h
    exact ⟨h.1, h.2, by rw [if_pos h]⟩
  · exact absurd rfl h0

set_option maxRecDepth 100000 in
theorem move_no {w : World} {a : Nat} {row : Option Nat} {l : List Int} (h : StAt w a row l) (g to : Int) (h0 : ofL l g ≠ 0) (hm : mayB (ofL l g) to = false) :
    Calls Try.prog 39 #[.pointer (some ⟨a, 0, none⟩), .int .i64 g, .int .i64 to] w fun e w' => e = .returned (.int .i64 5) ∧ Below w.heap.size w w' := by
  have hof := Lib.hid (of_c h g)
  have hmay := fun w => may_c (ofL l g) to w
  rw [hm] at hmay
  have Hmay := Lib.hid hmay
  obtain ⟨hg0, hg1, hg2⟩ := ofL_in h0
  obtain ⟨v, hb, hr⟩ := h.blk
  have hl := h.len
  have c0 : w.cell? ⟨a, 0, none⟩ = some v := hb.cell 0
  have hlen : (ints l).length = l.length := by simp [ints]
  rcases hr.form with ⟨_, h2, _⟩ | ⟨b, cap, hv, _, hcap, hmx, _, hcells, _⟩
  · rw [h2] at hlen
    simp at hlen
    omega
  rw [hlen] at hv hcap
  subst hv
  clear hlen
  have hc : w.cell? ⟨b, g.toNat, none⟩ = some (.int .i64 (ofL l g)) := hcells g.toNat _ (by
    have : g.toNat < l.length := by omega
    rw [hg2]
    simp [ints, List.getD, this])
  generalize ofL l g = f at *
  have hne : (f == 0) = false := by simpa using h0
  clear hcells hg2 h0 hm hmay
  go_enter Try.func39, Try.ntmps39
  go_wp2_with (first
    | (go_at_call 43; refine hof.out.mono ?_; rintro e w1 ⟨rfl, rfl⟩)
    | (go_at_call 54; refine (Hmay.out _).mono ?_; rintro e w1 ⟨rfl, hbl⟩))
  go_ret
  exact ⟨rfl, hbl⟩

end Go.Proofs.Ytndldoamadmphaa
