/- Contracts of package state: the goroutines' states in memory. -/
import Derived.Test.YtndldoamadmphaaState
namespace Go.Proofs.Ytndldoamadmphaa
open Go.RowKit

def cnt (l : List Int) (k : Int) : Nat := (l.filter (· == k)).length
/-- A States at block a: its list in block 'row'. -/
structure StAt (w : World) (a : Nat) (row : Option Nat) (l : List Int) : Prop where
  blk : ∃ v, Blk w a 93 #[v, .int .i64 0, .int .i64 (cnt l 1), .int .i64 (cnt l 2), .int .i64 (cnt l 3), .int .i64 (cnt l 4), .int .i64 (cnt l 5)] ∧ Row w 3 row v (ints l)
  ne : row ≠ some a
  rng : ∀ x ∈ l, 1 ≤ x ∧ x ≤ 5
  len : l.length ≤ 1024
def own1 (a : Nat) (row : Option Nat) : Nat → Prop := fun k => k = a ∨ row = some k

theorem StAt.upd {w w' : World} {a : Nat} {row : Option Nat} {l : List Int} {S : Nat → Prop} (h : StAt w a row l) (hu : Upd S w w') (hn : ∀ k, own1 a row k → ¬ S k) : StAt w' a row l := by
  obtain ⟨v, hb, hr⟩ := h.blk
  exact ⟨⟨v, hb.upd hu (hn a (.inl rfl)), hr.upd hu (fun k hk => hn k (.inr hk))⟩, h.ne, h.rng, h.len⟩
theorem StAt.lt {w : World} {a : Nat} {row : Option Nat} {l : List Int} (h : StAt w a row l) : ∀ k, own1 a row k → k < w.heap.size := by
  obtain ⟨v, hb, hr⟩ := h.blk
  rintro k (rfl | hk)
  · exact hb.lt
  · exact hr.lt k hk

def ofL (l : List Int) (g : Int) : Int := if 0 ≤ g ∧ g < l.length then l.getD g.toNat 0 else 0

theorem snew_c (w : World) : Calls Try.prog 35 #[] w fun e w' => e = .returned (.pointer (some ⟨w.heap.size, 0, none⟩)) ∧ StAt w' w.heap.size none [] ∧ Upd (fun _ => False) w w' := by
  go_enter Try.func35, Try.ntmps35
  go_wp2
  go_ret
  exact ⟨rfl, ⟨⟨.slice none 0 0, Blk.new _ _ _, Row.nil _ _⟩, by simp, by simp, by simp⟩, (Upd.refl _ _).alloc _⟩

theorem slen_c {w : World} {a : Nat} {row : Option Nat} {l : List Int} (h : StAt w a row l) :
    Calls Try.prog 73 #[.pointer (some ⟨a, 0, none⟩)] w fun e w' => e = .returned (.int .i64 l.length) ∧ w = w' := by
  obtain ⟨v, hb, hr⟩ := h.blk
  have c0 := hb.cell 0
  simp only [List.getElem?_toArray, List.getElem?_cons_zero] at c0
  have hlen : (ints l).length = l.length := by simp [ints]
  rcases hr.form with ⟨rfl, h0, _⟩ | ⟨g, cap, hv, _⟩
  · have e0 := Lib.hid (show (l.length : Int) = 0 by rw [← hlen, h0]; rfl)
    clear hlen h0
    go_enter Try.func73, Try.ntmps73
    go_wp2
    go_ret
    exact ⟨ret_int (by rw [e0.out]), rfl⟩
  · rw [hlen] at hv
    subst hv
    clear hlen
    go_enter Try.func73, Try.ntmps73
    go_wp2
    go_ret
    exact ⟨rfl, rfl⟩

theorem slen_nil (w : World) : Calls Try.prog 73 #[.pointer none] w fun e w' => e = .returned (.int .i64 0) ∧ w = w' := by
  go_enter Try.func73, Try.ntmps73
  go_wp2
  go_ret
  exact ⟨rfl, rfl⟩

theorem of_c {w : World} {a : Nat} {row : Option Nat} {l : List Int} (h : StAt w a row l) (g : Int) :
    Calls Try.prog 43 #[.pointer (some ⟨a, 0, none⟩), .int .i64 g] w fun e w' => e = .returned (.int .i64 (ofL l g)) ∧ w = w' := by
  obtain ⟨v, hb, hr⟩ := h.blk
  have hl := h.len
  have c0 := hb.cell 0
  simp only [List.getElem?_toArray, List.getElem?_cons_zero] at c0
  have hlen : (ints l).length = l.length := by simp [ints]
  by_cases h1 : g < 0
  · have e0 := Lib.hid (show ofL l g = 0 by unfold ofL; rw [if_neg (by omega)])
    clear hlen
    go_enter Try.func43, Try.ntmps43
    go_wp2
    go_ret
    exact ⟨ret_int (by rw [e0.out]), rfl⟩
  rcases hr.form with ⟨rfl, h0, _⟩ | ⟨b, cap, hv, _, hcap, hm, _, hcells, _⟩
  · have e0 := Lib.hid (show ofL l g = 0 by unfold ofL; rw [if_neg (by rw [← hlen, h0]; simp)])
    clear hlen h0
    go_enter Try.func43, Try.ntmps43
    go_wp2
    go_ret
    exact ⟨ret_int (by rw [e0.out]), rfl⟩
  · rw [hlen] at hv hcap
    subst hv
    clear hlen
    by_cases h2 : g < l.length
    · have hc : w.cell? ⟨b, g.toNat, none⟩ = some (.int .i64 (l.getD g.toNat 0)) := hcells g.toNat _ (by
        have : g.toNat < l.length := by omega
        simp [ints, List.getD, this])
      have e0 := Lib.hid (show ofL l g = l.getD g.toNat 0 by unfold ofL; rw [if_pos (by omega)])
      clear hcells
      go_enter Try.func43, Try.ntmps43
      go_wp2
      go_ret
      exact ⟨ret_int (by rw [e0.out]; simp [List.getD, show g.toNat < l.length by omega]), rfl⟩
    · have e0 := Lib.hid (show ofL l g = 0 by unfold ofL; rw [if_neg (by omega)])
      clear hcells
      go_enter Try.func43, Try.ntmps43
      go_wp2
      go_ret
      exact ⟨ret_int (by rw [e0.out]), rfl⟩

theorem of_nil (w : World) (g : Int) : Calls Try.prog 43 #[.pointer none, .int .i64 g] w fun e w' => e = .returned (.int .i64 0) ∧ w = w' := by
  go_enter Try.func43, Try.ntmps43
  go_wp2
  go_ret
  exact ⟨rfl, rfl⟩

def cntK (l : List Int) (k : Int) : Int := if 1 ≤ k ∧ k ≤ 5 then (cnt l k : Int) else 0
theorem count_c {w : World} {a : Nat} {row : Option Nat} {l : List Int} (h : StAt w a row l) (k : Int) :
    Calls Try.prog 46 #[.pointer (some ⟨a, 0, none⟩), .int .i64 k] w fun e w' => e = .returned (.int .i64 (cntK l k)) ∧ w = w' := by
  obtain ⟨v, hb, _⟩ := h.blk
  by_cases h1 : k ≤ 0
  · have e0 := Lib.hid (show cntK l k = 0 by unfold cntK; rw [if_neg (by omega)])
    go_enter Try.func46, Try.ntmps46
    go_wp2
    go_ret
    exact ⟨ret_int (by rw [e0.out]), rfl⟩
  by_cases h2 : 5 < k
  · have e0 := Lib.hid (show cntK l k = 0 by unfold cntK; rw [if_neg (by omega)])
    go_enter Try.func46, Try.ntmps46
    go_wp2
    go_ret
    exact ⟨ret_int (by rw [e0.out]), rfl⟩
  have hk : k = 1 ∨ k = 2 ∨ k = 3 ∨ k = 4 ∨ k = 5 := by omega
  have e0 := Lib.hid (show cntK l k = cnt l k by unfold cntK; rw [if_pos (by omega)])
  clear h1 h2
  have c2 : w.cell? ⟨a, 2, none⟩ = some (.int .i64 (cnt l 1)) := hb.cell 2
  have c3 : w.cell? ⟨a, 3, none⟩ = some (.int .i64 (cnt l 2)) := hb.cell 3
  have c4 : w.cell? ⟨a, 4, none⟩ = some (.int .i64 (cnt l 3)) := hb.cell 4
  have c5 : w.cell? ⟨a, 5, none⟩ = some (.int .i64 (cnt l 4)) := hb.cell 5
  have c6 : w.cell? ⟨a, 6, none⟩ = some (.int .i64 (cnt l 5)) := hb.cell 6
  rcases hk with rfl | rfl | rfl | rfl | rfl
  all_goals
    go_enter Try.func46, Try.ntmps46
    go_wp2
    go_ret
    exact ⟨ret_int (by rw [e0.out]), rfl⟩

end Go.Proofs.Ytndldoamadmphaa
