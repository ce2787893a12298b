/- Contracts of package timer: the small ones (cmp, order). -/
import Derived.Test.YtndldoamadmphaaRegion
import Derived.Handy
namespace Go.Proofs.Ytndldoamadmphaa
open Go.RowKit

theorem isnan_c (a : Int) (w : World) : Calls Try.prog 113 #[.int .i64 a] w fun e w' => e = .returned (.bool false) ∧ w = w' := by
  go_enter Try.func113, Try.ntmps113
  go_wp2
  go_ret
  exact ⟨by simp, rfl⟩
theorem isnan2_c (a : Int) (w : World) : Calls Try.prog 114 #[.int .i64 a] w fun e w' => e = .returned (.bool false) ∧ w = w' := by
  go_enter Try.func114, Try.ntmps114
  go_wp2
  go_ret
  exact ⟨by simp, rfl⟩

def cmpI (a b : Int) : Int := if a < b then -1 else if b < a then 1 else 0
set_option maxRecDepth 100000 in
theorem cmp64_c (a b : Int) (w : World) : Calls Try.prog 111 #[.int .i64 a, .int .i64 b] w fun e w' => e = .returned (.int .i64 (cmpI a b)) ∧ w = w' := by
  by_cases h1 : a < b
  · have e1 := Lib.hid (show cmpI a b = -1 by unfold cmpI; rw [if_pos h1])
    go_enter Try.func111, Try.ntmps111
    go_wp2_with (go_at_call 113; refine (isnan_c _ _).mono ?_; rintro e w1 ⟨rfl, rfl⟩)
    go_ret
    exact ⟨ret_int (by rw [e1.out]), rfl⟩
  by_cases h2 : b < a
  · have e1 := Lib.hid (show cmpI a b = 1 by unfold cmpI; rw [if_neg h1, if_pos h2])
    clear h1
    go_enter Try.func111, Try.ntmps111
    go_wp2_with (go_at_call 113; refine (isnan_c _ _).mono ?_; rintro e w1 ⟨rfl, rfl⟩)
    go_ret
    exact ⟨ret_int (by rw [e1.out]), rfl⟩
  have h3 : a = b := by omega
  subst h3
  have e1 := Lib.hid (show cmpI a a = 0 by unfold cmpI; rw [if_neg h1, if_neg h1])
  clear h1 h2
  go_enter Try.func111, Try.ntmps111
  go_wp2_with (go_at_call 113; refine (isnan_c _ _).mono ?_; rintro e w1 ⟨rfl, rfl⟩)
  go_ret
  exact ⟨ret_int (by rw [e1.out]), rfl⟩
set_option maxRecDepth 100000 in
theorem cmp_c (a b : Int) (w : World) : Calls Try.prog 112 #[.int .i64 a, .int .i64 b] w fun e w' => e = .returned (.int .i64 (cmpI a b)) ∧ w = w' := by
  by_cases h1 : a < b
  · have e1 := Lib.hid (show cmpI a b = -1 by unfold cmpI; rw [if_pos h1])
    go_enter Try.func112, Try.ntmps112
    go_wp2_with (go_at_call 114; refine (isnan2_c _ _).mono ?_; rintro e w1 ⟨rfl, rfl⟩)
    go_ret
    exact ⟨ret_int (by rw [e1.out]), rfl⟩
  by_cases h2 : b < a
  · have e1 := Lib.hid (show cmpI a b = 1 by unfold cmpI; rw [if_neg h1, if_pos h2])
    clear h1
    go_enter Try.func112, Try.ntmps112
    go_wp2_with (go_at_call 114; refine (isnan2_c _ _).mono ?_; rintro e w1 ⟨rfl, rfl⟩)
    go_ret
    exact ⟨ret_int (by rw [e1.out]), rfl⟩
  have h3 : a = b := by omega
  subst h3
  have e1 := Lib.hid (show cmpI a a = 0 by unfold cmpI; rw [if_neg h1, if_neg h1])
  clear h1 h2
  go_enter Try.func112, Try.ntmps112
  go_wp2_with (go_at_call 114; refine (isnan2_c _ _).mono ?_; rintro e w1 ⟨rfl, rfl⟩)
  go_ret
  exact ⟨ret_int (by rw [e1.out]), rfl⟩

def orI (a b : Int) : Int := if a ≠ 0 then a else b
set_option maxRecDepth 100000 in
theorem or_c (a b : Int) {w : World} {g : Nat} (h0 : w.cell? ⟨g, 0, none⟩ = some (.int .i64 a)) (h1 : w.cell? ⟨g, 1, none⟩ = some (.int .i64 b)) :
    Calls Try.prog 110 #[.slice (some ⟨g, 0, none⟩) 2 2] w fun e w' => e = .returned (.int .i64 (orI a b)) ∧ w = w' := by
  by_cases ha : a = 0
  · subst ha
    by_cases hb : b = 0
    · subst hb
      go_enter Try.func110, Try.ntmps110
      go_wp2
      refine wp_loop_rounds 3 ?_
      repeat any_goals (rw [rounds_succ]; go_wp2)
      go_ret
      exact ⟨rfl, rfl⟩
    · have e1 := Lib.hid (show orI 0 b = b by unfold orI; rw [if_neg (by simp)])
      have hb1 : (b == 0) = false := by simpa using hb
      have hb2 : (b != 0) = true := by simpa using hb
      clear hb
      go_enter Try.func110, Try.ntmps110
      go_wp2
      refine wp_loop_rounds 3 ?_
      repeat any_goals (rw [rounds_succ]; go_wp2)
      go_ret
      exact ⟨ret_int (by rw [e1.out]), rfl⟩
  · have e1 := Lib.hid (show orI a b = a by unfold orI; rw [if_pos ha])
    have hb1 : (a == 0) = false := by simpa using ha
    have hb2 : (a != 0) = true := by simpa using ha
    clear ha
    go_enter Try.func110, Try.ntmps110
    go_wp2
    refine wp_loop_rounds 3 ?_
    repeat any_goals (rw [rounds_succ]; go_wp2)
    go_ret
    exact ⟨ret_int (by rw [e1.out]), rfl⟩

/-- A sleeper: when, who, since which Add. -/
structure Sl where
  when : Int
  g : Int
  seq : Int
def Sl.v (s : Sl) : Value := .agg #[.int .i64 s.when, .int .i64 s.g, .int .i64 s.seq]
def ordI (a b : Sl) : Int := orI (cmpI a.when b.when) (cmpI a.seq b.seq)

set_option maxRecDepth 100000 in
set_option maxHeartbeats 1000000 in
theorem order_c (a b : Sl) (w : World) : Calls Try.prog 109 #[a.v, b.v] w fun e w' => e = .returned (.int .i64 (ordI a b)) ∧ Upd (fun _ => False) w w' := by
  unfold Sl.v
  go_enter Try.func109, Try.ntmps109
  go_wp2_with fail
  refine wp_still_tail 12 (by kernel_rfl) (by kernel_rfl) ?_
  simp only [List.take_succ_cons, List.take_zero, List.drop_succ_cons, List.drop_zero]
  repeat still_step
  still_call (still_of (cmp64_c _ _ _))
  repeat still_step
  still_call (still_of (cmp_c _ _ _))
  repeat still_step
  refine wpStill_nil ?_
  go_wp2_with fail
  have hb := (Blk.new' (g := w.heap.size + 1 + 1) ((w.alloc (.cells #[.int .i64 a.when, .int .i64 a.g, .int .i64 a.seq] 106)).alloc (.cells #[.int .i64 b.when, .int .i64 b.g, .int .i64 b.seq] 106)) 3 #[.int .i64 (cmpI a.when b.when), .int .i64 (cmpI a.seq b.seq)] (by simp)).drew
  refine (or_c (cmpI a.when b.when) (cmpI a.seq b.seq) (hb.cell 0) (hb.cell 1)).mono ?_
  rintro e w1 ⟨rfl, rfl⟩
  go_wp2_with fail
  go_ret
  exact ⟨rfl, ((((Upd.refl _ _).alloc _).alloc _).alloc _).drew⟩

def lessS (a b : Sl) : Bool := decide (ordI a b < 0)
def cells3 (l : List Sl) : List Value := l.flatMap fun s => [.int .i64 s.when, .int .i64 s.g, .int .i64 s.seq]
theorem cells3_len (l : List Sl) : (cells3 l).length = l.length * 3 := by
  induction l with
  | nil => rfl
  | cons x l ih =>
    unfold cells3 at ih ⊢
    simp only [List.flatMap_cons, List.length_append, List.length_cons, List.length_nil, ih]
    omega
theorem cells3_get (l : List Sl) (i : Nat) (s : Sl) (h : l[i]? = some s) :
    (cells3 l)[i * 3]? = some (.int .i64 s.when) ∧ (cells3 l)[i * 3 + 1]? = some (.int .i64 s.g) ∧ (cells3 l)[i * 3 + 2]? = some (.int .i64 s.seq) := by
  induction l generalizing i with
  | nil => simp at h
  | cons x l ih =>
    cases i with
    | zero =>
      simp at h
      subst h
      exact ⟨rfl, rfl, rfl⟩
    | succ i =>
      have h' := ih i (by simpa using h)
      have e : cells3 (x :: l) = [.int .i64 x.when, .int .i64 x.g, .int .i64 x.seq] ++ cells3 l := rfl
      rw [e]
      have e1 : (i + 1) * 3 = 3 + i * 3 := by omega
      rw [e1]
      refine ⟨?_, ?_, ?_⟩
      · rw [List.getElem?_append_right (by simp)]; simpa using h'.1
      · rw [List.getElem?_append_right (by simp; omega)]
        have : 3 + i * 3 + 1 - 3 = i * 3 + 1 := by omega
        simpa [this] using h'.2.1
      · rw [List.getElem?_append_right (by simp; omega)]
        have : 3 + i * 3 + 2 - 3 = i * 3 + 2 := by omega
        simpa [this] using h'.2.2

theorem RowN.form {w : World} {e : TypeId} {size : Nat} {row : Option Nat} {v : Value} {n : Nat} {xs : List Value} (h : RowN w e size row v n xs) : (v = .slice none 0 0 ∧ n = 0 ∧ row = none) ∨
    ∃ g cap cur, v = .slice (some ⟨g, 0, none⟩) n cap ∧ row = some g ∧ n ≤ cap ∧ cap ≤ maxLen ∧ Blk w g e cur ∧ cur.size = cap * size ∧ cur.toList.take (n * size) = xs := by
  rcases h.1.2 with ⟨hv, h0⟩ | ⟨g, cap, cur, hv, _, hh, hc, hm, hs, ht⟩
  · left
    exact ⟨hv, h0, by rw [← h.2, hv]; rfl⟩
  · right
    exact ⟨g, cap, cur, hv, by rw [← h.2, hv]; rfl, hc, hm, hh, hs, ht⟩
theorem take_cell {w : World} {g m : Nat} {e : TypeId} {cur : Array Value} {xs : List Value} (hb : Blk w g e cur) (ht : cur.toList.take m = xs) (k : Nat) (u : Value) (hk : xs[k]? = some u) : w.cell? ⟨g, k, none⟩ = some u := by
  rw [hb.cell k, ← Array.getElem?_toList]
  rw [← ht, List.getElem?_take] at hk
  split at hk
  · exact hk
  · cases hk

/-- The sleepers in memory. -/
def SlAt (w : World) (row : Option Nat) (v : Value) (l : List Sl) : Prop := RowN w 106 3 row v l.length (cells3 l)
theorem SlAt.cells {w : World} {row : Option Nat} {v : Value} {l : List Sl} (h : SlAt w row v l) {i : Nat} {s : Sl} (hi : l[i]? = some s) :
    ∃ g cap, v = .slice (some ⟨g, 0, none⟩) l.length cap ∧ row = some g ∧ w.cell? ⟨g, i * 3, none⟩ = some (.int .i64 s.when) ∧ w.cell? ⟨g, i * 3 + 1, none⟩ = some (.int .i64 s.g) ∧ w.cell? ⟨g, i * 3 + 2, none⟩ = some (.int .i64 s.seq) ∧ (∀ k, w.frozen? ⟨g, k, none⟩ = false) ∧ g < w.heap.size := by
  rcases h.form with ⟨_, h0, _⟩ | ⟨g, cap, cur, hv, hr, _, _, hb, _, ht⟩
  · have := (List.getElem?_eq_some_iff.1 hi).1
    omega
  · obtain ⟨h1, h2, h3⟩ := cells3_get l i s hi
    exact ⟨g, cap, hv, hr, take_cell hb ht _ _ h1, take_cell hb ht _ _ h2, take_cell hb ht _ _ h3, hb.frozen, hb.lt⟩

set_option maxRecDepth 100000 in
set_option maxHeartbeats 1000000 in
theorem less_c {w : World} {row : Option Nat} {v : Value} {l : List Sl} (h : SlAt w row v l) {i j : Nat} {a b : Sl} (hi : l[i]? = some a) (hj : l[j]? = some b) :
    Calls Try.prog 107 #[v, .int .i64 i, .int .i64 j] w fun e w' => e = .returned (.bool (lessS a b)) ∧ Upd (fun _ => False) w w' := by
  obtain ⟨g, cap, hv, _, a0, a1, a2, _, _⟩ := h.cells hi
  obtain ⟨g', cap', hv', _, b0, b1, b2, _, _⟩ := h.cells hj
  rw [hv] at hv'
  injection hv' with e1 _ e2
  injection e1 with e1
  injection e1 with e1
  subst e1 e2
  subst hv
  have hil := (List.getElem?_eq_some_iff.1 hi).1
  have hjl := (List.getElem?_eq_some_iff.1 hj).1
  have hilI : (i : Int) < (l.length : Int) := by omega
  have hjlI : (j : Int) < (l.length : Int) := by omega
  have hiI : (0 : Int) ≤ (i : Int) := by omega
  have hjI : (0 : Int) ≤ (j : Int) := by omega
  clear hi hj h
  go_enter Try.func107, Try.ntmps107
  go_wp2_with fail
  refine wp_still_tail 8 (by kernel_rfl) (by kernel_rfl) ?_
  simp only [List.take_succ_cons, List.take_zero, List.drop_succ_cons, List.drop_zero]
  repeat still_step
  refine wpStill_nil ?_
  go_wp2_with fail
  refine (order_c a b _).mono ?_
  rintro e w1 ⟨rfl, u1⟩
  go_wp2_with fail
  go_ret
  exact ⟨rfl, (Upd.refl _ _).drew.trans u1 (fun _ h => .inl h)⟩
end Go.Proofs.Ytndldoamadmphaa
