/- treadmilllaw12: told; the document's May. -/
import Derived.Test.YtfcbidlpficdgaaState6
namespace Go.Proofs.Ytfcbidlpficdgaa
open Go.RowKit

/-- The length of a slice's value. -/
theorem Row.sl {w : World} {e : TypeId} {row : Option Nat} {v : Value} {xs : List Value} (h : Row w e row v xs) : ∃ A cap, v = .slice A xs.length cap := by
  rcases h.form with ⟨h1, h2, _⟩ | ⟨g, cap, h1, _⟩
  · exact ⟨none, 0, by rw [h1, h2]; rfl⟩
  · exact ⟨_, cap, h1⟩

theorem StAt.keep {w w' : World} {a : Nat} {row : Option Nat} {l : List Int} (h : StAt w a row l) (hu : Upd (fun _ => False) w w') : StAt w' a row l := h.upd hu (fun _ _ e => e)

theorem Upd.tail {w x y : World} {S : Nat → Prop} (h : Upd (fun _ => False) w x) (k : Upd S x y) (hs : ∀ i, S i → w.heap.size ≤ i) : Upd (fun _ => False) w y := h.trans k (fun i hi => .inr (hs i hi))

set_option maxRecDepth 100000 in
set_option maxHeartbeats 1000000 in
theorem stold_c (w : World) : Calls Try.prog 14 #[] w fun e w' => e = .returned (.bool true) ∧ Upd (fun _ => False) w w' := by
  go_enter Try.func14, Try.ntmps14
  go_wp2_with fail
  refine (snew_c _).mono ?_
  rintro e w1 ⟨rfl, h1, u1⟩
  have ha : ∃ a, a = w.heap.size := ⟨_, rfl⟩
  obtain ⟨a, ha⟩ := ha
  rw [← ha] at h1 ⊢
  have Ha := Lib.hid ha
  clear ha
  go_wp2_with fail
  refine (spawn_c h1 (by simp)).mono ?_
  rintro e w2 ⟨rfl, row, h2, u2, hr2⟩
  go_wp2_with fail
  refine (move_c h2 0 5).mono ?_
  rintro e w3 ⟨rfl, h3, u3⟩
  have e3 : mvRes ([] ++ [1]) 0 5 = 5 := by decide
  have e3' : mvL ([] ++ [1]) 0 5 = [1] := by decide
  rw [e3]
  rw [e3'] at h3
  clear e3 e3'
  go_wp2_with fail
  refine (move_c h3 0 2).mono ?_
  rintro e w4 ⟨rfl, h4, u4⟩
  have e3 : mvRes [1] 0 2 = 0 := by decide
  have e3' : mvL [1] 0 2 = [2] := by decide
  rw [e3]
  rw [e3'] at h4
  clear e3 e3'
  go_wp2_with fail
  refine (move_c h4 0 5).mono ?_
  rintro e w5 ⟨rfl, h5, u5⟩
  have e3 : mvRes [2] 0 5 = 0 := by decide
  have e3' : mvL [2] 0 5 = [5] := by decide
  rw [e3]
  rw [e3'] at h5
  clear e3 e3'
  go_wp2_with fail
  refine (count_c h5 5).mono ?_
  rintro e w6 ⟨rfl, rfl⟩
  have e3 : cntK [5] 5 = 1 := by decide
  rw [e3]
  clear e3
  go_wp2_with fail
  refine (alive_c h5).mono ?_
  rintro e w6 ⟨v, rfl, ⟨r, hrow, _⟩, u6⟩
  obtain ⟨A, cap, rfl⟩ := hrow.sl
  have e3 : (ints (alive [5])).length = 0 := by decide
  rw [e3]
  clear e3 hrow
  have h6 := h5.keep u6
  go_wp2_with fail
  refine (of_c h6 5).mono ?_
  rintro e w7 ⟨rfl, rfl⟩
  have e3 : ofL [5] 5 = 0 := by decide
  rw [e3]
  clear e3
  go_wp2_with fail
  refine (may_c 3 1 _).mono ?_
  rintro e w7 ⟨rfl, u7⟩
  have e3 : mayB 3 1 = true := by decide
  rw [e3]
  clear e3
  go_wp2_with fail
  go_ret
  have hl1 := u1.size
  have ho : ∀ k, own1 a none k → w.heap.size ≤ k := by
    rintro k (rfl | hk)
    · exact Nat.le_of_eq Ha.out.symm
    · cases hk
  have ho2 : ∀ k, own1 a row k → w.heap.size ≤ k := by
    rintro k (rfl | hk)
    · exact Nat.le_of_eq Ha.out.symm
    · rcases hr2 k hk with h | h
      · cases h
      · omega
  exact ⟨rfl, (((((u1.tail u2 ho).tail u3 ho2).tail u4 ho2).tail u5 ho2).tail u6 (fun _ h => h.elim)).tail (Upd.of_below (S := fun _ => False) u7) (fun _ h => h.elim)⟩

set_option maxRecDepth 100000 in
theorem rmay_c (f t : Int) (w : World) : Calls Try.prog 9 #[.int .i64 f, .int .i64 t] w fun e w' => e = .returned (.bool (mayB f t)) ∧ w = w' := by
  have hmay : ∀ b : Bool, mayB f t = b → Hid (mayB f t = b) := fun _ h => h
  by_cases h1 : f = 1
  · subst h1
    have e1 := hmay (t == 2) (by unfold mayB; simp)
    go_enter Try.func9, Try.ntmps9
    go_wp2
    go_ret
    exact ⟨by rw [e1.out]; rfl, rfl⟩
  by_cases h2 : f = 2
  · subst h2
    by_cases t1 : t = 1 ∨ t = 3 ∨ t = 4 ∨ t = 5
    · rcases t1 with rfl | rfl | rfl | rfl
      all_goals
        go_enter Try.func9, Try.ntmps9
        go_wp2
        go_ret
        exact ⟨rfl, rfl⟩
    · have g1 : (t == 1) = false := by simp; omega
      have g3 : (t == 3) = false := by simp; omega
      have g4 : (t == 4) = false := by simp; omega
      have g5 : (t == 5) = false := by simp; omega
      have e1 := hmay false (by unfold mayB; simp [g1, g3, g4, g5])
      clear t1
      go_enter Try.func9, Try.ntmps9
      go_wp2
      go_ret
      exact ⟨by rw [e1.out]; rfl, rfl⟩
  by_cases h3 : f = 3
  · subst h3
    have e1 := hmay (t == 1) (by unfold mayB; simp)
    go_enter Try.func9, Try.ntmps9
    go_wp2
    go_ret
    exact ⟨by rw [e1.out]; rfl, rfl⟩
  by_cases h4 : f = 4
  · subst h4
    have e1 := hmay (t == 1) (by unfold mayB; simp)
    go_enter Try.func9, Try.ntmps9
    go_wp2
    go_ret
    exact ⟨by rw [e1.out]; rfl, rfl⟩
  have g1 : (f == 1) = false := by simpa using h1
  have g2 : (f == 2) = false := by simpa using h2
  have g3 : (f == 3) = false := by simpa using h3
  have g4 : (f == 4) = false := by simpa using h4
  have e1 := hmay false (by unfold mayB; simp [g1, g2, g3, g4])
  clear h1 h2 h3 h4
  go_enter Try.func9, Try.ntmps9
  go_wp2
  go_ret
  exact ⟨by rw [e1.out]; rfl, rfl⟩
end Go.Proofs.Ytfcbidlpficdgaa
