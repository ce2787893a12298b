/- treadmilllaw13.told. -/
import Derived.Test.YtgamaaeippdomaaHeap
import Derived.Test.YtgamaaeippdomaaInts
namespace Go.Proofs.Ytgamaaeippdomaa
open Go.RowKit

theorem told_l1 : pushL [] ⟨5, 1, 1⟩ = [⟨5, 1, 1⟩] := by simp [pushL, upL]
theorem told_l2 : pushL [⟨5, 1, 1⟩] ⟨3, 2, 2⟩ = [⟨3, 2, 2⟩, ⟨5, 1, 1⟩] := by simp [pushL, upL, lessAt, swapL, lessS, ordI, orI, cmpI]
theorem told_l3 : pushL [⟨3, 2, 2⟩, ⟨5, 1, 1⟩] ⟨3, 3, 3⟩ = [⟨3, 2, 2⟩, ⟨5, 1, 1⟩, ⟨3, 3, 3⟩] := by
  unfold pushL; rw [upL]; simp [lessAt, lessS, ordI, orI, cmpI]
theorem told_p1 : popL [⟨3, 2, 2⟩, ⟨5, 1, 1⟩, ⟨3, 3, 3⟩] 2 = [⟨3, 3, 3⟩, ⟨5, 1, 1⟩, ⟨3, 2, 2⟩] := by
  unfold popL
  have e : swapL [⟨3, 2, 2⟩, ⟨5, 1, 1⟩, ⟨3, 3, 3⟩] 0 2 = [⟨3, 3, 3⟩, ⟨5, 1, 1⟩, ⟨3, 2, 2⟩] := rfl
  rw [e, downL]
  simp [pickL, lessAt, lessS, ordI, orI, cmpI]
theorem told_p2 : popL [⟨3, 3, 3⟩, ⟨5, 1, 1⟩] 1 = [⟨5, 1, 1⟩, ⟨3, 3, 3⟩] := by
  unfold popL
  have e : swapL [⟨3, 3, 3⟩, ⟨5, 1, 1⟩] 0 1 = [⟨5, 1, 1⟩, ⟨3, 3, 3⟩] := rfl
  rw [e, downL]
  simp
theorem told_due : dueL 4 3 [⟨3, 2, 2⟩, ⟨5, 1, 1⟩, ⟨3, 3, 3⟩] = ([2, 3], [⟨5, 1, 1⟩]) := by
  simp [dueL, told_p1, told_p2]

theorem Upd.tail {w x y : World} {S : Nat → Prop} (h : Upd (fun _ => False) w x) (k : Upd S x y) (hs : ∀ i, S i → w.heap.size ≤ i) : Upd (fun _ => False) w y := h.trans k (fun i hi => .inr (hs i hi))

set_option maxRecDepth 100000 in
set_option maxHeartbeats 2000000 in
theorem ttold_c (w : World) : Calls Try.prog 8 #[] w fun e w' => e = .returned (.bool true) ∧ Upd (fun _ => False) w w' := by
  go_enter Try.func8, Try.ntmps8
  go_wp2_with fail
  refine (tnew_c _).mono ?_
  rintro e w1 ⟨rfl, h1, u1⟩
  obtain ⟨t, ht⟩ : ∃ t, t = w.heap.size := ⟨_, rfl⟩
  rw [← ht] at h1 ⊢
  have Ht := Lib.hid ht
  clear ht
  go_wp2_with fail
  refine (tadd_c (made := 0) h1 (by simp) (by omega) 5 1).mono ?_
  rintro e w2 ⟨rfl, r2, v2, h2, u2, f2⟩
  rw [show (((0 : Nat) : Int) + 1) = 1 from rfl, told_l1] at h2
  go_wp2_with fail
  refine (tadd_c (made := 1) h2 (by simp) (by omega) 3 2).mono ?_
  rintro e w3 ⟨rfl, r3, v3, h3, u3, f3⟩
  rw [show (((1 : Nat) : Int) + 1) = 2 from rfl, told_l2] at h3
  go_wp2_with fail
  refine (tadd_c (made := 2) h3 (by simp) (by omega) 3 3).mono ?_
  rintro e w4 ⟨rfl, r4, v4, h4, u4, f4⟩
  rw [show (((2 : Nat) : Int) + 1) = 3 from rfl, told_l3] at h4
  go_wp2_with fail
  refine (tnext_c h4).mono ?_
  rintro e w5 ⟨rfl, rfl⟩
  go_wp2_with fail
  refine (tdue_c h4 (by simp) 4).mono ?_
  rintro e w6 ⟨o, v6, rfl, ⟨r6, hr6, fr6⟩, h6, u6⟩
  rw [show ([⟨3, 2, 2⟩, ⟨5, 1, 1⟩, ⟨3, 3, 3⟩] : List Sl).length = 3 from rfl, told_due] at h6 hr6
  go_wp2_with fail
  have hr7 := hr6.alloc (.cells #[.int .i64 2, .int .i64 3] 3)
  have hn7 : Row (w6.alloc (.cells #[.int .i64 2, .int .i64 3] 3)) 3 (some w6.heap.size) (.slice (some ⟨w6.heap.size, 0, none⟩) 2 2) (([2, 3] : List Int).map (Value.int .i64)) :=
    Row.of_block (Blk.new _ _ _) (by simp) (by unfold maxLen; omega) rfl rfl
  obtain ⟨A, cA, rfl, hA⟩ := hr7.rdf
  obtain ⟨B, cB, hBv, hB⟩ := hn7.rdf
  injection hBv with e1 e2 e3
  subst e1 e3
  clear e2
  have h7 : HAt (w6.alloc (.cells #[.int .i64 2, .int .i64 3] 3)) t r4 v6 [⟨5, 1, 1⟩] 3 := h6.upd (S := fun _ => False) ((Upd.refl _ _).alloc _) (fun e => e) (fun _ _ e => e)
  refine (ints_c hA hB).mono ?_
  rintro e w7 ⟨rfl, m, rfl⟩
  have Hlen := Lib.hid (tlen_c (h7.upd (S := fun _ => False) ((Upd.refl _ _).drewN m) (fun e => e) (fun _ _ e => e)))
  go_wp2_with (refine Hlen.out.mono ?_; rintro e w8 ⟨rfl, rfl⟩)
  go_ret
  have ht : t = w.heap.size := Ht.out
  have s1 := u1.size
  have s2 := u2.size
  have s3 := u3.size
  have s4 := u4.size
  have g2 : ∀ k, r2 = some k → w.heap.size ≤ k := fun k hk => by
    rcases f2 k hk with e | e
    · cases e
    · omega
  have g3 : ∀ k, r3 = some k → w.heap.size ≤ k := fun k hk => by
    rcases f3 k hk with e | e
    · exact g2 k e
    · omega
  have g4 : ∀ k, r4 = some k → w.heap.size ≤ k := fun k hk => by
    rcases f4 k hk with e | e
    · exact g3 k e
    · omega
  have U2 := u1.tail u2 (fun k e => e.elim (fun e => by omega) (fun e => by cases e))
  have U3 := U2.tail u3 (fun k e => e.elim (fun e => by omega) (g2 k))
  have U4 := U3.tail u4 (fun k e => e.elim (fun e => by omega) (g3 k))
  have U6 := U4.tail u6 (fun k e => e.elim (fun e => by omega) (g4 k))
  exact ⟨rfl, (U6.alloc _).drewN m⟩
end Go.Proofs.Ytgamaaeippdomaa
