/- does: the row of what instructions do; the closure that recovers, in its two modes. -/
import Derived.Test.YtndldoamadmphaaMd11
import Derived.Defers
import Derived.Recover
namespace Go.Proofs.Ytndldoamadmphaa
open Go.RowKit
def opFs : List Nat := [55, 56, 57, 58, 59, 60, 61, 62, 63, 64, 65, 66, 67, 68, 69, 70, 71, 72]
def opV (m k : Nat) : Value := .func (.func k) #[.pointer (some ⟨m, 0, none⟩)] #[]
def opsV (m : Nat) : Array Value := #[opV m 55, opV m 56, opV m 57, opV m 58, opV m 59, opV m 60, opV m 61, opV m 62, opV m 63, opV m 64, opV m 65, opV m 66, opV m 67, opV m 68, opV m 69, opV m 70, opV m 71, opV m 72]
section
variable {w : World} {m : Nat}
set_option maxRecDepth 100000 in
set_option maxHeartbeats 2000000 in
theorem does_c : Calls Try.prog 42 #[.pointer (some ⟨m, 0, none⟩)] w fun e w' => e = .returned (.slice (some ⟨w.heap.size, 0, none⟩) 18 18) ∧ w' = w.alloc (.cells (opsV m) 81) := by
  have hmf : ∀ (fn : Fn) (first cap : Array Value) (w : World), (Instr.makeFunc fn first cap).run Try.prog w = .ok (.func fn first cap) w := fun _ _ _ _ => rfl
  go_enter Try.func42, Try.ntmps42
  go_wp2
  go_ret
  exact ⟨rfl, rfl⟩
theorem fault_is (v : Value) (w : World) : (Instr.typeAssert (.iface 79 v) 20 79 true).run Try.prog w = .ok (.tuple #[v, .bool true]) w := by kernel_rfl
theorem fault_no (w : World) : (Instr.typeAssert .nilIface 20 79 true).run Try.prog w = .ok (.tuple #[.agg #[], .bool false]) w := by kernel_rfl
set_option maxRecDepth 100000 in
set_option maxHeartbeats 2000000 in
theorem catch_panicking {vb to : Nat} {cv : Array Value} {x a4 a5 : Value} (h4 : cv[4]? = some a4) (h5 : cv[5]? = some a5) (hv : Blk w vb 34 cv) (ht : Blk w to 3 #[x]) (hne : to ≠ vb) :
    CallsD Try.prog 41 #[.pointer (some ⟨vb, 0, none⟩), .pointer (some ⟨to, 0, none⟩)] (.panicking [{ v := faultV, recovered := false }]) w fun e u' w' =>
      e = .returned (.tuple #[]) ∧ u' = .panicking [{ v := faultV, recovered := true }] ∧ Upd (fun k => k = vb ∨ k = to) w w' ∧ Blk w' vb 34 ((cv.setIfInBounds 4 (.int .i64 0)).setIfInBounds 5 (.bool true)) ∧ Blk w' to 3 #[.int .i64 5] := by
  have c4 := hv.cell 4
  have c5 := hv.cell 5
  have ct := ht.cell 0
  have f4 := hv.frozen 4
  have f5 := hv.frozen 5
  have ft := ht.frozen 0
  rw [h4] at c4
  rw [h5] at c5
  have ct2 : w.cell? ⟨to, 0, none⟩ = some x := ct
  have hvl := hv.lt
  have htl := ht.lt
  have hfin : ∀ w2, w2 = (((w.setCell ⟨vb, 4, none⟩ (.int .i64 0)).setCell ⟨vb, 5, none⟩ (.bool true)).setCell ⟨to, 0, none⟩ (.int .i64 5)).alloc (.cells #[] 79) →
      Upd (fun k => k = vb ∨ k = to) w w2 ∧ Blk w2 vb 34 ((cv.setIfInBounds 4 (.int .i64 0)).setIfInBounds 5 (.bool true)) ∧ Blk w2 to 3 #[.int .i64 5] := by
    rintro w2 rfl
    have hu : Upd (fun k => k = vb) w ((w.setCell ⟨vb, 4, none⟩ (.int .i64 0)).setCell ⟨vb, 5, none⟩ (.bool true)) :=
      ((Upd.refl (fun k => k = vb) w).setCell (p := ⟨vb, 4, none⟩) (.inl rfl) _).setCell (p := ⟨vb, 5, none⟩) (.inl rfl) _
    have hb := (hv.set_ 4 (.int .i64 0)).set_ 5 (.bool true)
    have ht2 := (ht.upd hu hne).set_ 0 (.int .i64 5)
    have hu2 := (Upd.refl (fun k => k = to) ((w.setCell ⟨vb, 4, none⟩ (.int .i64 0)).setCell ⟨vb, 5, none⟩ (.bool true))).setCell (p := ⟨to, 0, none⟩) (.inl rfl) (.int .i64 5)
    exact ⟨((hu.mono (fun _ e => .inl (.inl e))).trans hu2 (fun _ e => .inl (.inr e))).alloc _, (hb.upd hu2 (fun e => hne e.symm)).alloc _, ht2.alloc _⟩
  clear hv ht
  refine callsD_of_wpS Try.func41 rfl fun c₀ cs hu => ?_
  apply wpS_seq
  apply wpS_region
  simp [wpOpsS, go_sem, recoverD, hu, Try.ntmps41, Exit.thenS, faultV, fault_is, Array.replicate]
  apply wpS_seq
  apply wpS_region
  simp [wpOpsS, go_sem, Exit.thenS]
  refine wpS_cond (t := true) (by simp [Act.eval]) ?_
  simp only [if_true]
  apply wpS_region
  simp [wpOpsS, go_sem, c4, c5, ct2, f4, f5, ft, hvl, htl, bodyPostS, results, Try.results41]
  exact hfin _ rfl
set_option maxRecDepth 100000 in
set_option maxHeartbeats 2000000 in
theorem catch_idle {vb to : Nat} :
    CallsD Try.prog 41 #[.pointer (some ⟨vb, 0, none⟩), .pointer (some ⟨to, 0, none⟩)] .returning w fun e u' w' =>
      e = .returned (.tuple #[]) ∧ u' = .returning ∧ w' = w.alloc (.cells #[] 79) := by
  refine callsD_of_wpS Try.func41 rfl fun c₀ cs hu => ?_
  apply wpS_seq
  apply wpS_region
  simp [wpOpsS, go_sem, recoverD, hu, Try.ntmps41, Exit.thenS, fault_no, Array.replicate]
  apply wpS_seq
  apply wpS_region
  simp [wpOpsS, go_sem, Exit.thenS]
  refine wpS_cond (t := false) (by simp [Act.eval]) ?_
  simp only [Bool.false_eq_true, if_false]
  refine wpS_of_wp (wp_skip ?_)
  cases c₀
  simp_all [bodyPostS, results, Try.results41]
end
end Go.Proofs.Ytndldoamadmphaa
