/- does: the row of what instructions do; the closure that recovers, in its two modes. Do's own closure: the instruction is called through its function's value; it returns. Do's own closure: the instruction is called through its function's value; it panics. Do where there is nothing to do. -/
import Derived.Test.YtndldoamadmphaaMd11
import Derived.Defers
import Derived.Recover
import Derived.Deep.RegionHeld3
namespace Go.Proofs.Ytndldoamadmphaa
open Go.RowKit
def opFs : List Nat := [55, 56, 57, 58, 59, 60, 61, 62, 63, 64, 65, 66, 67, 68, 69, 70, 71, 72]
def opV (m k : Nat) : Value := .func (.func k) #[.pointer (some ⟨m, 0, none⟩)] #[]
def opsV (m : Nat) : Array Value := #[opV m 55, opV m 56, opV m 57, opV m 58, opV m 59, opV m 60, opV m 61, opV m 62, opV m 63, opV m 64, opV m 65, opV m 66, opV m 67, opV m 68, opV m 69, opV m 70, opV m 71, opV m 72]
section
variable {w : World} {m : Nat}
set_option maxRecDepth 100000 in
set_option maxHeartbeats 2000000 in
theorem does_c : Calls Try.prog 42 #[.pointer (some ⟨m, 0, none⟩)] w fun e w' => e = .returned (.slice (some ⟨w.heap.size, 0, none⟩) 18 18) ∧ w' = w.alloc (.cells (opsV m) 81) := by
  have hmf : ∀ (fn : Fn) (first cap : Array Value) (w : World), (Instr.makeFunc fn first cap).run Try.prog w = .ok (.func fn first cap) w := fun _ _ _ _ => rfl
  go_enter Try.func42, Try.ntmps42
  go_wp2
  go_ret
  exact ⟨rfl, rfl⟩
theorem fault_is (v : Value) (w : World) : (Instr.typeAssert (.iface 79 v) 20 79 true).run Try.prog w = .ok (.tuple #[v, .bool true]) w := by kernel_rfl
theorem fault_no (w : World) : (Instr.typeAssert .nilIface 20 79 true).run Try.prog w = .ok (.tuple #[.agg #[], .bool false]) w := by kernel_rfl
set_option maxRecDepth 100000 in
set_option maxHeartbeats 2000000 in
theorem catch_panicking {vb to : Nat} {cv : Array Value} {x a4 a5 : Value} (h4 : cv[4]? = some a4) (h5 : cv[5]? = some a5) (hv : Blk w vb 34 cv) (ht : Blk w to 3 #[x]) (hne : to ≠ vb) :
    CallsD Try.prog 41 #[.pointer (some ⟨vb, 0, none⟩), .pointer (some ⟨to, 0, none⟩)] (.panicking [{ v := faultV, recovered := false }]) w fun e u' w' =>
      e = .returned (.tuple #[]) ∧ u' = .panicking [{ v := faultV, recovered := true }] ∧ Upd (fun k => k = vb ∨ k = to) w w' ∧ Blk w' vb 34 ((cv.setIfInBounds 4 (.int .i64 0)).setIfInBounds 5 (.bool true)) ∧ Blk w' to 3 #[.int .i64 5] := by
  have c4 := hv.cell 4
  have c5 := hv.cell 5
  have ct := ht.cell 0
  have f4 := hv.frozen 4
  have f5 := hv.frozen 5
  have ft := ht.frozen 0
  rw [h4] at c4
  rw [h5] at c5
  have ct2 : w.cell? ⟨to, 0, none⟩ = some x := ct
  have hvl := hv.lt
  have htl := ht.lt
  have hfin : ∀ w2, w2 = (((w.setCell ⟨vb, 4, none⟩ (.int .i64 0)).setCell ⟨vb, 5, none⟩ (.bool true)).setCell ⟨to, 0, none⟩ (.int .i64 5)).alloc (.cells #[] 79) →
      Upd (fun k => k = vb ∨ k = to) w w2 ∧ Blk w2 vb 34 ((cv.setIfInBounds 4 (.int .i64 0)).setIfInBounds 5 (.bool true)) ∧ Blk w2 to 3 #[.int .i64 5] := by
    rintro w2 rfl
    have hu : Upd (fun k => k = vb) w ((w.setCell ⟨vb, 4, none⟩ (.int .i64 0)).setCell ⟨vb, 5, none⟩ (.bool true)) :=
      ((Upd.refl (fun k => k = vb) w).setCell (p := ⟨vb, 4, none⟩) (.inl rfl) _).setCell (p := ⟨vb, 5, none⟩) (.inl rfl) _
    have hb := (hv.set_ 4 (.int .i64 0)).set_ 5 (.bool true)
    have ht2 := (ht.upd hu hne).set_ 0 (.int .i64 5)
    have hu2 := (Upd.refl (fun k => k = to) ((w.setCell ⟨vb, 4, none⟩ (.int .i64 0)).setCell ⟨vb, 5, none⟩ (.bool true))).setCell (p := ⟨to, 0, none⟩) (.inl rfl) (.int .i64 5)
    exact ⟨((hu.mono (fun _ e => .inl (.inl e))).trans hu2 (fun _ e => .inl (.inr e))).alloc _, (hb.upd hu2 (fun e => hne e.symm)).alloc _, ht2.alloc _⟩
  clear hv ht
  refine callsD_of_wpS Try.func41 rfl fun c₀ cs hu => ?_
  apply wpS_seq
  apply wpS_region
  simp [wpOpsS, go_sem, recoverD, hu, Try.ntmps41, Exit.thenS, faultV, fault_is, Array.replicate]
  apply wpS_seq
  apply wpS_region
  simp [wpOpsS, go_sem, Exit.thenS]
  refine wpS_cond (t := true) (by simp [Act.eval]) ?_
  simp only [if_true]
  apply wpS_region
  simp [wpOpsS, go_sem, c4, c5, ct2, f4, f5, ft, hvl, htl, bodyPostS, results, Try.results41]
  exact hfin _ rfl
set_option maxRecDepth 100000 in
set_option maxHeartbeats 2000000 in
theorem catch_idle {vb to : Nat} :
    CallsD Try.prog 41 #[.pointer (some ⟨vb, 0, none⟩), .pointer (some ⟨to, 0, none⟩)] .returning w fun e u' w' =>
      e = .returned (.tuple #[]) ∧ u' = .returning ∧ w' = w.alloc (.cells #[] 79) := by
  refine callsD_of_wpS Try.func41 rfl fun c₀ cs hu => ?_
  apply wpS_seq
  apply wpS_region
  simp [wpOpsS, go_sem, recoverD, hu, Try.ntmps41, Exit.thenS, fault_no, Array.replicate]
  apply wpS_seq
  apply wpS_region
  simp [wpOpsS, go_sem, Exit.thenS]
  refine wpS_cond (t := false) (by simp [Act.eval]) ?_
  simp only [Bool.false_eq_true, if_false]
  refine wpS_of_wp (wp_skip ?_)
  cases c₀
  simp_all [bodyPostS, results, Try.results41]
end
end Go.Proofs.Ytndldoamadmphaa
namespace Go.Proofs.Ytndldoamadmphaa
open Go.RowKit
theorem opsV_at {m k f : Nat} (h : opFs[k]? = some f) : (opsV m)[k]? = some (opV m f) := by
  have hm : (opsV m).toList = opFs.map (opV m) := rfl
  rw [← Array.getElem?_toList, hm, List.getElem?_map, h]
  rfl
theorem enters {k f : Nat} (h : opFs[k]? = some f) (args : Array Value) (w : World) : Sem.run Try.prog (callFunc f args) w = .ok (.enter f args) w := by
  have hm : f ∈ opFs := List.mem_of_getElem? h
  simp only [opFs, List.mem_cons, List.not_mem_nil, or_false] at hm
  rcases hm with rfl | rfl | rfl | rfl | rfl | rfl | rfl | rfl | rfl | rfl | rfl | rfl | rfl | rfl | rfl | rfl | rfl | rfl <;> (clear h; change Sem.run _ _ _ = _; first | kernel_rfl | rfl)
section
variable {w : World} {vb to mb ib gb xb m g gp k f : Nat} {i : In} {ret : Int} {R : World → Prop}
set_option maxRecDepth 100000 in
set_option maxHeartbeats 2000000 in
theorem do1_yes (hm : Blk w mb 29 #[.pointer (some ⟨m, 0, none⟩)]) (hi : Blk w ib 40 #[.int .i64 i.op, .int .i64 i.a, .int .i64 i.b, .int .i64 i.c]) (hg : Blk w gb 3 #[.int .i64 g]) (hx : Blk w xb 74 #[.pointer (some ⟨gp, 0, none⟩)])
    (hn : to ≠ mb ∧ to ≠ ib ∧ to ≠ gb ∧ to ≠ xb) (hop : i.op = k) (hf : opFs[k]? = some f)
    (hcall : Calls Try.prog f #[.pointer (some ⟨m, 0, none⟩), .int .i64 g, .pointer (some ⟨gp, 0, none⟩), i.v, .pointer (some ⟨vb, 4, none⟩)] (w.drew.alloc (.cells (opsV m) 81)) fun e w' => e = .returned (.int .i64 ret) ∧ R w')
    (hR : ∀ w', R w' → Blk w' to 3 #[.int .i64 1] ∧ Blk w' mb 29 #[.pointer (some ⟨m, 0, none⟩)] ∧ Blk w' ib 40 #[.int .i64 i.op, .int .i64 i.a, .int .i64 i.b, .int .i64 i.c] ∧ Blk w' gb 3 #[.int .i64 g] ∧ Blk w' xb 74 #[.pointer (some ⟨gp, 0, none⟩)]) :
    Calls Try.prog 40 #[.pointer (some ⟨vb, 0, none⟩), .pointer (some ⟨to, 0, none⟩), .pointer (some ⟨mb, 0, none⟩), .pointer (some ⟨ib, 0, none⟩), .pointer (some ⟨gb, 0, none⟩), .pointer (some ⟨xb, 0, none⟩)] w fun e w' =>
      e = .returned (.tuple #[]) ∧ ∃ w1, R w1 ∧ w' = (w1.setCell ⟨to, 0, none⟩ (.int .i64 ret)).alloc (.cells #[] 79) := by
  have hmf : ∀ (fn : Fn) (first cap : Array Value) (w : World), (Instr.makeFunc fn first cap).run Try.prog w = .ok (.func fn first cap) w := fun _ _ _ _ => rfl
  have m0 : w.cell? ⟨mb, 0, none⟩ = some (.pointer (some ⟨m, 0, none⟩)) := hm.cell 0
  have g0 : w.cell? ⟨gb, 0, none⟩ = some (.int .i64 g) := hg.cell 0
  have x0 : w.cell? ⟨xb, 0, none⟩ = some (.pointer (some ⟨gp, 0, none⟩)) := hx.cell 0
  have i0 : w.cell? ⟨ib, 0, none⟩ = some (.int .i64 k) := by rw [← hop]; exact hi.cell 0
  have i1 : w.cell? ⟨ib, 1, none⟩ = some (.int .i64 i.a) := hi.cell 1
  have i2 : w.cell? ⟨ib, 2, none⟩ = some (.int .i64 i.b) := hi.cell 2
  have i3 : w.cell? ⟨ib, 3, none⟩ = some (.int .i64 i.c) := hi.cell 3
  have hcf : ∀ (args : Array Value) (w : World), Sem.run Try.prog (callFunc f args) w = .ok (.enter f args) w := enters hf
  have hml := hm.lt
  have hgl := hg.lt
  have hxl := hx.lt
  have hil := hi.lt
  have hk18 : k < 18 := by
    have := (List.getElem?_eq_some_iff.1 hf).1
    exact this
  have hkI : (k : Int) < 18 := by omega
  have hrow : (w.drew.alloc (.cells (opsV m) 81)).cell? ⟨w.heap.size, k, none⟩ = some (opV m f) := by
    have := (Blk.new w.drew 81 (opsV m)).cell k
    rw [opsV_at hf] at this
    exact this
  have hrow2 : (w.alloc (.cells (opsV m) 81)).drew.cell? ⟨w.heap.size, k, none⟩ = some (.func (.func f) #[.pointer (some ⟨m, 0, none⟩)] #[]) := hrow
  clear hrow
  have hops : (opsV m)[k]? = some (.func (.func f) #[.pointer (some ⟨m, 0, none⟩)] #[]) := opsV_at (m := m) hf
  have hS : ∀ W, Blk W mb 29 #[.pointer (some ⟨m, 0, none⟩)] → Blk W ib 40 #[.int .i64 i.op, .int .i64 i.a, .int .i64 i.b, .int .i64 i.c] → Blk W gb 3 #[.int .i64 g] → Blk W xb 74 #[.pointer (some ⟨gp, 0, none⟩)] →
      W.cell? ⟨mb, 0, none⟩ = some (.pointer (some ⟨m, 0, none⟩)) ∧ W.cell? ⟨gb, 0, none⟩ = some (.int .i64 g) ∧ W.cell? ⟨xb, 0, none⟩ = some (.pointer (some ⟨gp, 0, none⟩)) ∧ W.cell? ⟨ib, 0, none⟩ = some (.int .i64 k) ∧ W.cell? ⟨ib, 1, none⟩ = some (.int .i64 i.a) ∧ W.cell? ⟨ib, 2, none⟩ = some (.int .i64 i.b) ∧ W.cell? ⟨ib, 3, none⟩ = some (.int .i64 i.c) :=
    fun W q1 q2 q3 q4 => ⟨q1.cell 0, q3.cell 0, q4.cell 0, by rw [← hop]; exact q2.cell 0, q2.cell 1, q2.cell 2, q2.cell 3⟩
  have hS0 := Lib.hid (hS w hm hi hg hx)
  have hS1 := Lib.hid (hS _ (hm.alloc (.cells (opsV m) 81)).drew (hi.alloc _).drew (hg.alloc _).drew (hx.alloc _).drew)
  have hS2 := Lib.hid (fun W (q : R W) => hS W (hR W q).2.1 (hR W q).2.2.1 (hR W q).2.2.2.1 (hR W q).2.2.2.2)
  have hS3 := Lib.hid (fun W (q : R W) => hS (W.setCell ⟨to, 0, none⟩ (.int .i64 ret)) ((hR W q).2.1.far (p := ⟨to, 0, none⟩) hn.1.symm _) ((hR W q).2.2.1.far (p := ⟨to, 0, none⟩) hn.2.1.symm _) ((hR W q).2.2.2.1.far (p := ⟨to, 0, none⟩) hn.2.2.1.symm _) ((hR W q).2.2.2.2.far (p := ⟨to, 0, none⟩) hn.2.2.2.symm _))
  clear hS
  unfold In.v at hcall
  rw [hop] at hcall
  have Hc := Lib.hid hcall
  have HR := Lib.hid hR
  clear hcall hR hm hi hg hx hop hf hn
  go_enter_defers Try.func40, Try.ntmps40
  go_wp2_with fail
  refine wp_region_noPanic ?_
  refine wp_region_held_drew (S := (fun W => W.cell? ⟨mb, 0, none⟩ = some (.pointer (some ⟨m, 0, none⟩)) ∧ W.cell? ⟨gb, 0, none⟩ = some (.int .i64 g) ∧ W.cell? ⟨xb, 0, none⟩ = some (.pointer (some ⟨gp, 0, none⟩)) ∧ W.cell? ⟨ib, 0, none⟩ = some (.int .i64 k) ∧ W.cell? ⟨ib, 1, none⟩ = some (.int .i64 i.a) ∧ W.cell? ⟨ib, 2, none⟩ = some (.int .i64 i.b) ∧ W.cell? ⟨ib, 3, none⟩ = some (.int .i64 i.c))) (by kernel_rfl) hS0.out (fun hHeld => ?_)
  refine wpAnyH_take (i := 0) (v := .pointer (some ⟨m, 0, none⟩)) rfl (by kernel_rfl) (by kernel_rfl) (by kernel_rfl) (fun _ _ _ h => h) (Or.inl ⟨by rfl, ?_⟩) (by assumption) ?_
  · intro w hSw
    try dsimp only at hSw
    go_simp
  simp only [Act.put, List.setIfInBounds_toArray]
  refine wpAnyH_take (i := 2) (v := .pointer (some ⟨ib, 0, none⟩)) rfl (by kernel_rfl) (by kernel_rfl) (by kernel_rfl) (fun _ _ _ h => h) (Or.inl ⟨by rfl, ?_⟩) (by assumption) ?_
  · intro w hSw
    try dsimp only at hSw
    go_simp
  simp only [Act.put]
  refine wpAnyH_take (i := 3) (v := .int .i64 k) rfl (by kernel_rfl) (by kernel_rfl) (by kernel_rfl) (fun _ _ _ h => h) (Or.inl ⟨by rfl, ?_⟩) (by assumption) ?_
  · intro w hSw
    try dsimp only at hSw
    go_simp
  simp only [Act.put]
  refine wpAnyH_take (i := 6) (v := .int .i64 g) rfl (by kernel_rfl) (by kernel_rfl) (by kernel_rfl) (fun _ _ _ h => h) (Or.inl ⟨by rfl, ?_⟩) (by assumption) ?_
  · intro w hSw
    try dsimp only at hSw
    go_simp
  simp only [Act.put]
  refine wpAnyH_take (i := 7) (v := .pointer (some ⟨gp, 0, none⟩)) rfl (by kernel_rfl) (by kernel_rfl) (by kernel_rfl) (fun _ _ _ h => h) (Or.inl ⟨by rfl, ?_⟩) (by assumption) ?_
  · intro w hSw
    try dsimp only at hSw
    go_simp
  simp only [Act.put]
  refine wpAnyH_take (i := 8) (v := .agg #[.int .i64 k, .int .i64 i.a, .int .i64 i.b, .int .i64 i.c]) rfl (by kernel_rfl) (by kernel_rfl) (by kernel_rfl) (fun _ _ _ h => h) (Or.inl ⟨by rfl, ?_⟩) (by assumption) ?_
  · intro w hSw
    try dsimp only at hSw
    go_simp
  simp only [Act.put]
  refine wpAnyH_take (i := 9) (v := .pointer (some ⟨vb, 4, none⟩)) rfl (by kernel_rfl) (by kernel_rfl) (by kernel_rfl) (fun _ _ _ h => h) (Or.inl ⟨by rfl, ?_⟩) (by assumption) ?_
  · intro w hSw
    try dsimp only at hSw
    go_simp
  simp only [Act.put]
  refine wpAnyH_ready (rs := [1]) (by kernel_rfl) (by simp) ?_
  refine AllReadyH.cons rfl (fun K hK => ?_) AllReadyH.nil
  go_simp
  refine does_c.mono ?_
  rintro e w2 ⟨rfl, rfl⟩
  go_wp2_with fail
  refine hK.out _ _ hS1.out (fun hHeld => ?_)
  clear hK K
  try simp only [Act.put, List.setIfInBounds_toArray, List.set_cons_zero, List.set_cons_succ]
  refine wpAnyH_take (i := 4) (v := .pointer (some ⟨w.heap.size, k, none⟩)) rfl (by kernel_rfl) (by kernel_rfl) (by kernel_rfl) (fun _ _ _ h => h) (Or.inl ⟨by rfl, ?_⟩) (by assumption) ?_
  · intro w hSw
    try dsimp only at hSw
    go_simp
  simp only [Act.put, List.setIfInBounds_toArray]
  refine wpAnyH_ready (rs := [5]) (by kernel_rfl) (by simp) ?_
  refine AllReadyH.cons rfl (fun K hK => ?_) AllReadyH.nil
  go_simp
  refine hK.out _ _ hS1.out (fun hHeld => ?_)
  clear hK K
  try simp only [Act.put, List.setIfInBounds_toArray, List.set_cons_zero, List.set_cons_succ]
  refine wpAnyH_ready (rs := [10]) (by kernel_rfl) (by simp) ?_
  refine AllReadyH.cons rfl (fun K hK => ?_) AllReadyH.nil
  go_simp
  refine Hc.out.mono ?_
  rintro e w2 ⟨rfl, hr⟩
  have t0 := (HR.out _ hr).1.cell 0
  have tf := (HR.out _ hr).1.frozen 0
  have tl := (HR.out _ hr).1.lt
  go_wp2_with fail
  refine hK.out _ _ (hS2.out _ hr) (fun hHeld => ?_)
  clear hK K
  try simp only [Act.put, List.setIfInBounds_toArray, List.set_cons_zero, List.set_cons_succ]
  refine wpAnyH_ready (rs := [11]) (by kernel_rfl) (by simp) ?_
  refine AllReadyH.cons rfl (fun K hK => ?_) AllReadyH.nil
  go_simp
  refine hK.out _ _ (hS3.out _ hr) (fun hHeld => ?_)
  clear hK K
  try simp only [Act.put, List.setIfInBounds_toArray, List.set_cons_zero, List.set_cons_succ]
  refine wpAnyH_done (by kernel_rfl) ?_ _
  refine NoPanic.normal ?_
  refine leaves_cons (f := 41) (args := #[.pointer (some ⟨vb, 0, none⟩), .pointer (some ⟨to, 0, none⟩)]) (by simp) (by simp [go_sem]) ?_
  refine catch_idle.mono ?_
  rintro e u' w'' ⟨rfl, rfl, rfl⟩
  simp [Leaves, settle, results, Try.results40, go_sem]
  exact ⟨_, hr, rfl⟩
end
end Go.Proofs.Ytndldoamadmphaa
namespace Go.Proofs.Ytndldoamadmphaa
open Go.RowKit
/-- Q, but at a panic: R, and what is deferred. -/
def PanicTo (D : List Deferred) (R : List PanicEntry → World → Prop) (Q : Exit → Act → World → Prop) : Exit → Act → World → Prop
  | .panic c, a, w => a.defers = D ∧ R c w
  | e, a, w => Q e a w
theorem wp_region_panicTo {P : Program} {id : Nat} {ops : Array Oper} {b : Bool} {Q : Exit → Act → World → Prop} {a : Act} {w : World} {D : List Deferred} {R : List PanicEntry → World → Prop} (hq : ∀ c a w, a.defers = D → R c w → Q (.panic c) a w) (h : (Code.region id ops b).wp P (PanicTo D R Q) a w) : (Code.region id ops b).wp P Q a w :=
  Code.wp_mono (fun e a w hp => by
    cases e
    all_goals first | exact hq _ _ _ hp.1 hp.2 | exact hp) h
section
variable {w : World} {vb to mb ib gb xb m g gp k f : Nat} {i : In} {R : World → Prop}
set_option maxRecDepth 100000 in
set_option maxHeartbeats 2000000 in
theorem do1_no (hm : Blk w mb 29 #[.pointer (some ⟨m, 0, none⟩)]) (hi : Blk w ib 40 #[.int .i64 i.op, .int .i64 i.a, .int .i64 i.b, .int .i64 i.c]) (hg : Blk w gb 3 #[.int .i64 g]) (hx : Blk w xb 74 #[.pointer (some ⟨gp, 0, none⟩)])
    (hn : to ≠ vb) (hop : i.op = k) (hf : opFs[k]? = some f)
    (hcall : Calls Try.prog f #[.pointer (some ⟨m, 0, none⟩), .int .i64 g, .pointer (some ⟨gp, 0, none⟩), i.v, .pointer (some ⟨vb, 4, none⟩)] (w.drew.alloc (.cells (opsV m) 81)) fun e w' => e = .panicked [{ v := faultV, recovered := false }] ∧ R w')
    (hR : ∀ w', R w' → Blk w' to 3 #[.int .i64 1] ∧ ∃ cv a4 a5, Blk w' vb 34 cv ∧ cv[4]? = some a4 ∧ cv[5]? = some a5) :
    Calls Try.prog 40 #[.pointer (some ⟨vb, 0, none⟩), .pointer (some ⟨to, 0, none⟩), .pointer (some ⟨mb, 0, none⟩), .pointer (some ⟨ib, 0, none⟩), .pointer (some ⟨gb, 0, none⟩), .pointer (some ⟨xb, 0, none⟩)] w fun e w' =>
      e = .returned (.tuple #[]) ∧ ∃ w1 cv, R w1 ∧ Blk w1 vb 34 cv ∧ Upd (fun k => k = vb ∨ k = to) w1 w' ∧ Blk w' vb 34 ((cv.setIfInBounds 4 (.int .i64 0)).setIfInBounds 5 (.bool true)) ∧ Blk w' to 3 #[.int .i64 5] := by
  have hmf : ∀ (fn : Fn) (first cap : Array Value) (w : World), (Instr.makeFunc fn first cap).run Try.prog w = .ok (.func fn first cap) w := fun _ _ _ _ => rfl
  have m0 : w.cell? ⟨mb, 0, none⟩ = some (.pointer (some ⟨m, 0, none⟩)) := hm.cell 0
  have g0 : w.cell? ⟨gb, 0, none⟩ = some (.int .i64 g) := hg.cell 0
  have x0 : w.cell? ⟨xb, 0, none⟩ = some (.pointer (some ⟨gp, 0, none⟩)) := hx.cell 0
  have i0 : w.cell? ⟨ib, 0, none⟩ = some (.int .i64 k) := by rw [← hop]; exact hi.cell 0
  have i1 : w.cell? ⟨ib, 1, none⟩ = some (.int .i64 i.a) := hi.cell 1
  have i2 : w.cell? ⟨ib, 2, none⟩ = some (.int .i64 i.b) := hi.cell 2
  have i3 : w.cell? ⟨ib, 3, none⟩ = some (.int .i64 i.c) := hi.cell 3
  have hcf : ∀ (args : Array Value) (w : World), Sem.run Try.prog (callFunc f args) w = .ok (.enter f args) w := enters hf
  have hml := hm.lt
  have hgl := hg.lt
  have hxl := hx.lt
  have hil := hi.lt
  have hk18 : k < 18 := by
    have := (List.getElem?_eq_some_iff.1 hf).1
    exact this
  have hkI : (k : Int) < 18 := by omega
  have hrow : (w.drew.alloc (.cells (opsV m) 81)).cell? ⟨w.heap.size, k, none⟩ = some (opV m f) := by
    have := (Blk.new w.drew 81 (opsV m)).cell k
    rw [opsV_at hf] at this
    exact this
  have hrow2 : (w.alloc (.cells (opsV m) 81)).drew.cell? ⟨w.heap.size, k, none⟩ = some (.func (.func f) #[.pointer (some ⟨m, 0, none⟩)] #[]) := hrow
  clear hrow
  have hops : (opsV m)[k]? = some (.func (.func f) #[.pointer (some ⟨m, 0, none⟩)] #[]) := opsV_at (m := m) hf
  have hS : ∀ W, Blk W mb 29 #[.pointer (some ⟨m, 0, none⟩)] → Blk W ib 40 #[.int .i64 i.op, .int .i64 i.a, .int .i64 i.b, .int .i64 i.c] → Blk W gb 3 #[.int .i64 g] → Blk W xb 74 #[.pointer (some ⟨gp, 0, none⟩)] →
      W.cell? ⟨mb, 0, none⟩ = some (.pointer (some ⟨m, 0, none⟩)) ∧ W.cell? ⟨gb, 0, none⟩ = some (.int .i64 g) ∧ W.cell? ⟨xb, 0, none⟩ = some (.pointer (some ⟨gp, 0, none⟩)) ∧ W.cell? ⟨ib, 0, none⟩ = some (.int .i64 k) ∧ W.cell? ⟨ib, 1, none⟩ = some (.int .i64 i.a) ∧ W.cell? ⟨ib, 2, none⟩ = some (.int .i64 i.b) ∧ W.cell? ⟨ib, 3, none⟩ = some (.int .i64 i.c) :=
    fun W q1 q2 q3 q4 => ⟨q1.cell 0, q3.cell 0, q4.cell 0, by rw [← hop]; exact q2.cell 0, q2.cell 1, q2.cell 2, q2.cell 3⟩
  have hS0 := Lib.hid (hS w hm hi hg hx)
  have hS1 := Lib.hid (hS _ (hm.alloc (.cells (opsV m) 81)).drew (hi.alloc _).drew (hg.alloc _).drew (hx.alloc _).drew)
  clear hS
  unfold In.v at hcall
  rw [hop] at hcall
  have Hc := Lib.hid hcall
  have HR := Lib.hid hR
  clear hcall hR hm hi hg hx hop hf
  go_enter_defers Try.func40, Try.ntmps40
  go_wp2_with fail
  refine wp_region_panicTo (D := [{ target := Target.fn (Fn.func 41) #[.pointer (some ⟨vb, 0, none⟩), .pointer (some ⟨to, 0, none⟩)], args := #[] }]) (R := fun c w => c = [{ v := faultV, recovered := false }] ∧ R w) ?_ ?_
  · rintro c ⟨tmps, defers⟩ w2 hd ⟨hc, hr⟩
    obtain ⟨ht, cv, a4, a5, hv, h4, h5⟩ := HR.out _ hr
    have hd' : defers = [{ target := Target.fn (Fn.func 41) #[.pointer (some ⟨vb, 0, none⟩), .pointer (some ⟨to, 0, none⟩)], args := #[] }] := hd
    subst hd'
    subst hc
    refine leaves_cons (f := 41) (args := #[.pointer (some ⟨vb, 0, none⟩), .pointer (some ⟨to, 0, none⟩)]) (by simp) (by simp [go_sem]) ?_
    refine (catch_panicking h4 h5 hv ht hn).mono ?_
    rintro e u' w3 ⟨rfl, rfl, k1, k2, k3⟩
    simp [Leaves, settle, results, Try.results40, go_sem]
    exact ⟨_, hr, _, hv, k1, k2, k3⟩
  refine wp_region_held_drew (S := (fun W => W.cell? ⟨mb, 0, none⟩ = some (.pointer (some ⟨m, 0, none⟩)) ∧ W.cell? ⟨gb, 0, none⟩ = some (.int .i64 g) ∧ W.cell? ⟨xb, 0, none⟩ = some (.pointer (some ⟨gp, 0, none⟩)) ∧ W.cell? ⟨ib, 0, none⟩ = some (.int .i64 k) ∧ W.cell? ⟨ib, 1, none⟩ = some (.int .i64 i.a) ∧ W.cell? ⟨ib, 2, none⟩ = some (.int .i64 i.b) ∧ W.cell? ⟨ib, 3, none⟩ = some (.int .i64 i.c))) (by kernel_rfl) hS0.out (fun hHeld => ?_)
  refine wpAnyH_take (i := 0) (v := .pointer (some ⟨m, 0, none⟩)) rfl (by kernel_rfl) (by kernel_rfl) (by kernel_rfl) (fun _ _ _ h => h) (Or.inl ⟨by rfl, ?_⟩) (by assumption) ?_
  · intro w hSw
    try dsimp only at hSw
    go_simp
  simp only [Act.put, List.setIfInBounds_toArray]
  refine wpAnyH_take (i := 2) (v := .pointer (some ⟨ib, 0, none⟩)) rfl (by kernel_rfl) (by kernel_rfl) (by kernel_rfl) (fun _ _ _ h => h) (Or.inl ⟨by rfl, ?_⟩) (by assumption) ?_
  · intro w hSw
    try dsimp only at hSw
    go_simp
  simp only [Act.put]
  refine wpAnyH_take (i := 3) (v := .int .i64 k) rfl (by kernel_rfl) (by kernel_rfl) (by kernel_rfl) (fun _ _ _ h => h) (Or.inl ⟨by rfl, ?_⟩) (by assumption) ?_
  · intro w hSw
    try dsimp only at hSw
    go_simp
  simp only [Act.put]
  refine wpAnyH_take (i := 6) (v := .int .i64 g) rfl (by kernel_rfl) (by kernel_rfl) (by kernel_rfl) (fun _ _ _ h => h) (Or.inl ⟨by rfl, ?_⟩) (by assumption) ?_
  · intro w hSw
    try dsimp only at hSw
    go_simp
  simp only [Act.put]
  refine wpAnyH_take (i := 7) (v := .pointer (some ⟨gp, 0, none⟩)) rfl (by kernel_rfl) (by kernel_rfl) (by kernel_rfl) (fun _ _ _ h => h) (Or.inl ⟨by rfl, ?_⟩) (by assumption) ?_
  · intro w hSw
    try dsimp only at hSw
    go_simp
  simp only [Act.put]
  refine wpAnyH_take (i := 8) (v := .agg #[.int .i64 k, .int .i64 i.a, .int .i64 i.b, .int .i64 i.c]) rfl (by kernel_rfl) (by kernel_rfl) (by kernel_rfl) (fun _ _ _ h => h) (Or.inl ⟨by rfl, ?_⟩) (by assumption) ?_
  · intro w hSw
    try dsimp only at hSw
    go_simp
  simp only [Act.put]
  refine wpAnyH_take (i := 9) (v := .pointer (some ⟨vb, 4, none⟩)) rfl (by kernel_rfl) (by kernel_rfl) (by kernel_rfl) (fun _ _ _ h => h) (Or.inl ⟨by rfl, ?_⟩) (by assumption) ?_
  · intro w hSw
    try dsimp only at hSw
    go_simp
  simp only [Act.put]
  refine wpAnyH_ready (rs := [1]) (by kernel_rfl) (by simp) ?_
  refine AllReadyH.cons rfl (fun K hK => ?_) AllReadyH.nil
  go_simp
  refine does_c.mono ?_
  rintro e w2 ⟨rfl, rfl⟩
  go_wp2_with fail
  refine hK.out _ _ hS1.out (fun hHeld => ?_)
  clear hK K
  try simp only [Act.put, List.setIfInBounds_toArray, List.set_cons_zero, List.set_cons_succ]
  refine wpAnyH_take (i := 4) (v := .pointer (some ⟨w.heap.size, k, none⟩)) rfl (by kernel_rfl) (by kernel_rfl) (by kernel_rfl) (fun _ _ _ h => h) (Or.inl ⟨by rfl, ?_⟩) (by assumption) ?_
  · intro w hSw
    try dsimp only at hSw
    go_simp
  simp only [Act.put, List.setIfInBounds_toArray]
  refine wpAnyH_ready (rs := [5]) (by kernel_rfl) (by simp) ?_
  refine AllReadyH.cons rfl (fun K hK => ?_) AllReadyH.nil
  go_simp
  refine hK.out _ _ hS1.out (fun hHeld => ?_)
  clear hK K
  try simp only [Act.put, List.setIfInBounds_toArray, List.set_cons_zero, List.set_cons_succ]
  refine wpAnyH_ready (rs := [10]) (by kernel_rfl) (by simp) ?_
  refine AllReadyH.cons rfl (fun K hK => ?_) AllReadyH.nil
  go_simp
  refine Hc.out.mono ?_
  rintro e w2 ⟨rfl, hr⟩
  exact ⟨rfl, rfl, hr⟩
end
end Go.Proofs.Ytndldoamadmphaa
namespace Go.Proofs.Ytndldoamadmphaa
open Go.RowKit
def noCommit : Value := .agg #[.int .i64 0, .int .i64 0, .int .i64 0, .int .i64 0, .int .i64 0, .bool false]
section
variable {w : World} {c : Col} {m : Nat} {Y : Lay} {M : Mo}
set_option maxRecDepth 100000 in
set_option maxHeartbeats 1200000 in
theorem mdo_idle (h : ModelAt w c m Y M) (g : Int) (hs : stateM M g = 0) :
    Calls Try.prog 16 #[.pointer (some ⟨m, 0, none⟩), .int .i64 g] w fun e w' => e = .returned (.tuple #[noCommit, .int .i64 4]) ∧ Upd (fun _ => False) w w' := by
  have hw1 : Upd (fun _ => False) w (((w.alloc (.cells #[.pointer (some ⟨m, 0, none⟩)] 29)).alloc (.cells #[.int .i64 g] 3)).alloc (.cells #[.int .i64 0, .int .i64 0, .int .i64 0, .int .i64 0, .int .i64 0, .bool false] 34)) := (((Upd.refl _ _).alloc _).alloc _).alloc _
  have Hs := Lib.hid (mstate_c (h.frame hw1 (fun _ e => e.elim)) g)
  have Hw := Lib.hid hw1
  rw [hs] at Hs
  clear h hs hw1
  go_enter Try.func16, Try.ntmps16
  go_wp2_with (go_at_call 18; refine Hs.out.mono ?_; rintro e w1 ⟨rfl, rfl⟩)
  refine bodyPost_ret (v := .tuple #[noCommit, .int .i64 4]) (by simp [results, Try.results16, go_sem, noCommit]) rfl ⟨rfl, Hw.out⟩
set_option maxRecDepth 100000 in
set_option maxHeartbeats 1200000 in
theorem mdo_state (h : ModelAt w c m Y M) (g : Int) (hs : stateM M g ≠ 0) (hs1 : stateM M g ≠ 1) :
    Calls Try.prog 16 #[.pointer (some ⟨m, 0, none⟩), .int .i64 g] w fun e w' => e = .returned (.tuple #[noCommit, .int .i64 5]) ∧ Upd (fun _ => False) w w' := by
  have hw1 : Upd (fun _ => False) w (((w.alloc (.cells #[.pointer (some ⟨m, 0, none⟩)] 29)).alloc (.cells #[.int .i64 g] 3)).alloc (.cells #[.int .i64 0, .int .i64 0, .int .i64 0, .int .i64 0, .int .i64 0, .bool false] 34)) := (((Upd.refl _ _).alloc _).alloc _).alloc _
  have Hs := Lib.hid (mstate_c (h.frame hw1 (fun _ e => e.elim)) g)
  have Hw := Lib.hid hw1
  obtain ⟨s, e⟩ : ∃ s, s = stateM M g := ⟨_, rfl⟩
  rw [← e] at Hs hs hs1
  have hs0 : decide (s = 0) = false := by simpa using hs
  have hs2 : decide (s = 1) = false := by simpa using hs1
  clear h hw1 e
  go_enter Try.func16, Try.ntmps16
  go_wp2_with (go_at_call 18; refine Hs.out.mono ?_; rintro e w1 ⟨rfl, rfl⟩)
  refine bodyPost_ret (v := .tuple #[noCommit, .int .i64 5]) (by simp [results, Try.results16, go_sem, noCommit]) rfl ⟨rfl, Hw.out⟩
end
end Go.Proofs.Ytndldoamadmphaa
