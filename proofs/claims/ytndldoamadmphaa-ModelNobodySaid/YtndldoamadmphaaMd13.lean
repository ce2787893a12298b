/- Do's own closure: the instruction is called through its function's value; it returns. -/
import Derived.Test.YtndldoamadmphaaMd12
import Derived.Deep.RegionHeld3
namespace Go.Proofs.Ytndldoamadmphaa
open Go.RowKit
theorem opsV_at {m k f : Nat} (h : opFs[k]? = some f) : (opsV m)[k]? = some (opV m f) := by
  have hm : (opsV m).toList = opFs.map (opV m) := rfl
  rw [← Array.getElem?_toList, hm, List.getElem?_map, h]
  rfl
theorem enters {k f : Nat} (h : opFs[k]? = some f) (args : Array Value) (w : World) : Sem.run Try.prog (callFunc f args) w = .ok (.enter f args) w := by
  have hm : f ∈ opFs := List.mem_of_getElem? h
  simp only [opFs, List.mem_cons, List.not_mem_nil, or_false] at hm
  rcases hm with rfl | rfl | rfl | rfl | rfl | rfl | rfl | rfl | rfl | rfl | rfl | rfl | rfl | rfl | rfl | rfl | rfl | rfl <;> (clear h; change Sem.run _ _ _ = _; first | kernel_rfl | rfl)
section
variable {w : World} {vb to mb ib gb xb m g gp k f : Nat} {i : In} {ret : Int} {R : World → Prop}
set_option maxRecDepth 100000 in
set_option maxHeartbeats 2000000 in
theorem do1_yes (hm : Blk w mb 29 #[.pointer (some ⟨m, 0, none⟩)]) (hi : Blk w ib 40 #[.int .i64 i.op, .int .i64 i.a, .int .i64 i.b, .int .i64 i.c]) (hg : Blk w gb 3 #[.int .i64 g]) (hx : Blk w xb 74 #[.pointer (some ⟨gp, 0, none⟩)])
    (hn : to ≠ mb ∧ to ≠ ib ∧ to ≠ gb ∧ to ≠ xb) (hop : i.op = k) (hf : opFs[k]? = some f)
    (hcall : Calls Try.prog f #[.pointer (some ⟨m, 0, none⟩), .int .i64 g, .pointer (some ⟨gp, 0, none⟩), i.v, .pointer (some ⟨vb, 4, none⟩)] (w.drew.alloc (.cells (opsV m) 81)) fun e w' => e = .returned (.int .i64 ret) ∧ R w')
    (hR : ∀ w', R w' → Blk w' to 3 #[.int .i64 1] ∧ Blk w' mb 29 #[.pointer (some ⟨m, 0, none⟩)] ∧ Blk w' ib 40 #[.int .i64 i.op, .int .i64 i.a, .int .i64 i.b, .int .i64 i.c] ∧ Blk w' gb 3 #[.int .i64 g] ∧ Blk w' xb 74 #[.pointer (some ⟨gp, 0, none⟩)]) :
    Calls Try.prog 40 #[.pointer (some ⟨vb, 0, none⟩), .pointer (some ⟨to, 0, none⟩), .pointer (some ⟨mb, 0, none⟩), .pointer (some ⟨ib, 0, none⟩), .pointer (some ⟨gb, 0, none⟩), .pointer (some ⟨xb, 0, none⟩)] w fun e w' =>
      e = .returned (.tuple #[]) ∧ ∃ w1, R w1 ∧ w' = (w1.setCell ⟨to, 0, none⟩ (.int .i64 ret)).alloc (.cells #[] 79) := by
  have hmf : ∀ (fn : Fn) (first cap : Array Value) (w : World), (Instr.makeFunc fn first cap).run Try.prog w = .ok (.func fn first cap) w := fun _ _ _ _ => rfl
  have m0 : w.cell? ⟨mb, 0, none⟩ = some (.pointer (some ⟨m, 0, none⟩)) := hm.cell 0
  have g0 : w.cell? ⟨gb, 0, none⟩ = some (.int .i64 g) := hg.cell 0
  have x0 : w.cell? ⟨xb, 0, none⟩ = some (.pointer (some ⟨gp, 0, none⟩)) := hx.cell 0
  have i0 : w.cell? ⟨ib, 0, none⟩ = some (.int .i64 k) := by rw [← hop]; exact hi.cell 0
  have i1 : w.cell? ⟨ib, 1, none⟩ = some (.int .i64 i.a) := hi.cell 1
  have i2 : w.cell? ⟨ib, 2, none⟩ = some (.int .i64 i.b) := hi.cell 2
  have i3 : w.cell? ⟨ib, 3, none⟩ = some (.int .i64 i.c) := hi.cell 3
  have hcf : ∀ (args : Array Value) (w : World), Sem.run Try.prog (callFunc f args) w = .ok (.enter f args) w := enters hf
  have hml := hm.lt
  have hgl := hg.lt
  have hxl := hx.lt
  have hil := hi.lt
  have hk18 : k < 18 := by
    have := (List.getElem?_eq_some_iff.1 hf).1
    exact this
  have hkI : (k : Int) < 18 := by omega
  have hrow : (w.drew.alloc (.cells (opsV m) 81)).cell? ⟨w.heap.size, k, none⟩ = some (opV m f) := by
    have := (Blk.new w.drew 81 (opsV m)).cell k
    rw [opsV_at hf] at this
    exact this
  have hrow2 : (w.alloc (.cells (opsV m) 81)).drew.cell? ⟨w.heap.size, k, none⟩ = some (.func (.func f) #[.pointer (some ⟨m, 0, none⟩)] #[]) := hrow
  clear hrow
  have hops : (opsV m)[k]? = some (.func (.func f) #[.pointer (some ⟨m, 0, none⟩)] #[]) := opsV_at (m := m) hf
  have hS : ∀ W, Blk W mb 29 #[.pointer (some ⟨m, 0, none⟩)] → Blk W ib 40 #[.int .i64 i.op, .int .i64 i.a, .int .i64 i.b, .int .i64 i.c] → Blk W gb 3 #[.int .i64 g] → Blk W xb 74 #[.pointer (some ⟨gp, 0, none⟩)] →
      W.cell? ⟨mb, 0, none⟩ = some (.pointer (some ⟨m, 0, none⟩)) ∧ W.cell? ⟨gb, 0, none⟩ = some (.int .i64 g) ∧ W.cell? ⟨xb, 0, none⟩ = some (.pointer (some ⟨gp, 0, none⟩)) ∧ W.cell? ⟨ib, 0, none⟩ = some (.int .i64 k) ∧ W.cell? ⟨ib, 1, none⟩ = some (.int .i64 i.a) ∧ W.cell? ⟨ib, 2, none⟩ = some (.int .i64 i.b) ∧ W.cell? ⟨ib, 3, none⟩ = some (.int .i64 i.c) :=
    fun W q1 q2 q3 q4 => ⟨q1.cell 0, q3.cell 0, q4.cell 0, by rw [← hop]; exact q2.cell 0, q2.cell 1, q2.cell 2, q2.cell 3⟩
  have hS0 := Lib.hid (hS w hm hi hg hx)
  have hS1 := Lib.hid (hS _ (hm.alloc (.cells (opsV m) 81)).drew (hi.alloc _).drew (hg.alloc _).drew (hx.alloc _).drew)
  have hS2 := Lib.hid (fun W (q : R W) => hS W (hR W q).2.1 (hR W q).2.2.1 (hR W q).2.2.2.1 (hR W q).2.2.2.2)
  have hS3 := Lib.hid (fun W (q : R W) => hS (W.setCell ⟨to, 0, none⟩ (.int .i64 ret)) ((hR W q).2.1.far (p := ⟨to, 0, none⟩) hn.1.symm _) ((hR W q).2.2.1.far (p := ⟨to, 0, none⟩) hn.2.1.symm _) ((hR W q).2.2.2.1.far (p := ⟨to, 0, none⟩) hn.2.2.1.symm _) ((hR W q).2.2.2.2.far (p := ⟨to, 0, none⟩) hn.2.2.2.symm _))
  clear hS
  unfold In.v at hcall
  rw [hop] at hcall
  have Hc := Lib.hid hcall
  have HR := Lib.hid hR
  clear hcall hR hm hi hg hx hop hf hn
  go_enter_defers Try.func40, Try.ntmps40
  go_wp2_with fail
  refine wp_region_noPanic ?_
  refine wp_region_held_drew (S := (fun W => W.cell? ⟨mb, 0, none⟩ = some (.pointer (some ⟨m, 0, none⟩)) ∧ W.cell? ⟨gb, 0, none⟩ = some (.int .i64 g) ∧ W.cell? ⟨xb, 0, none⟩ = some (.pointer (some ⟨gp, 0, none⟩)) ∧ W.cell? ⟨ib, 0, none⟩ = some (.int .i64 k) ∧ W.cell? ⟨ib, 1, none⟩ = some (.int .i64 i.a) ∧ W.cell? ⟨ib, 2, none⟩ = some (.int .i64 i.b) ∧ W.cell? ⟨ib, 3, none⟩ = some (.int .i64 i.c))) (by kernel_rfl) hS0.out (fun hHeld => ?_)
  refine wpAnyH_take (i := 0) (v := .pointer (some ⟨m, 0, none⟩)) rfl (by kernel_rfl) (by kernel_rfl) (by kernel_rfl) (fun _ _ _ h => h) (Or.inl ⟨by rfl, ?_⟩) (by assumption) ?_
  · intro w hSw
    try dsimp only at hSw
    go_simp
  simp only [Act.put, List.setIfInBounds_toArray]
  refine wpAnyH_take (i := 2) (v := .pointer (some ⟨ib, 0, none⟩)) rfl (by kernel_rfl) (by kernel_rfl) (by kernel_rfl) (fun _ _ _ h => h) (Or.inl ⟨by rfl, ?_⟩) (by assumption) ?_
  · intro w hSw
    try dsimp only at hSw
    go_simp
  simp only [Act.put]
  refine wpAnyH_take (i := 3) (v := .int .i64 k) rfl (by kernel_rfl) (by kernel_rfl) (by kernel_rfl) (fun _ _ _ h => h) (Or.inl ⟨by rfl, ?_⟩) (by assumption) ?_
  · intro w hSw
    try dsimp only at hSw
    go_simp
  simp only [Act.put]
  refine wpAnyH_take (i := 6) (v := .int .i64 g) rfl (by kernel_rfl) (by kernel_rfl) (by kernel_rfl) (fun _ _ _ h => h) (Or.inl ⟨by rfl, ?_⟩) (by assumption) ?_
  · intro w hSw
    try dsimp only at hSw
    go_simp
  simp only [Act.put]
  refine wpAnyH_take (i := 7) (v := .pointer (some ⟨gp, 0, none⟩)) rfl (by kernel_rfl) (by kernel_rfl) (by kernel_rfl) (fun _ _ _ h => h) (Or.inl ⟨by rfl, ?_⟩) (by assumption) ?_
  · intro w hSw
    try dsimp only at hSw
    go_simp
  simp only [Act.put]
  refine wpAnyH_take (i := 8) (v := .agg #[.int .i64 k, .int .i64 i.a, .int .i64 i.b, .int .i64 i.c]) rfl (by kernel_rfl) (by kernel_rfl) (by kernel_rfl) (fun _ _ _ h => h) (Or.inl ⟨by rfl, ?_⟩) (by assumption) ?_
  · intro w hSw
    try dsimp only at hSw
    go_simp
  simp only [Act.put]
  refine wpAnyH_take (i := 9) (v := .pointer (some ⟨vb, 4, none⟩)) rfl (by kernel_rfl) (by kernel_rfl) (by kernel_rfl) (fun _ _ _ h => h) (Or.inl ⟨by rfl, ?_⟩) (by assumption) ?_
  · intro w hSw
    try dsimp only at hSw
    go_simp
  simp only [Act.put]
  refine wpAnyH_ready (rs := [1]) (by kernel_rfl) (by simp) ?_
  refine AllReadyH.cons rfl (fun K hK => ?_) AllReadyH.nil
  go_simp
  refine does_c.mono ?_
  rintro e w2 ⟨rfl, rfl⟩
  go_wp2_with fail
  refine hK.out _ _ hS1.out (fun hHeld => ?_)
  clear hK K
  try simp only [Act.put, List.setIfInBounds_toArray, List.set_cons_zero, List.set_cons_succ]
  refine wpAnyH_take (i := 4) (v := .pointer (some ⟨w.heap.size, k, none⟩)) rfl (by kernel_rfl) (by kernel_rfl) (by kernel_rfl) (fun _ _ _ h => h) (Or.inl ⟨by rfl, ?_⟩) (by assumption) ?_
  · intro w hSw
    try dsimp only at hSw
    go_simp
  simp only [Act.put, List.setIfInBounds_toArray]
  refine wpAnyH_ready (rs := [5]) (by kernel_rfl) (by simp) ?_
  refine AllReadyH.cons rfl (fun K hK => ?_) AllReadyH.nil
  go_simp
  refine hK.out _ _ hS1.out (fun hHeld => ?_)
  clear hK K
  try simp only [Act.put, List.setIfInBounds_toArray, List.set_cons_zero, List.set_cons_succ]
  refine wpAnyH_ready (rs := [10]) (by kernel_rfl) (by simp) ?_
  refine AllReadyH.cons rfl (fun K hK => ?_) AllReadyH.nil
  go_simp
  refine Hc.out.mono ?_
  rintro e w2 ⟨rfl, hr⟩
  have t0 := (HR.out _ hr).1.cell 0
  have tf := (HR.out _ hr).1.frozen 0
  have tl := (HR.out _ hr).1.lt
  go_wp2_with fail
  refine hK.out _ _ (hS2.out _ hr) (fun hHeld => ?_)
  clear hK K
  try simp only [Act.put, List.setIfInBounds_toArray, List.set_cons_zero, List.set_cons_succ]
  refine wpAnyH_ready (rs := [11]) (by kernel_rfl) (by simp) ?_
  refine AllReadyH.cons rfl (fun K hK => ?_) AllReadyH.nil
  go_simp
  refine hK.out _ _ (hS3.out _ hr) (fun hHeld => ?_)
  clear hK K
  try simp only [Act.put, List.setIfInBounds_toArray, List.set_cons_zero, List.set_cons_succ]
  refine wpAnyH_done (by kernel_rfl) ?_ _
  refine NoPanic.normal ?_
  refine leaves_cons (f := 41) (args := #[.pointer (some ⟨vb, 0, none⟩), .pointer (some ⟨to, 0, none⟩)]) (by simp) (by simp [go_sem]) ?_
  refine catch_idle.mono ?_
  rintro e u' w'' ⟨rfl, rfl, rfl⟩
  simp [Leaves, settle, results, Try.results40, go_sem]
  exact ⟨_, hr, rfl⟩
end
end Go.Proofs.Ytndldoamadmphaa
